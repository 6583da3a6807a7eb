/- Texts of the proof, joined: N12 W5 W6 R32 Br16 W7 Ev30 W8 R33 Br18 D1 C9h C11 D2 W10 D3 Pu18 Pu19 Pu40 Pu41 F1 Pu20 Pu21 Pu22 -/
import Derived.Test.YtpadpcjdakfokaaGreatDoorB5
set_option linter.unusedVariables false
set_option linter.unusedSimpArgs false

/- Contracts: what is left of limbs. Printed by gen.py. -/
namespace Go.Proofs.YtpadpcjdakfokaaGreatDoor.Ev
open Go Go.Proofs
set_option linter.unusedVariables false
set_option linter.unusedSimpArgs false


attribute [local irreducible] Lb
def subI (E : Env) (x y : List Int) : Int × Int × List Int → St := fun p => ⟨[(0, .sli .u32 x), (1, .sli .u32 y), (6, .ms 0 1 (.l 0) (.s (E.len x))), (7, .int .u32 (.s p.2.1)), (22, .int .i64 (.s (E.len x))), (23, .int .i64 (.s p.1))], [.ints true .u32 p.2.2]⟩
theorem c_natSub (a b : List Int) (ha : Lb a) (hb : Lb b) (hla : a.length < 134217728) (hlb : b.length < 134217728) : ∃ t : List Int × Bool, t = (if lv a < lv b then ([], false) else (lim (lv a - lv b), true)) ∧ CallsA Tryz.prog 159 [.sli .u32 a, .sli .u32 b] (.tup [.sli .u32 t.1, .bool (.s t.2)]) := by
  refine ⟨_, rfl, ?_⟩
  generalize hr : (if lv a < lv b then ([], false) else (lim (lv a - lv b), true) : List Int × Bool) = r
  have hlx := lim_length_le' ha
  have hly := lim_length_le' hb
  have hx := lim_lb (lv a)
  have hy := lim_lb (lv b)
  have vx := lv_lim (lv a)
  have vy := lv_lim (lv b)
  have hlen : lv b ≤ lv a → (lim (lv b)).length ≤ (lim (lv a)).length := lim_mono
  obtain ⟨x, ex⟩ : ∃ x, lim (lv a) = x := ⟨_, rfl⟩
  obtain ⟨y, ey⟩ : ∃ y, lim (lv b) = y := ⟨_, rfl⟩
  rw [ex] at hlx hx vx hlen
  rw [ey] at hly hy vy hlen
  rw [← vx, ← vy] at hr hlen
  have lx : x.length < 134217728 := by omega
  have ly : y.length < 134217728 := by omega
  have cx : x.length ≤ 268435456 := by omega
  have cy : y.length ≤ 268435456 := by omega
  have ca : a.length < 9223372036854775808 := by omega
  have cb : b.length < 9223372036854775808 := by omega
  refine callsA_of hG hm Tryz.func159 (by kernel_rfl) ?_
  intro E hE lp hl
  cbv
  (first | (apply E_pcallX hE (c_cut a ha ca); (case hm => rfl); (case hle => (repeat' (first | exact u_nil | apply u_cons | apply u2_agg | exact u2_int | exact u1_int | exact u2_bool | exact u1_bool | exact u2_sli | exact u1_sli | exact u2_s0 | exact u1_s0))); all_goals (first | (intro x' hx'; cbv) | (assumption))) | (apply E_callX hE (c_cut a ha ca); (case hf => rfl); (case hc => (cbv <;> trivial)); (case hle => (repeat' (first | exact u_nil | apply u_cons | apply u2_agg | exact u2_int | exact u1_int | exact u2_bool | exact u1_bool | exact u2_sli | exact u1_sli | exact u2_s0 | exact u1_s0))); all_goals (first | (intro x' hx'; cbv) | (assumption))))
  have hx2 : x' = x := Eq.trans hx' ex
  rw [hx2]
  clear hx' hx2
  (first | (apply E_pcallX hE (c_cut b hb cb); (case hm => rfl); (case hle => (repeat' (first | exact u_nil | apply u_cons | apply u2_agg | exact u2_int | exact u1_int | exact u2_bool | exact u1_bool | exact u2_sli | exact u1_sli | exact u2_s0 | exact u1_s0))); all_goals (first | (intro y' hy'; cbv) | (assumption))) | (apply E_callX hE (c_cut b hb cb); (case hf => rfl); (case hc => (cbv <;> trivial)); (case hle => (repeat' (first | exact u_nil | apply u_cons | apply u2_agg | exact u2_int | exact u1_int | exact u2_bool | exact u1_bool | exact u2_sli | exact u1_sli | exact u2_s0 | exact u1_s0))); all_goals (first | (intro y' hy'; cbv) | (assumption))))
  have hy2 : y' = y := Eq.trans hy' ey
  rw [hy2]
  clear hy' hy2
  (first | (apply E_pcallX hE (c_natCmp x y hx hy cx cy); (case hm => rfl); (case hle => (repeat' (first | exact u_nil | apply u_cons | apply u2_agg | exact u2_int | exact u1_int | exact u2_bool | exact u1_bool | exact u2_sli | exact u1_sli | exact u2_s0 | exact u1_s0))); all_goals (first | (intro q hq; cbv) | (assumption))) | (apply E_callX hE (c_natCmp x y hx hy cx cy); (case hf => rfl); (case hc => (cbv <;> trivial)); (case hle => (repeat' (first | exact u_nil | apply u_cons | apply u2_agg | exact u2_int | exact u1_int | exact u2_bool | exact u1_bool | exact u2_sli | exact u1_sli | exact u2_s0 | exact u1_s0))); all_goals (first | (intro q hq; cbv) | (assumption))))
  have hq : q = (if lv x < lv y then -1 else if lv y < lv x then 1 else 0 : Int) := hq
  refine E_br hE (fun g => ?_) (fun g => ?_)
  · have g : q < 0 := by subst hE; exact lss_t g
    have k : lv x < lv y := by
      by_cases k : lv x < lv y
      · exact k
      · rw [hq, if_neg k] at g; split at g <;> omega
    rw [if_pos k] at hr
    cbv
    rw [← hr]
    exact ⟨rfl, rfl, trivial⟩
  have hle : lv y ≤ lv x := by
    have g : ¬ q < 0 := by subst hE; exact lss_f g
    by_cases k : lv x < lv y
    · rw [hq, if_pos k] at g; exact absurd (by decide) g
    · omega
  rw [if_neg (by omega)] at hr
  have hxy := hlen hle
  clear hq g hlen
  cbv
  repeat' (first
    | (refine E_br hE (fun h => ?_) (fun h => ?_) <;> cbv)
    | (refine E_nm hE (fun v hv => ?_); cbv)
    | (refine E_nilS hE (fun b hb => ?_); cbv)
    | fail)
  all_goals (try (exfalso; subst hE; simp only [NatCast.natCast, Int.ofNat_eq_natCast, realE, cmp_eql, cmp_neq, cmp_lss, cmp_leq, cmp_gtr, cmp_geq, intBinR, decide_eq_true_eq, decide_eq_false_iff_not, SI.val, SB.val, Num.eta, Iv.eta] at *; omega))
  obtain ⟨m, em⟩ : ∃ m : Int × Int × List Int → Nat, ∀ p, m p = (x.length - p.1).toNat := ⟨_, fun _ => rfl⟩
  obtain ⟨ok, eok⟩ : ∃ ok : Int × Int × List Int → Prop, ∀ p, ok p ↔ 0 ≤ p.1 ∧ p.1 ≤ x.length ∧ SubInv x y p.2.2 p.1.toNat p.2.1 := ⟨_, fun _ => Iff.rfl⟩
  refine E_loop hE hG hm hl (subI E x y) m ok ⟨(0, 0, E.rep (E.len x)), (eok _).2 ?_, stLe rfl ?_⟩ ?_
  · refine ⟨by show (0 : Int) ≤ 0; omega, by show (0 : Int) ≤ x.length; omega, ?_⟩
    have := SubInv.start x y
    subst hE; simp only [NatCast.natCast, Int.ofNat_eq_natCast, realE, cmp_eql, cmp_neq, cmp_lss, cmp_leq, cmp_gtr, cmp_geq, intBinR, decide_eq_true_eq, decide_eq_false_iff_not, SI.val, SB.val, Num.eta, Iv.eta] at *
    exact this
  · (repeat' (first | exact t_nil | apply t_cons | exact u2_sli | exact u2_int | exact u2_bool | exact u2_ms | exact u2_ptr | exact (rfl : sle2 .s0 .s0)))
  rintro ⟨i, c, out⟩ hok
  obtain ⟨h1, h2, inv⟩ := (eok _).1 hok
  dsimp only at h1 h2 inv
  have hgx := hx.getD i.toNat
  have hgy := hy.getD i.toNat
  have hc0 := inv.c0
  have hc1 := inv.c1
  have hol := inv.len
  have next : ∀ (j k c' z : Int) (v : Int × Int), i < x.length → k = i → j = IntKind.i64.wrap (i + 1) → (z = y.getD k.toNat 0 ∨ (¬ k < y.length ∧ z = 0)) →
      v = ((x.getD k.toNat 0 - z - c) % 4294967296, (if x.getD k.toNat 0 < z + c then 1 else 0 : Int)) → c' = v.2 →
      m (j, c', out.set k.toNat v.1) < m (i, c, out) ∧ ok (j, c', out.set k.toNat v.1) := by
    intro j k c' z v h hk hj hz hv hc
    subst hk
    have hz : z = y.getD k.toNat 0 := by
      rcases hz with hz | ⟨hz, h0⟩
      · exact hz
      · rw [h0, getD_past (by omega)]
    have hj : j = k + 1 := by rw [hj, wi64_id (by omega) (by omega)]
    refine ⟨by rw [em, em]; show ((x.length : Int) - j).toNat < ((x.length : Int) - k).toNat; omega, (eok _).2 ⟨by show 0 ≤ j; omega, by show j ≤ (x.length : Int); omega, ?_⟩⟩
    have := inv.step hx hy (by omega)
    rw [← hz] at this
    rw [hc, hv, hj]
    show SubInv x y (out.set k.toNat ((x.getD k.toNat 0 - z - c) % 4294967296)) (k + 1).toNat (if x.getD k.toNat 0 < z + c then 1 else 0)
    rw [show (k + 1).toNat = k.toNat + 1 by omega]
    exact this
  have fin : ¬ i < x.length → Lb out ∧ (lim (lv out), true) = r := by
    intro h
    rw [show i.toNat = x.length by omega] at inv
    exact ⟨inv.lb, by rw [inv.stop hx hle hxy]; exact hr⟩
  clear inv hok hr
  cbv
  repeat' (first
    | (refine E_br hE (fun h => ?_) (fun h => ?_) <;> cbv)
    | (refine E_nm hE (fun v hv => ?_); cbv)
    | (refine E_nilS hE (fun b hb => ?_); cbv)
    | (apply E_callX hE (c_Sub32 _ _ _ ?_ ?_ ?_ ?_ ?_ ?_); (case hf => rfl); (case hc => (cbv <;> trivial)); (case hle => (repeat' (first | exact u_nil | apply u_cons | apply u2_agg | exact u2_int | exact u1_int | exact u2_bool | exact u1_bool | exact u2_sli | exact u1_sli | exact u2_s0 | exact u1_s0))); all_goals (first | (intro t ht; cbv) | (subst hE; (try simp only [NatCast.natCast, Int.ofNat_eq_natCast, realE, cmp_eql, cmp_neq, cmp_lss, cmp_leq, cmp_gtr, cmp_geq, intBinR, decide_eq_true_eq, decide_eq_false_iff_not, SI.val, SB.val, Num.eta, Iv.eta] at *); subst_vars; (first | assumption | omega))))
    | (apply E_callX hE (c_cut _ ?_ ?_); (case hf => rfl); (case hc => (cbv <;> trivial)); (case hle => (repeat' (first | exact u_nil | apply u_cons | apply u2_agg | exact u2_int | exact u1_int | exact u2_bool | exact u1_bool | exact u2_sli | exact u1_sli | exact u2_s0 | exact u1_s0))); all_goals (first | (intro t ht; cbv) | ((subst hE; simp only [NatCast.natCast, Int.ofNat_eq_natCast, realE, cmp_eql, cmp_neq, cmp_lss, cmp_leq, cmp_gtr, cmp_geq, intBinR, decide_eq_true_eq, decide_eq_false_iff_not, SI.val, SB.val, Num.eta, Iv.eta] at *; rw [sub_all (by omega)]; first | exact (fin ‹_›).1 | omega))))
    | fail)
  all_goals (try refine ⟨(E.bin .add .i64 i 1, v, E.set out _ t.1), ?_, ?_, stLe rfl ?_⟩)
  all_goals (try ((repeat' (first | exact t_nil | apply t_cons | exact u2_sli | exact u2_int | exact u2_bool | exact u2_ms | exact u2_ptr | exact (rfl : sle2 .s0 .s0))); done))
  all_goals (subst hE; simp only [NatCast.natCast, Int.ofNat_eq_natCast, realE, cmp_eql, cmp_neq, cmp_lss, cmp_leq, cmp_gtr, cmp_geq, intBinR, decide_eq_true_eq, decide_eq_false_iff_not, SI.val, SB.val, Num.eta, Iv.eta] at *)
  all_goals (first | exact (next _ _ _ _ _ ‹_› ‹_› rfl (by first | exact .inl ‹_› | exact .inr ⟨‹_›, rfl⟩) ‹t = _› ‹_›).1 | exact (next _ _ _ _ _ ‹_› ‹_› rfl (by first | exact .inl ‹_› | exact .inr ⟨‹_›, rfl⟩) ‹t = _› ‹_›).2 | (exfalso; clear next fin; omega) | skip)
  have k := fin ‹_›
  rw [← k.2]
  refine ⟨?_, rfl, trivial⟩
  rw [‹t = _›, sub_all (by omega)]

end Go.Proofs.YtpadpcjdakfokaaGreatDoor.Ev

/- Contracts: whole numbers, by their values. Printed by gen.py. -/
namespace Go.Proofs.YtpadpcjdakfokaaGreatDoor.Ev
open Go Go.Proofs
set_option linter.unusedVariables false
set_option linter.unusedSimpArgs false

attribute [local irreducible] Lb
/-- the value of a whole number -/
def wv (na : Bool) (a : List Int) : Int := if na then -(lv a : Int) else lv a
/-- a whole number, as it may be -/
def whN (z : Int) : Bool × List Int := (decide (z < 0), lim z.natAbs)
theorem whN_of (na : Bool) (n : Nat) : (na && decide (n ≠ 0), lim n) = whN (if na then -(n : Int) else n) := by
  unfold whN
  cases na
  · simp only [Bool.false_and, Bool.false_eq_true, if_false]
    rw [decide_eq_false (by omega), Int.natAbs_natCast]
  · simp only [Bool.true_and, if_true]
    rw [Int.natAbs_neg, Int.natAbs_natCast]
    congr 1
    apply decide_eq_decide.2; omega
theorem wv_whN (z : Int) : wv (whN z).1 (whN z).2 = z := by
  unfold wv whN
  simp only [lv_lim, decide_eq_true_eq]
  split <;> omega
theorem whN_lb (z : Int) : Lb (whN z).2 := lim_lb _
theorem whN_len {z : Int} {k : Nat} (h : z.natAbs < 4294967296 ^ k) : (whN z).2.length ≤ k := lim_length_le h
theorem c_wAdd (na : Bool) (a : List Int) (nb : Bool) (b : List Int) (ha : Lb a) (hb : Lb b) (hla : a.length < 134217728) (hlb : b.length < 134217728) :
    ∃ t : Bool × List Int, t = whN (wv na a + wv nb b) ∧ CallsA Tryz.prog 78 [.agg [.bool (.s na), .sli .u32 a], .agg [.bool (.s nb), .sli .u32 b]] (.agg [.bool (.s t.1), .sli .u32 t.2]) := by
  refine ⟨_, rfl, ?_⟩
  generalize hr : whN (wv na a + wv nb b) = r
  have la : a.length < 268435456 := by omega
  have lb : b.length < 268435456 := by omega
  have one : na = nb → (na && decide (lv a + lv b ≠ 0), lim (lv a + lv b)) = r := by
    intro e; subst e
    rw [← hr, whN_of]; unfold wv; congr 1; cases na <;> simp; omega
  have two : na ≠ nb → ¬ lv a < lv b → (na && decide (lv a - lv b ≠ 0), lim (lv a - lv b)) = r := by
    intro e h
    rw [← hr, whN_of]; unfold wv; congr 1; cases na <;> cases nb <;> simp at e ⊢ <;> omega
  have three : na ≠ nb → lv a < lv b → (nb && decide (lv b - lv a ≠ 0), lim (lv b - lv a)) = r := by
    intro e h
    rw [← hr, whN_of]; unfold wv; congr 1; cases na <;> cases nb <;> simp at e ⊢ <;> omega
  have lim1 : (lim (lv a + lv b)).length ≤ 268435456 := by have h := lim_add_len (m := lv a) (n := lv b) (k := 134217728) (by have := lim_length_le' ha; omega) (by have := lim_length_le' hb; omega); omega
  have lim2 : (lim (lv a - lv b)).length ≤ 268435456 := by have := lim_mono (Nat.sub_le (lv a) (lv b)); have := lim_length_le' ha; omega
  have lim3 : (lim (lv b - lv a)).length ≤ 268435456 := by have := lim_mono (Nat.sub_le (lv b) (lv a)); have := lim_length_le' hb; omega
  clear hr
  refine callsA_of hG hm Tryz.func78 (by kernel_rfl) ?_
  intro E hE lp hl'
  cbv
  refine E_br hE (fun g => ?_) (fun g => ?_) <;> cbv
  · have g : na = nb := by subst hE; exact eq_of_beq g
    (first | (apply E_pcallX hE (c_natAdd a b ha hb la lb); (case hm => rfl); (case hle => (repeat' (first | exact u_nil | apply u_cons | apply u2_agg | exact u2_int | exact u1_int | exact u2_bool | exact u1_bool | exact u2_sli | exact u1_sli | exact u2_s0 | exact u1_s0))); all_goals (first | (intro u hu; cbv) | (assumption))) | (apply E_callX hE (c_natAdd a b ha hb la lb); (case hf => rfl); (case hc => (cbv <;> trivial)); (case hle => (repeat' (first | exact u_nil | apply u_cons | apply u2_agg | exact u2_int | exact u1_int | exact u2_bool | exact u1_bool | exact u2_sli | exact u1_sli | exact u2_s0 | exact u1_s0))); all_goals (first | (intro u hu; cbv) | (assumption))))
    have hu : u = lim (lv a + lv b) := hu
    have ub : Lb u := by rw [hu]; exact lim_lb _
    have ul : u.length ≤ 268435456 := by rw [hu]; exact lim1
    (first | (apply E_pcallX hE (c_wMake na u ub ul); (case hm => rfl); (case hle => (repeat' (first | exact u_nil | apply u_cons | apply u2_agg | exact u2_int | exact u1_int | exact u2_bool | exact u1_bool | exact u2_sli | exact u1_sli | exact u2_s0 | exact u1_s0))); all_goals (first | (intro t ht; cbv) | (assumption))) | (apply E_callX hE (c_wMake na u ub ul); (case hf => rfl); (case hc => (cbv <;> trivial)); (case hle => (repeat' (first | exact u_nil | apply u_cons | apply u2_agg | exact u2_int | exact u1_int | exact u2_bool | exact u1_bool | exact u2_sli | exact u1_sli | exact u2_s0 | exact u1_s0))); all_goals (first | (intro t ht; cbv) | (assumption))))
    have k : t = r := by
      have k : t = (na && decide (lv u ≠ 0), lim (lv u)) := ht
      rw [k, hu, lv_lim]; exact one g
    rw [← k]; exact ⟨rfl, rfl, trivial⟩
  · have g : na ≠ nb := by subst hE; intro e; rw [e] at g; exact absurd ((beq_self_eq_true nb).symm.trans g) (by decide)
    (first | (apply E_pcallX hE (c_natSub a b ha hb hla hlb); (case hm => rfl); (case hle => (repeat' (first | exact u_nil | apply u_cons | apply u2_agg | exact u2_int | exact u1_int | exact u2_bool | exact u1_bool | exact u2_sli | exact u1_sli | exact u2_s0 | exact u1_s0))); all_goals (first | (intro u hu; cbv) | (assumption))) | (apply E_callX hE (c_natSub a b ha hb hla hlb); (case hf => rfl); (case hc => (cbv <;> trivial)); (case hle => (repeat' (first | exact u_nil | apply u_cons | apply u2_agg | exact u2_int | exact u1_int | exact u2_bool | exact u1_bool | exact u2_sli | exact u1_sli | exact u2_s0 | exact u1_s0))); all_goals (first | (intro u hu; cbv) | (assumption))))
    have hu : u = (if lv a < lv b then ([], false) else (lim (lv a - lv b), true)) := hu
    refine E_br hE (fun q => ?_) (fun q => ?_) <;> cbv
    · have n : ¬ lv a < lv b := by intro h; rw [hu, if_pos h] at q; cases q
      have u1 : u.1 = lim (lv a - lv b) := by rw [hu, if_neg n]
      have ub : Lb u.1 := by rw [u1]; exact lim_lb _
      have ul : u.1.length ≤ 268435456 := by rw [u1]; exact lim2
      (first | (apply E_pcallX hE (c_wMake na u.1 ub ul); (case hm => rfl); (case hle => (repeat' (first | exact u_nil | apply u_cons | apply u2_agg | exact u2_int | exact u1_int | exact u2_bool | exact u1_bool | exact u2_sli | exact u1_sli | exact u2_s0 | exact u1_s0))); all_goals (first | (intro t ht; cbv) | (assumption))) | (apply E_callX hE (c_wMake na u.1 ub ul); (case hf => rfl); (case hc => (cbv <;> trivial)); (case hle => (repeat' (first | exact u_nil | apply u_cons | apply u2_agg | exact u2_int | exact u1_int | exact u2_bool | exact u1_bool | exact u2_sli | exact u1_sli | exact u2_s0 | exact u1_s0))); all_goals (first | (intro t ht; cbv) | (assumption))))
      have k : t = r := by
        have k : t = (na && decide (lv u.1 ≠ 0), lim (lv u.1)) := ht
        rw [k, u1, lv_lim]; exact two g n
      rw [← k]; exact ⟨rfl, rfl, trivial⟩
    · have n : lv a < lv b := by
        by_cases h : lv a < lv b
        · exact h
        · rw [hu, if_neg h] at q; cases q
      (first | (apply E_pcallX hE (c_natSub b a hb ha hlb hla); (case hm => rfl); (case hle => (repeat' (first | exact u_nil | apply u_cons | apply u2_agg | exact u2_int | exact u1_int | exact u2_bool | exact u1_bool | exact u2_sli | exact u1_sli | exact u2_s0 | exact u1_s0))); all_goals (first | (intro u2 hu2; cbv) | (assumption))) | (apply E_callX hE (c_natSub b a hb ha hlb hla); (case hf => rfl); (case hc => (cbv <;> trivial)); (case hle => (repeat' (first | exact u_nil | apply u_cons | apply u2_agg | exact u2_int | exact u1_int | exact u2_bool | exact u1_bool | exact u2_sli | exact u1_sli | exact u2_s0 | exact u1_s0))); all_goals (first | (intro u2 hu2; cbv) | (assumption))))
      have hu2 : u2 = (if lv b < lv a then ([], false) else (lim (lv b - lv a), true)) := hu2
      have u1 : u2.1 = lim (lv b - lv a) := by rw [hu2, if_neg (by omega)]
      have ub : Lb u2.1 := by rw [u1]; exact lim_lb _
      have ul : u2.1.length ≤ 268435456 := by rw [u1]; exact lim3
      (first | (apply E_pcallX hE (c_wMake nb u2.1 ub ul); (case hm => rfl); (case hle => (repeat' (first | exact u_nil | apply u_cons | apply u2_agg | exact u2_int | exact u1_int | exact u2_bool | exact u1_bool | exact u2_sli | exact u1_sli | exact u2_s0 | exact u1_s0))); all_goals (first | (intro t ht; cbv) | (assumption))) | (apply E_callX hE (c_wMake nb u2.1 ub ul); (case hf => rfl); (case hc => (cbv <;> trivial)); (case hle => (repeat' (first | exact u_nil | apply u_cons | apply u2_agg | exact u2_int | exact u1_int | exact u2_bool | exact u1_bool | exact u2_sli | exact u1_sli | exact u2_s0 | exact u1_s0))); all_goals (first | (intro t ht; cbv) | (assumption))))
      have k : t = r := by
        have k : t = (nb && decide (lv u2.1 ≠ 0), lim (lv u2.1)) := ht
        rw [k, u1, lv_lim]; exact three g n
      rw [← k]; exact ⟨rfl, rfl, trivial⟩

theorem c_wSub (na : Bool) (a : List Int) (nb : Bool) (b : List Int) (ha : Lb a) (hb : Lb b) (hla : a.length < 134217728) (hlb : b.length < 134217728) :
    ∃ t : Bool × List Int, t = whN (wv na a - wv nb b) ∧ CallsA Tryz.prog 174 [.agg [.bool (.s na), .sli .u32 a], .agg [.bool (.s nb), .sli .u32 b]] (.agg [.bool (.s t.1), .sli .u32 t.2]) := by
  refine ⟨_, rfl, ?_⟩
  generalize hr : whN (wv na a - wv nb b) = r
  have lb : b.length ≤ 268435456 := by omega
  have lim1 := lim_length_le' hb
  have vn : wv (!nb && decide (lv b ≠ 0)) (lim (lv b)) = - wv nb b := by
    unfold wv; rw [lv_lim]; by_cases h : lv b = 0 <;> cases nb <;> simp [h]
  refine callsA_of hG hm Tryz.func174 (by kernel_rfl) ?_
  intro E hE lp hl'
  cbv
  (first | (apply E_pcallX hE (c_wNeg nb b hb lb); (case hm => rfl); (case hle => (repeat' (first | exact u_nil | apply u_cons | apply u2_agg | exact u2_int | exact u1_int | exact u2_bool | exact u1_bool | exact u2_sli | exact u1_sli | exact u2_s0 | exact u1_s0))); all_goals (first | (intro u hu; cbv) | (assumption))) | (apply E_callX hE (c_wNeg nb b hb lb); (case hf => rfl); (case hc => (cbv <;> trivial)); (case hle => (repeat' (first | exact u_nil | apply u_cons | apply u2_agg | exact u2_int | exact u1_int | exact u2_bool | exact u1_bool | exact u2_sli | exact u1_sli | exact u2_s0 | exact u1_s0))); all_goals (first | (intro u hu; cbv) | (assumption))))
  have hu : u = (!nb && decide (lv b ≠ 0), lim (lv b)) := hu
  have vu : wv u.1 u.2 = - wv nb b := by rw [hu]; exact vn
  have ub : Lb u.2 := by rw [hu]; exact lim_lb _
  have ul : u.2.length < 134217728 := by rw [hu]; show (lim (lv b)).length < _; omega
  (first | (apply E_pcallX hE (c_wAdd na a u.1 u.2 ha ub hla ul); (case hm => rfl); (case hle => (repeat' (first | exact u_nil | apply u_cons | apply u2_agg | exact u2_int | exact u1_int | exact u2_bool | exact u1_bool | exact u2_sli | exact u1_sli | exact u2_s0 | exact u1_s0))); all_goals (first | (intro t ht; cbv) | (assumption))) | (apply E_callX hE (c_wAdd na a u.1 u.2 ha ub hla ul); (case hf => rfl); (case hc => (cbv <;> trivial)); (case hle => (repeat' (first | exact u_nil | apply u_cons | apply u2_agg | exact u2_int | exact u1_int | exact u2_bool | exact u1_bool | exact u2_sli | exact u1_sli | exact u2_s0 | exact u1_s0))); all_goals (first | (intro t ht; cbv) | (assumption))))
  have k : t = r := by
    have k : t = whN (wv na a + wv u.1 u.2) := ht
    rw [k, vu, ← hr]; rfl
  rw [← k]; exact ⟨rfl, rfl, trivial⟩

end Go.Proofs.YtpadpcjdakfokaaGreatDoor.Ev

/- Contracts: the scale of fixed numbers, a number so many times; quotients of numbers above nought. Printed by gen.py. -/
namespace Go.Proofs.YtpadpcjdakfokaaGreatDoor.Ev
open Go Go.Proofs
set_option linter.unusedVariables false
set_option linter.unusedSimpArgs false

attribute [local irreducible] Lb
def piOne : Nat := 2 ^ 192
theorem c_piScale : ∃ t : Bool × List Int, t = whN (piOne : Int) ∧ CallsA Tryz.prog 65 [] (.agg [.bool (.s t.1), .sli .u32 t.2]) := by
  refine ⟨_, rfl, ?_⟩
  generalize hr : whN (piOne : Int) = r
  have l1 : Lb [(1 : Int)] := Lb.cons (by decide) (by decide) Lb.nil
  have v1 : lv [(1 : Int)] = 1 := rfl
  have fin : (false && decide (2 ^ 192 ≠ 0), lim (2 ^ 192)) = r := by rw [← hr, show piOne = 2 ^ 192 from rfl, whN_of]; rfl
  have len : (lim (2 ^ 192)).length ≤ 268435456 := Nat.le_trans (lim_length_le (k := 7) (by decide +kernel)) (by decide)
  clear hr
  refine callsA_of hG hm Tryz.func65 (by kernel_rfl) ?_
  intro E hE lp hl'
  have es : E.sub [1] 0 1 = [1] := by subst hE; rfl
  cbv
  (first | (apply E_pcallX hE (c_natShl _ 192 ?_ ?_); (case hm => rfl); (case hle => (repeat' (first | exact u_nil | apply u_cons | apply u2_agg | exact u2_int | exact u1_int | exact u2_bool | exact u1_bool | exact u2_sli | exact u1_sli | exact u2_s0 | exact u1_s0))); all_goals (first | (intro u hu; cbv) | (first | (show Lb (E.sub [1] 0 1); rw [es]; exact l1) | (show (E.sub [1] 0 1).length < 67108864; rw [es]; decide)))) | (apply E_callX hE (c_natShl _ 192 ?_ ?_); (case hf => rfl); (case hc => (cbv <;> trivial)); (case hle => (repeat' (first | exact u_nil | apply u_cons | apply u2_agg | exact u2_int | exact u1_int | exact u2_bool | exact u1_bool | exact u2_sli | exact u1_sli | exact u2_s0 | exact u1_s0))); all_goals (first | (intro u hu; cbv) | (first | (show Lb (E.sub [1] 0 1); rw [es]; exact l1) | (show (E.sub [1] 0 1).length < 67108864; rw [es]; decide)))))
  have hu : u = lim (2 ^ 192) := by
    have k : u = (if (192 : Int) < 1 then lim (lv (E.sub [1] 0 1)) else if 16777216 < (192 : Int) then [] else lim (lv (E.sub [1] 0 1) * 2 ^ (192 : Int).toNat)) := hu
    rw [k, es, v1, if_neg (by decide), if_neg (by decide), Nat.one_mul]; rfl
  have ub : Lb u := by rw [hu]; exact lim_lb _
  have ul : u.length ≤ 268435456 := by rw [hu]; exact len
  (first | (apply E_pcallX hE (c_wMake false u ub ul); (case hm => rfl); (case hle => (repeat' (first | exact u_nil | apply u_cons | apply u2_agg | exact u2_int | exact u1_int | exact u2_bool | exact u1_bool | exact u2_sli | exact u1_sli | exact u2_s0 | exact u1_s0))); all_goals (first | (intro t ht; cbv) | (assumption))) | (apply E_callX hE (c_wMake false u ub ul); (case hf => rfl); (case hc => (cbv <;> trivial)); (case hle => (repeat' (first | exact u_nil | apply u_cons | apply u2_agg | exact u2_int | exact u1_int | exact u2_bool | exact u1_bool | exact u2_sli | exact u1_sli | exact u2_s0 | exact u1_s0))); all_goals (first | (intro t ht; cbv) | (assumption))))
  have k : t = r := by
    have k : t = (false && decide (lv u ≠ 0), lim (lv u)) := ht
    rw [k, hu, lv_lim]; exact fin
  rw [← k]; exact ⟨rfl, rfl, trivial⟩

theorem mulN (na : Bool) (a : List Int) (nb : Bool) (b : List Int) : ((na != nb) && decide (lv a * lv b ≠ 0), lim (lv a * lv b)) = whN (wv na a * wv nb b) := by
  rw [whN_of]; unfold wv; congr 1
  cases na <;> cases nb <;> simp [Int.neg_mul, Int.mul_neg, Int.neg_neg]
theorem c_piTimes (na : Bool) (a : List Int) (n : Int) (ha : Lb a) (hla : a.length < 60000000) (h1 : -9223372036854775808 ≤ n) (h2 : n < 9223372036854775808) :
    ∃ t : Bool × List Int, t = whN (wv na a * n) ∧ CallsA Tryz.prog 184 [.agg [.bool (.s na), .sli .u32 a], .int .i64 (.s n)] (.agg [.bool (.s t.1), .sli .u32 t.2]) := by
  refine ⟨_, rfl, ?_⟩
  generalize hr : whN (wv na a * n) = r
  have len : (lim n.natAbs).length < 60000000 := Nat.lt_of_le_of_lt (lim_length_le (k := 2) (by rw [show (4294967296 : Nat) ^ 2 = 18446744073709551616 by decide +kernel]; omega)) (by decide)
  have fin : ∀ (u t : Bool × List Int), u = (decide (n < 0), lim n.natAbs) → t = ((na != u.1) && decide (lv a * lv u.2 ≠ 0), lim (lv a * lv u.2)) → t = r := by
    intro u t hu ht
    rw [ht, mulN, ← hr, show u = whN n from hu, wv_whN]
  clear hr
  refine callsA_of hG hm Tryz.func184 (by kernel_rfl) ?_
  intro E hE lp hl'
  cbv
  (first | (apply E_pcallX hE (c_wFrom n h1 h2); (case hm => rfl); (case hle => (repeat' (first | exact u_nil | apply u_cons | apply u2_agg | exact u2_int | exact u1_int | exact u2_bool | exact u1_bool | exact u2_sli | exact u1_sli | exact u2_s0 | exact u1_s0))); all_goals (first | (intro u hu; cbv) | (assumption))) | (apply E_callX hE (c_wFrom n h1 h2); (case hf => rfl); (case hc => (cbv <;> trivial)); (case hle => (repeat' (first | exact u_nil | apply u_cons | apply u2_agg | exact u2_int | exact u1_int | exact u2_bool | exact u1_bool | exact u2_sli | exact u1_sli | exact u2_s0 | exact u1_s0))); all_goals (first | (intro u hu; cbv) | (assumption))))
  have ub : Lb u.2 := by rw [show u = (decide (n < 0), lim n.natAbs) from hu]; exact lim_lb _
  have ul : u.2.length < 60000000 := by rw [show u = (decide (n < 0), lim n.natAbs) from hu]; exact len
  apply E_pcallX hE (c_wMul2 na a u.1 u.2 ha ub hla ul)
  case hm => rfl
  case hle => exact ⟨u2_slc', trivial⟩
  intro t ht
  cbv
  have k : t = r := fin u t hu ht
  rw [← k]; exact ⟨rfl, rfl, trivial⟩

theorem c_wDivP (a b : List Int) (ha : Lb a) (hb : Lb b) (hla : a.length < 33554432) (hlb : b.length < 33554432) (hb0 : lv b ≠ 0) :
    ∃ t : (Bool × List Int) × (Bool × List Int), t = (whN ((lv a / lv b : Nat) : Int), whN ((lv a % lv b : Nat) : Int)) ∧
      CallsA Tryz.prog 158 [.agg [.bool (.s false), .sli .u32 a], .agg [.bool (.s false), .sli .u32 b]] (.tup [.agg [.bool (.s t.1.1), .sli .u32 t.1.2], .agg [.bool (.s t.2.1), .sli .u32 t.2.2], .bool (.s true)]) := by
  refine ⟨_, rfl, ?_⟩
  generalize hr : (whN ((lv a / lv b : Nat) : Int), whN ((lv a % lv b : Nat) : Int)) = r
  have qn : ∀ (t : Bool × List Int), t = (false && decide (lv a / lv b ≠ 0), lim (lv a / lv b)) → t = r.1 := by
    intro t h; rw [h, ← hr, whN_of]; rfl
  have rn : ∀ (t : Bool × List Int), t = (false && decide (lv a % lv b ≠ 0), lim (lv a % lv b)) → t = r.2 := by
    intro t h; rw [h, ← hr, whN_of]; rfl
  have b1 : b.length < 67108864 := by omega
  have l1 : (lim (lv a / lv b)).length ≤ 268435456 := by have := lim_mono (Nat.div_le_self (lv a) (lv b)); have := lim_length_le' ha; omega
  have l2 : (lim (lv a % lv b)).length < 67108864 := by have := lim_mono (Nat.mod_le (lv a) (lv b)); have := lim_length_le' ha; omega
  have l3 : (lim (lv a % lv b)).length ≤ 268435456 := by omega
  clear hr
  refine callsA_of hG hm Tryz.func158 (by kernel_rfl) ?_
  intro E hE lp hl'
  cbv
  (first | (apply E_pcallX hE (c_natDiv a b ha hb hla hlb); (case hm => rfl); (case hle => (repeat' (first | exact u_nil | apply u_cons | apply u2_agg | exact u2_int | exact u1_int | exact u2_bool | exact u1_bool | exact u2_sli | exact u1_sli | exact u2_s0 | exact u1_s0))); all_goals (first | (intro d hd; cbv) | (assumption))) | (apply E_callX hE (c_natDiv a b ha hb hla hlb); (case hf => rfl); (case hc => (cbv <;> trivial)); (case hle => (repeat' (first | exact u_nil | apply u_cons | apply u2_agg | exact u2_int | exact u1_int | exact u2_bool | exact u1_bool | exact u2_sli | exact u1_sli | exact u2_s0 | exact u1_s0))); all_goals (first | (intro d hd; cbv) | (assumption))))
  have hd : d = (lim (lv a / lv b), lim (lv a % lv b), true) := by
    have k : d = (if lv b = 0 then ([], [], false) else (lim (lv a / lv b), lim (lv a % lv b), true)) := hd
    rw [k, if_neg hb0]
  have d1 : d.1 = lim (lv a / lv b) := by rw [hd]
  have d2 : d.2.1 = lim (lv a % lv b) := by rw [hd]
  have d3 : d.2.2 = true := by rw [hd]
  have db : Lb d.1 := by rw [d1]; exact lim_lb _
  have dc : Lb d.2.1 := by rw [d2]; exact lim_lb _
  have dl : d.1.length ≤ 268435456 := by rw [d1]; exact l1
  have dm : d.2.1.length ≤ 268435456 := by rw [d2]; exact l3
  refine E_br hE (fun g => ?_) (fun g => ?_)
  · exfalso
    have k : E.bnot d.2.2 = true := g
    rw [d3] at k; subst hE; cases k
  cbv
  (first | (apply E_pcallX hE (c_wMake _ d.1 db dl); (case hm => rfl); (case hle => (repeat' (first | exact u_nil | apply u_cons | apply u2_agg | exact u2_int | exact u1_int | exact u2_bool | exact u1_bool | exact u2_sli | exact u1_sli | exact u2_s0 | exact u1_s0))); all_goals (first | (intro x hx; cbv) | (assumption))) | (apply E_callX hE (c_wMake _ d.1 db dl); (case hf => rfl); (case hc => (cbv <;> trivial)); (case hle => (repeat' (first | exact u_nil | apply u_cons | apply u2_agg | exact u2_int | exact u1_int | exact u2_bool | exact u1_bool | exact u2_sli | exact u1_sli | exact u2_s0 | exact u1_s0))); all_goals (first | (intro x hx; cbv) | (assumption))))
  (first | (apply E_pcallX hE (c_wMake _ d.2.1 dc dm); (case hm => rfl); (case hle => (repeat' (first | exact u_nil | apply u_cons | apply u2_agg | exact u2_int | exact u1_int | exact u2_bool | exact u1_bool | exact u2_sli | exact u1_sli | exact u2_s0 | exact u1_s0))); all_goals (first | (intro y hy; cbv) | (assumption))) | (apply E_callX hE (c_wMake _ d.2.1 dc dm); (case hf => rfl); (case hc => (cbv <;> trivial)); (case hle => (repeat' (first | exact u_nil | apply u_cons | apply u2_agg | exact u2_int | exact u1_int | exact u2_bool | exact u1_bool | exact u2_sli | exact u1_sli | exact u2_s0 | exact u1_s0))); all_goals (first | (intro y hy; cbv) | (assumption))))
  have ex : x = r.1 := qn x (by have k : x = ((E.bnot (E.beq false false)) && decide (lv d.1 ≠ 0), lim (lv d.1)) := hx; rw [k, d1, lv_lim]; subst hE; rfl)
  have ey : y = r.2 := rn y (by have k : y = (false && decide (lv d.2.1 ≠ 0), lim (lv d.2.1)) := hy; rw [k, d2, lv_lim])
  have y0 : y = (false, lim (lv a % lv b)) := by have k : y = (false && decide (lv d.2.1 ≠ 0), lim (lv d.2.1)) := hy; rw [k, d2, lv_lim]; rfl
  have yb : Lb y.2 := by rw [y0]; exact lim_lb _
  have yl : y.2.length < 67108864 := by rw [y0]; exact l2
  (first | (apply E_pcallX hE (c_wSign y.1 y.2 yb yl); (case hm => rfl); (case hle => (repeat' (first | exact u_nil | apply u_cons | apply u2_agg | exact u2_int | exact u1_int | exact u2_bool | exact u1_bool | exact u2_sli | exact u1_sli | exact u2_s0 | exact u1_s0))); all_goals (first | (intro s hs; cbv) | (assumption))) | (apply E_callX hE (c_wSign y.1 y.2 yb yl); (case hf => rfl); (case hc => (cbv <;> trivial)); (case hle => (repeat' (first | exact u_nil | apply u_cons | apply u2_agg | exact u2_int | exact u1_int | exact u2_bool | exact u1_bool | exact u2_sli | exact u1_sli | exact u2_s0 | exact u1_s0))); all_goals (first | (intro s hs; cbv) | (assumption))))
  (first | (apply E_pcallX hE (c_wSign false b hb b1); (case hm => rfl); (case hle => (repeat' (first | exact u_nil | apply u_cons | apply u2_agg | exact u2_int | exact u1_int | exact u2_bool | exact u1_bool | exact u2_sli | exact u1_sli | exact u2_s0 | exact u1_s0))); all_goals (first | (intro z hz; cbv) | (assumption))) | (apply E_callX hE (c_wSign false b hb b1); (case hf => rfl); (case hc => (cbv <;> trivial)); (case hle => (repeat' (first | exact u_nil | apply u_cons | apply u2_agg | exact u2_int | exact u1_int | exact u2_bool | exact u1_bool | exact u2_sli | exact u1_sli | exact u2_s0 | exact u1_s0))); all_goals (first | (intro z hz; cbv) | (assumption))))
  have hs : s = 0 ∨ s = 1 := by
    have k : s = (if lv y.2 = 0 then 0 else if y.1 then -1 else 1) := hs
    rw [k, y0]; split
    · exact .inl rfl
    · exact .inr rfl
  have hz : z = 1 := by
    have k : z = (if lv b = 0 then 0 else if false then -1 else 1) := hz
    rw [k, if_neg hb0]; rfl
  refine E_br hE (fun g => ?_) (fun g => ?_)
  · exfalso
    have k : E.bin .mul .i64 s z < 0 := by subst hE; exact lss_t g
    rw [hz] at k
    subst hE
    rcases hs with h | h <;> (rw [h] at k; exact absurd k (by decide))
  cbv
  exact ⟨⟨congrArg Prod.fst ex, congrArg Prod.snd ex, trivial⟩, ⟨congrArg Prod.fst ey, congrArg Prod.snd ey, trivial⟩, trivial⟩

end Go.Proofs.YtpadpcjdakfokaaGreatDoor.Ev

/- Contracts of the reference: whole numbers of 64 bits, opposites, differences; quotients of numbers above nought; the scale. Printed by gen.py. -/
namespace Go.Proofs.YtpadpcjdakfokaaGreatDoor.Ev
open Go Go.Proofs
set_option linter.unusedVariables false
set_option linter.unusedSimpArgs false

theorem whN_def' (z : Int) : whN z = (decide (z < 0), lim z.natAbs) := rfl
theorem wsum_whN (na : Bool) (a : List Int) (nb : Bool) (b : List Int) : ((wsum na (lv a) nb (lv b)).1, lim (wsum na (lv a) nb (lv b)).2) = whN (wv na a + wv nb b) := by
  unfold wsum
  by_cases e : na = nb
  · subst e
    rw [if_pos rfl]
    show (na && decide (lv a + lv b ≠ 0), lim (lv a + lv b)) = _
    rw [whN_of]; unfold wv; congr 1; cases na <;> simp; omega
  · rw [if_neg e]
    by_cases h : lv a < lv b
    · rw [if_pos h]
      show (nb && decide (lv b - lv a ≠ 0), lim (lv b - lv a)) = _
      rw [whN_of]; unfold wv; congr 1; cases na <;> cases nb <;> simp at e ⊢ <;> omega
    · rw [if_neg h]
      show (na && decide (lv a - lv b ≠ 0), lim (lv a - lv b)) = _
      rw [whN_of]; unfold wv; congr 1; cases na <;> cases nb <;> simp at e ⊢ <;> omega
attribute [local irreducible] Lb
theorem c_r2From (n : Int) (h1 : -9223372036854775808 ≤ n) (h2 : n < 9223372036854775808) : ∃ t : Bool × List Int, t = whN n ∧ CallsA Tryz.prog 60 [.int .i64 (.s n)] (.agg [.bool (.s t.1), .sli .u32 t.2]) := by
  refine ⟨_, rfl, ?_⟩
  generalize hr : whN n = r
  rw [whN_def'] at hr
  have lb := limbs_lb (m := (n.natAbs : Int)) (by omega) (by omega)
  obtain ⟨m, em⟩ : ∃ m, m = [(n.natAbs : Int) % 4294967296, (n.natAbs : Int) / 4294967296] := ⟨_, rfl⟩
  rw [← em] at lb
  have ll : m.length ≤ 268435456 := by rw [em]; show (2 : Nat) ≤ _; decide
  have fin : ∀ (c : Bool) (l : List Int) (t : Bool × List Int), c = decide (n < 0) → l = m → t = (c && decide (lv l ≠ 0), lim (lv l)) → t = r := by
    intro c l t hc hl ht
    rw [ht, hl, em, limbs_lv (by omega), ← hr, hc, show ((n.natAbs : Nat) : Int).toNat = n.natAbs from rfl]
    by_cases h : n < 0
    · rw [decide_eq_true (p := n.natAbs ≠ 0) (by omega), Bool.and_true]
    · rw [decide_eq_false h, Bool.false_and]
  have wn : ∀ x : Int, x = (n.natAbs : Int) → [IntKind.u32.wrap (intBinR .rem .u64 x 4294967296), IntKind.u32.wrap (intBinR .quo .u64 x 4294967296)] = m := by
    intro x hx
    have e1 : intBinR .rem .u64 x 4294967296 = x % 4294967296 := Int.tmod_eq_emod_of_nonneg (by omega)
    have e2 : intBinR .quo .u64 x 4294967296 = x / 4294967296 := by
      show IntKind.u64.wrap (x.tdiv 4294967296) = _
      rw [Int.tdiv_eq_ediv_of_nonneg (by omega), wu64]; omega
    rw [em, e1, e2, hx, wu32, wu32]
    congr 1
    · omega
    · congr 1; omega
  have neg : n < 0 → ∀ u v : Int, u = IntKind.u64.wrap (IntKind.i64.wrap (0 - IntKind.i64.wrap (n + 1))) → v = IntKind.u64.wrap (u + 1) → v = (n.natAbs : Int) := by
    intro hn u v hu hv
    simp only [wu64, wi64] at hu hv; omega
  have pos : ¬ n < 0 → ∀ u : Int, u = IntKind.u64.wrap n → u = (n.natAbs : Int) := by
    intro hn u hu
    simp only [wu64] at hu; omega
  clear hr em
  refine callsA_of hG hm Tryz.func60 (by kernel_rfl) ?_
  intro E hE lp hl'
  cbv
  refine E_nm hE (fun u hu => ?_); cbv
  refine E_br hE (fun g => ?_) (fun g => ?_) <;> cbv
  · have hn : n < 0 := by subst hE; exact lss_t g
    refine E_nm hE (fun v hv => ?_); cbv
    have k : E.sub [E.conv .u32 (E.bin .rem .u64 v 4294967296), E.conv .u32 (E.bin .quo .u64 v 4294967296)] 0 2 = m := by
      subst hE
      exact wn v (neg hn _ v rfl hv)
    have c1 : E.cmp .lss n 0 = decide (n < 0) := by subst hE; rfl
    (first | (apply E_pcallX hE (c_r2Make _ _ ?_ ?_); (case hm => rfl); (case hle => (repeat' (first | exact u_nil | apply u_cons | apply u2_agg | exact u2_int | exact u1_int | exact u2_bool | exact u1_bool | exact u2_sli | exact u1_sli | exact u2_s0 | exact u1_s0))); all_goals (first | (intro t ht; cbv) | (first | exact k ▸ lb | exact k ▸ ll))) | (apply E_callX hE (c_r2Make _ _ ?_ ?_); (case hf => rfl); (case hc => (cbv <;> trivial)); (case hle => (repeat' (first | exact u_nil | apply u_cons | apply u2_agg | exact u2_int | exact u1_int | exact u2_bool | exact u1_bool | exact u2_sli | exact u1_sli | exact u2_s0 | exact u1_s0))); all_goals (first | (intro t ht; cbv) | (first | exact k ▸ lb | exact k ▸ ll))))
    rw [← fin _ _ t c1 k ht]; exact ⟨rfl, rfl, trivial⟩
  · have hn : ¬ n < 0 := by subst hE; exact lss_f g
    have k : E.sub [E.conv .u32 (E.bin .rem .u64 u 4294967296), E.conv .u32 (E.bin .quo .u64 u 4294967296)] 0 2 = m := by
      subst hE
      exact wn u (pos hn u hu)
    have c1 : E.cmp .lss n 0 = decide (n < 0) := by subst hE; rfl
    (first | (apply E_pcallX hE (c_r2Make _ _ ?_ ?_); (case hm => rfl); (case hle => (repeat' (first | exact u_nil | apply u_cons | apply u2_agg | exact u2_int | exact u1_int | exact u2_bool | exact u1_bool | exact u2_sli | exact u1_sli | exact u2_s0 | exact u1_s0))); all_goals (first | (intro t ht; cbv) | (first | exact k ▸ lb | exact k ▸ ll))) | (apply E_callX hE (c_r2Make _ _ ?_ ?_); (case hf => rfl); (case hc => (cbv <;> trivial)); (case hle => (repeat' (first | exact u_nil | apply u_cons | apply u2_agg | exact u2_int | exact u1_int | exact u2_bool | exact u1_bool | exact u2_sli | exact u1_sli | exact u2_s0 | exact u1_s0))); all_goals (first | (intro t ht; cbv) | (first | exact k ▸ lb | exact k ▸ ll))))
    rw [← fin _ _ t c1 k ht]; exact ⟨rfl, rfl, trivial⟩

end Go.Proofs.YtpadpcjdakfokaaGreatDoor.Ev

/- Laws: a natural number as 64 bits of which the highest is 1, and an exponent; the ratio of two natural numbers. -/
namespace Go.Proofs.YtpadpcjdakfokaaGreatDoor.Ev
open Go Go.Proofs
set_option linter.unusedVariables false
set_option linter.unusedSimpArgs false
attribute [local irreducible] Lb
theorem wi64_in {n : Int} (h0 : -9223372036854775808 ≤ n) (h1 : n < 9223372036854775808) : IntKind.i64.wrap n = n := by rw [wi64]; omega
/-- a natural number as 64 bits of which the highest is 1, and an exponent; was something cut off? -/
def natu (n : Nat) : Nat × Int × Bool :=
  if blen (n : Int) ≤ 64 then (n * 2 ^ (64 - blen (n : Int)).toNat, blen (n : Int) - 64, false)
  else (n / 2 ^ (blen (n : Int) - 64).toNat, blen (n : Int) - 64, decide (n / 2 ^ (blen (n : Int) - 64).toNat * 2 ^ (blen (n : Int) - 64).toNat ≠ n))
theorem blen_lt {n : Nat} : n < 2 ^ (blen (n : Int)).toNat := by
  rcases Nat.eq_zero_or_pos n with h | h
  · rw [h]; decide
  · obtain ⟨k, hk, _, h2⟩ := blen_rng h
    rw [hk, show ((k : Int) + 1).toNat = k + 1 by omega]; exact h2
theorem blen_le_len {m : List Int} (h : Lb m) : blen (lv m : Int) ≤ 32 * m.length := by
  have := blen_le (x := (lv m : Int)) (32 * m.length) (by
    have h1 := lv_lt h
    rw [show (4294967296 : Nat) = 2 ^ 32 by rfl, ← Nat.pow_mul] at h1
    exact_mod_cast h1)
  omega
theorem two64 {n : Nat} (h : n < 2 ^ 64) : (lim n).length ≤ 2 := lim_length_le (by rw [show (4294967296 : Nat) ^ 2 = 2 ^ 64 by decide +kernel]; exact h)
theorem natu_lo {n : Nat} (h : blen (n : Int) ≤ 64) : n * 2 ^ (64 - blen (n : Int)).toNat < 2 ^ 64 := by
  have b0 := blen_nonneg (n : Int)
  have h1 := blen_lt (n := n)
  calc n * 2 ^ (64 - blen (n : Int)).toNat < 2 ^ (blen (n : Int)).toNat * 2 ^ (64 - blen (n : Int)).toNat := Nat.mul_lt_mul_of_pos_right h1 (Nat.two_pow_pos _)
    _ = 2 ^ 64 := by rw [← Nat.pow_add]; congr 1; omega
theorem natu_hi {n : Nat} (h : 64 < blen (n : Int)) : n / 2 ^ (blen (n : Int) - 64).toNat < 2 ^ 64 := by
  have h1 := blen_lt (n := n)
  refine Nat.div_lt_of_lt_mul ?_
  rw [← Nat.pow_add, show (blen (n : Int) - 64).toNat + 64 = (blen (n : Int)).toNat by omega]; exact h1
theorem natu_e {n : Nat} (h : (lim n).length ≤ 200004) : -64 ≤ (natu n).2.1 ∧ (natu n).2.1 ≤ 6400128 := by
  have b0 := blen_nonneg (n : Int)
  have b1 := blen_le_len (lim_lb n)
  rw [lv_lim] at b1
  unfold natu
  split <;> constructor <;> dsimp only <;> omega
/-- the ratio of two natural numbers, of these signs -/
def ratioN (na : Bool) (a : Nat) (nb : Bool) (b : Nat) (up : Bool) : Num :=
  if b = 0 then Num.inf (!up) else if a = 0 then Num.zero else
    Num.grow (na != nb) ((natu (a * 2 ^ (max 0 (65 + blen (b : Int) - blen (a : Int))).toNat / b)).1 : Int) ((natu (a * 2 ^ (max 0 (65 + blen (b : Int) - blen (a : Int))).toNat / b)).2.1 - max 0 (65 + blen (b : Int) - blen (a : Int)))
      ((natu (a * 2 ^ (max 0 (65 + blen (b : Int) - blen (a : Int))).toNat / b)).2.2 || decide (a * 2 ^ (max 0 (65 + blen (b : Int) - blen (a : Int))).toNat % b ≠ 0)) (up != (na != nb))
end Go.Proofs.YtpadpcjdakfokaaGreatDoor.Ev

/- Contracts: the terms of an inverse tangent. Printed by gen.py. -/
namespace Go.Proofs.YtpadpcjdakfokaaGreatDoor.Ev
open Go Go.Proofs
set_option linter.unusedVariables false
set_option linter.unusedSimpArgs false

theorem whN_def (z : Int) : whN z = (decide (z < 0), lim z.natAbs) := rfl
attribute [local irreducible] Lb whN piOne
theorem c_wDivQ (na : Bool) (a : List Int) (nb : Bool) (b : List Int) (hna : na = false) (hnb : nb = false) (ha : Lb a) (hb : Lb b) (hla : a.length < 33554432) (hlb : b.length < 33554432) (hb0 : lv b ≠ 0) :
    ∃ t : (Bool × List Int) × (Bool × List Int), t = (whN ((lv a / lv b : Nat) : Int), whN ((lv a % lv b : Nat) : Int)) ∧
      CallsA Tryz.prog 158 [.agg [.bool (.s na), .sli .u32 a], .agg [.bool (.s nb), .sli .u32 b]] (.tup [.agg [.bool (.s t.1.1), .sli .u32 t.1.2], .agg [.bool (.s t.2.1), .sli .u32 t.2.2], .bool (.s true)]) := by
  subst hna hnb; exact c_wDivP a b ha hb hla hlb hb0
def piTerm (n j : Nat) : Nat := piOne / (n ^ (2 * j + 1) * (2 * j + 1))
def nbB (n : Int) : Blk := .rows true 1 [.int .i64 (.l 0)] [[.int .i64 (.s n)]]
def pwB (p : Bool × List Int) : Blk := .rows true 2 [.bool (.l false), .s0] [[.bool (.s p.1), .sli .u32 p.2]]
def zwB : Blk := .rows true 2 [.bool (.l false), .s0] [[.bool (.l false), .s0]]
def odB (o : Int) : Blk := .rows true 1 [.int .i64 (.l 0)] [[.int .i64 (.s o)]]
theorem whN_nat (n : Nat) : whN (n : Int) = (false, lim n) := by unfold whN; rw [decide_eq_false (by omega), Int.natAbs_natCast]
theorem pow_len {n k : Nat} (h0 : 2 ≤ n) (hn : n ≤ 1000) (hk : k ≤ 240) : n ^ k ≤ 4294967296 ^ 80 := by
  have h3 : n ^ 3 ≤ 4294967296 := Nat.le_trans (Nat.pow_le_pow_left hn 3) (by decide)
  calc n ^ k ≤ n ^ (3 * 80) := Nat.pow_le_pow_right (by omega) hk
    _ = (n ^ 3) ^ 80 := by rw [Nat.pow_mul]
    _ ≤ 4294967296 ^ 80 := Nat.pow_le_pow_left h3 80
theorem lim_pow_len {m : Nat} (h : m ≤ 4294967296 ^ 100) : (lim m).length ≤ 101 := lim_length_le (Nat.lt_of_le_of_lt h (Nat.pow_lt_pow_right (by decide) (by decide)))
theorem piOne_le : piOne ≤ 4294967296 ^ 100 := by unfold piOne; decide +kernel
theorem limb_mono {k l : Nat} (h : k ≤ l) : 4294967296 ^ k ≤ 4294967296 ^ l := Nat.pow_le_pow_right (by decide) h
theorem wv_nat (n : Nat) : wv (whN (n : Int)).1 (whN (n : Int)).2 = n := wv_whN _

theorem h_term1 (n j : Nat) (hn1 : 2 ≤ n) (hn2 : n ≤ 1000) (hj : j ≤ 98) (N : Int) (hN : N = n) (p : Bool × List Int) (hp : p = whN ((n ^ (2 * j + 1) : Nat) : Int)) (o : Int) (ho : o = 2 * (j : Int) - 1)  :
    CallsH Tryz.prog 230 [.ptr 4 1 (.l 0) 0, .ptr 3 2 (.l 0) 0, .ptr 2 1 (.l 0) 0] [zwB, zwB, nbB N, pwB p, odB o, zwB]
      (fun v h => ∃ (t p' : Bool × List Int) (o' : Int), v = .agg [.bool (.s t.1), .sli .u32 t.2] ∧ h = [zwB, zwB, nbB N, pwB p', odB o', zwB] ∧ t = whN ((piTerm n j : Nat) : Int) ∧ p' = whN ((n ^ (2 * (j + 1) + 1) : Nat) : Int) ∧ o' = 2 * ((j + 1 : Nat) : Int) - 1) := by
  obtain ⟨f, ef⟩ : ∃ f : (Bool × List Int) → (Bool × List Int) → Int → Prop, ∀ t p' o', f t p' o' ↔ (t = whN ((piTerm n j : Nat) : Int) ∧ p' = whN ((n ^ (2 * (j + 1) + 1) : Nat) : Int) ∧ o' = 2 * ((j + 1 : Nat) : Int) - 1) := ⟨_, fun _ _ _ => Iff.rfl⟩
  have p1 : p.1 = false := by rw [hp, whN_nat]
  have p2 : lv p.2 = n ^ (2 * j + 1) := by rw [hp, whN_nat, lv_lim]
  have pb : Lb p.2 := by rw [hp]; exact whN_lb _
  have wp : wv p.1 p.2 = ((n ^ (2 * j + 1) : Nat) : Int) := by rw [hp]; exact wv_nat _
  have pl : p.2.length < 60000000 := by rw [hp, whN_nat]; exact Nat.lt_of_le_of_lt (lim_pow_len (Nat.le_trans (pow_len hn1 hn2 (by omega)) (limb_mono (by decide)))) (by decide)
  have o1 : IntKind.i64.wrap (o + 2) = 2 * (j : Int) + 1 := by rw [wi64_in (by omega) (by omega)]; omega
  have nn : (n : Int) * n = ((n * n : Nat) : Int) := (Int.natCast_mul n n).symm
  have nk : n * n ≤ 1000000 := Nat.mul_le_mul hn2 hn2
  have n2 : IntKind.i64.wrap (N * N) = ((n * n : Nat) : Int) := by
    rw [hN, nn, wi64_in (by omega) (by omega)]
  have o3 : -9223372036854775808 ≤ (2 * (j : Int) + 1) ∧ (2 * (j : Int) + 1) < 9223372036854775808 := by omega
  have n3 : -9223372036854775808 ≤ ((n * n : Nat) : Int) ∧ ((n * n : Nat) : Int) < 9223372036854775808 := by omega
  have fin : ∀ (s d q r : Bool × List Int), s = whN (piOne : Int) → d = whN (wv p.1 p.2 * (2 * (j : Int) + 1)) → q = whN ((lv s.2 / lv d.2 : Nat) : Int) → r = whN (wv p.1 p.2 * ((n * n : Nat) : Int)) → f q r (2 * (j : Int) + 1) := by
    intro s d q r hs hd hq hr
    rw [ef]
    have e1 : lv s.2 = piOne := by rw [hs, whN_nat, lv_lim]
    have e2 : lv d.2 = n ^ (2 * j + 1) * (2 * j + 1) := by
      rw [hd, wp, show ((n ^ (2 * j + 1) : Nat) : Int) * (2 * (j : Int) + 1) = ((n ^ (2 * j + 1) * (2 * j + 1) : Nat) : Int) by push_cast; rfl, whN_nat, lv_lim]
    refine ⟨by rw [hq, e1, e2]; rfl, ?_, by push_cast; omega⟩
    rw [hr, wp]
    exact congrArg _ (by rw [← Int.natCast_mul, show 2 * (j + 1) + 1 = (2 * j + 1) + 2 by omega, Nat.pow_add n (2 * j + 1) 2, show n * n = n ^ 2 from (Nat.pow_two n).symm])
  have side : ∀ d : Bool × List Int, d = whN (wv p.1 p.2 * (2 * (j : Int) + 1)) → d.1 = false ∧ Lb d.2 ∧ d.2.length < 33554432 ∧ lv d.2 ≠ 0 := by
    intro d hd
    have e : d = (false, lim (n ^ (2 * j + 1) * (2 * j + 1))) := by
      rw [hd, wp, show ((n ^ (2 * j + 1) : Nat) : Int) * (2 * (j : Int) + 1) = ((n ^ (2 * j + 1) * (2 * j + 1) : Nat) : Int) by push_cast; rfl, whN_nat]
    rw [e]
    refine ⟨rfl, lim_lb _, Nat.lt_of_le_of_lt (lim_pow_len ?_) (by decide), ?_⟩
    · calc n ^ (2 * j + 1) * (2 * j + 1) ≤ 4294967296 ^ 80 * 4294967296 ^ 1 := Nat.mul_le_mul (pow_len hn1 hn2 (by omega)) (by rw [Nat.pow_one]; omega)
        _ = 4294967296 ^ 81 := by rw [← Nat.pow_add]
        _ ≤ 4294967296 ^ 100 := limb_mono (by decide)
    · rw [lv_lim]
      exact Nat.pos_iff_ne_zero.1 (Nat.mul_pos (Nat.pow_pos (by omega)) (by omega))
  have sside : ∀ s : Bool × List Int, s = whN (piOne : Int) → s.1 = false ∧ Lb s.2 ∧ s.2.length < 33554432 := by
    intro s hs
    rw [hs, whN_nat]
    exact ⟨rfl, (lim_lb piOne : Lb (lim piOne)), Nat.lt_of_le_of_lt (lim_pow_len piOne_le) (by decide)⟩
  refine callsH_named (callsH_of (K := fun v h => ∃ (t p' : Bool × List Int) (o' : Int) (r1 r2 r3 : Blk), v = .agg [.bool (.s t.1), .sli .u32 t.2] ∧ h = [zwB, zwB, nbB N, pwB p', odB o', zwB, r1, r2, r3] ∧ f t p' o') hG hm Tryz.func230 (by kernel_rfl) ?_) ?_
  · clear hp ho
    intro E hE lp hl'
    cbv
    have eo : E.bin .add .i64 o 2 = 2 * (j : Int) + 1 := by subst hE; exact o1
    have en : E.bin .mul .i64 N N = ((n * n : Nat) : Int) := by subst hE; exact n2
    (first | (apply E_pcallX hE (c_piScale); (case hm => rfl); (case hle => (repeat' (first | exact u_nil | apply u_cons | apply u2_agg | exact u2_int | exact u1_int | exact u2_bool | exact u1_bool | exact u2_sli | exact u1_sli | exact u2_s0 | exact u1_s0))); all_goals (first | (intro s hs; cbv) | (assumption))) | (apply E_callX hE (c_piScale); (case hf => rfl); (case hc => (cbv <;> trivial)); (case hle => (repeat' (first | exact u_nil | apply u_cons | apply u2_agg | exact u2_int | exact u1_int | exact u2_bool | exact u1_bool | exact u2_sli | exact u1_sli | exact u2_s0 | exact u1_s0))); all_goals (first | (intro s hs; cbv) | (assumption))))
    have e1 : -9223372036854775808 ≤ E.bin .add .i64 o 2 := by rw [eo]; exact o3.1
    have e2 : E.bin .add .i64 o 2 < 9223372036854775808 := by rw [eo]; exact o3.2
    apply E_pcallX hE (c_piTimes p.1 p.2 (E.bin .add .i64 o 2) pb pl e1 e2)
    case hm => rfl
    case hle => (repeat' (first | exact u_nil | apply u_cons | apply u2_agg | exact u2_int | exact u1_int | exact u2_bool | exact u1_bool | exact u2_sli | exact u1_sli | exact u2_s0 | exact u1_s0))
    intro d hd
    cbv
    have hd : d = whN (wv p.1 p.2 * (2 * (j : Int) + 1)) := by
      have k : d = whN (wv p.1 p.2 * E.bin .add .i64 o 2) := hd
      rw [k, eo]
    obtain ⟨d1, d2, d3, d4⟩ := side d hd
    obtain ⟨s1, s2, s3⟩ := sside s hs
    (first | (apply E_pcallX hE (c_wDivQ s.1 s.2 d.1 d.2 s1 d1 s2 d2 s3 d3 d4); (case hm => rfl); (case hle => (repeat' (first | exact u_nil | apply u_cons | apply u2_agg | exact u2_int | exact u1_int | exact u2_bool | exact u1_bool | exact u2_sli | exact u1_sli | exact u2_s0 | exact u1_s0))); all_goals (first | (intro q hq; cbv) | (assumption))) | (apply E_callX hE (c_wDivQ s.1 s.2 d.1 d.2 s1 d1 s2 d2 s3 d3 d4); (case hf => rfl); (case hc => (cbv <;> trivial)); (case hle => (repeat' (first | exact u_nil | apply u_cons | apply u2_agg | exact u2_int | exact u1_int | exact u2_bool | exact u1_bool | exact u2_sli | exact u1_sli | exact u2_s0 | exact u1_s0))); all_goals (first | (intro q hq; cbv) | (assumption))))
    have e3 : -9223372036854775808 ≤ E.bin .mul .i64 N N := by rw [en]; exact n3.1
    have e4 : E.bin .mul .i64 N N < 9223372036854775808 := by rw [en]; exact n3.2
    (first | (apply E_pcallX hE (c_piTimes p.1 p.2 (E.bin .mul .i64 N N) pb pl e3 e4); (case hm => rfl); (case hle => (repeat' (first | exact u_nil | apply u_cons | apply u2_agg | exact u2_int | exact u1_int | exact u2_bool | exact u1_bool | exact u2_sli | exact u1_sli | exact u2_s0 | exact u1_s0))); all_goals (first | (intro r hr; cbv) | (assumption))) | (apply E_callX hE (c_piTimes p.1 p.2 (E.bin .mul .i64 N N) pb pl e3 e4); (case hf => rfl); (case hc => (cbv <;> trivial)); (case hle => (repeat' (first | exact u_nil | apply u_cons | apply u2_agg | exact u2_int | exact u1_int | exact u2_bool | exact u1_bool | exact u2_sli | exact u1_sli | exact u2_s0 | exact u1_s0))); all_goals (first | (intro r hr; cbv) | (assumption))))
    have hr : r = whN (wv p.1 p.2 * ((n * n : Nat) : Int)) := by
      have k : r = whN (wv p.1 p.2 * E.bin .mul .i64 N N) := hr
      rw [k, en]
    have q1 : q.1 = whN ((lv s.2 / lv d.2 : Nat) : Int) := by
      have k : q = (whN ((lv s.2 / lv d.2 : Nat) : Int), whN ((lv s.2 % lv d.2 : Nat) : Int)) := hq
      rw [k]
    have F := fin s d q.1 r hs hd q1 hr
    rw [← eo] at F
    exact ⟨q.1, r, E.bin .add .i64 o 2, _, _, _, rfl, rfl, F⟩
  · rintro v h ⟨t, p', o', r1, r2, r3, rfl, rfl, hf⟩
    exact ⟨[0, 1, 2, 3, 4, 5], .agg [.bool (.s t.1), .sli .u32 t.2], [zwB, zwB, nbB N, pwB p', odB o', zwB], ⟨by repeat' (first | exact trivial | exact rfl | apply And.intro), rfl, rfl, by show (_ : Nat) ≤ _; exact Nat.le_refl _, by repeat' (first | exact trivial | exact rfl | apply And.intro), fun _ _ hv => hv, rfl⟩, t, p', o', rfl, rfl, (ef t p' o').1 hf⟩

theorem h_term4 (n j : Nat) (hn1 : 2 ≤ n) (hn2 : n ≤ 1000) (hj : j ≤ 98) (N : Int) (hN : N = n) (p : Bool × List Int) (hp : p = whN ((n ^ (2 * j + 1) : Nat) : Int)) (o : Int) (ho : o = 2 * (j : Int) - 1) (x5 x7 x8 : Bool × List Int) :
    CallsH Tryz.prog 230 [.ptr 4 1 (.l 0) 0, .ptr 3 2 (.l 0) 0, .ptr 2 1 (.l 0) 0] [zwB, zwB, nbB N, pwB p, odB o, pwB x5, .dead, pwB x7, pwB x8]
      (fun v h => ∃ (t p' : Bool × List Int) (o' : Int), v = .agg [.bool (.s t.1), .sli .u32 t.2] ∧ h = [zwB, zwB, nbB N, pwB p', odB o', pwB x5, .dead, pwB x7, pwB x8] ∧ t = whN ((piTerm n j : Nat) : Int) ∧ p' = whN ((n ^ (2 * (j + 1) + 1) : Nat) : Int) ∧ o' = 2 * ((j + 1 : Nat) : Int) - 1) := by
  obtain ⟨f, ef⟩ : ∃ f : (Bool × List Int) → (Bool × List Int) → Int → Prop, ∀ t p' o', f t p' o' ↔ (t = whN ((piTerm n j : Nat) : Int) ∧ p' = whN ((n ^ (2 * (j + 1) + 1) : Nat) : Int) ∧ o' = 2 * ((j + 1 : Nat) : Int) - 1) := ⟨_, fun _ _ _ => Iff.rfl⟩
  have p1 : p.1 = false := by rw [hp, whN_nat]
  have p2 : lv p.2 = n ^ (2 * j + 1) := by rw [hp, whN_nat, lv_lim]
  have pb : Lb p.2 := by rw [hp]; exact whN_lb _
  have wp : wv p.1 p.2 = ((n ^ (2 * j + 1) : Nat) : Int) := by rw [hp]; exact wv_nat _
  have pl : p.2.length < 60000000 := by rw [hp, whN_nat]; exact Nat.lt_of_le_of_lt (lim_pow_len (Nat.le_trans (pow_len hn1 hn2 (by omega)) (limb_mono (by decide)))) (by decide)
  have o1 : IntKind.i64.wrap (o + 2) = 2 * (j : Int) + 1 := by rw [wi64_in (by omega) (by omega)]; omega
  have nn : (n : Int) * n = ((n * n : Nat) : Int) := (Int.natCast_mul n n).symm
  have nk : n * n ≤ 1000000 := Nat.mul_le_mul hn2 hn2
  have n2 : IntKind.i64.wrap (N * N) = ((n * n : Nat) : Int) := by
    rw [hN, nn, wi64_in (by omega) (by omega)]
  have o3 : -9223372036854775808 ≤ (2 * (j : Int) + 1) ∧ (2 * (j : Int) + 1) < 9223372036854775808 := by omega
  have n3 : -9223372036854775808 ≤ ((n * n : Nat) : Int) ∧ ((n * n : Nat) : Int) < 9223372036854775808 := by omega
  have fin : ∀ (s d q r : Bool × List Int), s = whN (piOne : Int) → d = whN (wv p.1 p.2 * (2 * (j : Int) + 1)) → q = whN ((lv s.2 / lv d.2 : Nat) : Int) → r = whN (wv p.1 p.2 * ((n * n : Nat) : Int)) → f q r (2 * (j : Int) + 1) := by
    intro s d q r hs hd hq hr
    rw [ef]
    have e1 : lv s.2 = piOne := by rw [hs, whN_nat, lv_lim]
    have e2 : lv d.2 = n ^ (2 * j + 1) * (2 * j + 1) := by
      rw [hd, wp, show ((n ^ (2 * j + 1) : Nat) : Int) * (2 * (j : Int) + 1) = ((n ^ (2 * j + 1) * (2 * j + 1) : Nat) : Int) by push_cast; rfl, whN_nat, lv_lim]
    refine ⟨by rw [hq, e1, e2]; rfl, ?_, by push_cast; omega⟩
    rw [hr, wp]
    exact congrArg _ (by rw [← Int.natCast_mul, show 2 * (j + 1) + 1 = (2 * j + 1) + 2 by omega, Nat.pow_add n (2 * j + 1) 2, show n * n = n ^ 2 from (Nat.pow_two n).symm])
  have side : ∀ d : Bool × List Int, d = whN (wv p.1 p.2 * (2 * (j : Int) + 1)) → d.1 = false ∧ Lb d.2 ∧ d.2.length < 33554432 ∧ lv d.2 ≠ 0 := by
    intro d hd
    have e : d = (false, lim (n ^ (2 * j + 1) * (2 * j + 1))) := by
      rw [hd, wp, show ((n ^ (2 * j + 1) : Nat) : Int) * (2 * (j : Int) + 1) = ((n ^ (2 * j + 1) * (2 * j + 1) : Nat) : Int) by push_cast; rfl, whN_nat]
    rw [e]
    refine ⟨rfl, lim_lb _, Nat.lt_of_le_of_lt (lim_pow_len ?_) (by decide), ?_⟩
    · calc n ^ (2 * j + 1) * (2 * j + 1) ≤ 4294967296 ^ 80 * 4294967296 ^ 1 := Nat.mul_le_mul (pow_len hn1 hn2 (by omega)) (by rw [Nat.pow_one]; omega)
        _ = 4294967296 ^ 81 := by rw [← Nat.pow_add]
        _ ≤ 4294967296 ^ 100 := limb_mono (by decide)
    · rw [lv_lim]
      exact Nat.pos_iff_ne_zero.1 (Nat.mul_pos (Nat.pow_pos (by omega)) (by omega))
  have sside : ∀ s : Bool × List Int, s = whN (piOne : Int) → s.1 = false ∧ Lb s.2 ∧ s.2.length < 33554432 := by
    intro s hs
    rw [hs, whN_nat]
    exact ⟨rfl, (lim_lb piOne : Lb (lim piOne)), Nat.lt_of_le_of_lt (lim_pow_len piOne_le) (by decide)⟩
  refine callsH_named (callsH_of (K := fun v h => ∃ (t p' : Bool × List Int) (o' : Int) (r1 r2 r3 : Blk), v = .agg [.bool (.s t.1), .sli .u32 t.2] ∧ h = [zwB, zwB, nbB N, pwB p', odB o', pwB x5, .dead, pwB x7, pwB x8, r1, r2, r3] ∧ f t p' o') hG hm Tryz.func230 (by kernel_rfl) ?_) ?_
  · clear hp ho
    intro E hE lp hl'
    cbv
    have eo : E.bin .add .i64 o 2 = 2 * (j : Int) + 1 := by subst hE; exact o1
    have en : E.bin .mul .i64 N N = ((n * n : Nat) : Int) := by subst hE; exact n2
    (first | (apply E_pcallX hE (c_piScale); (case hm => rfl); (case hle => (repeat' (first | exact u_nil | apply u_cons | apply u2_agg | exact u2_int | exact u1_int | exact u2_bool | exact u1_bool | exact u2_sli | exact u1_sli | exact u2_s0 | exact u1_s0))); all_goals (first | (intro s hs; cbv) | (assumption))) | (apply E_callX hE (c_piScale); (case hf => rfl); (case hc => (cbv <;> trivial)); (case hle => (repeat' (first | exact u_nil | apply u_cons | apply u2_agg | exact u2_int | exact u1_int | exact u2_bool | exact u1_bool | exact u2_sli | exact u1_sli | exact u2_s0 | exact u1_s0))); all_goals (first | (intro s hs; cbv) | (assumption))))
    have e1 : -9223372036854775808 ≤ E.bin .add .i64 o 2 := by rw [eo]; exact o3.1
    have e2 : E.bin .add .i64 o 2 < 9223372036854775808 := by rw [eo]; exact o3.2
    apply E_pcallX hE (c_piTimes p.1 p.2 (E.bin .add .i64 o 2) pb pl e1 e2)
    case hm => rfl
    case hle => (repeat' (first | exact u_nil | apply u_cons | apply u2_agg | exact u2_int | exact u1_int | exact u2_bool | exact u1_bool | exact u2_sli | exact u1_sli | exact u2_s0 | exact u1_s0))
    intro d hd
    cbv
    have hd : d = whN (wv p.1 p.2 * (2 * (j : Int) + 1)) := by
      have k : d = whN (wv p.1 p.2 * E.bin .add .i64 o 2) := hd
      rw [k, eo]
    obtain ⟨d1, d2, d3, d4⟩ := side d hd
    obtain ⟨s1, s2, s3⟩ := sside s hs
    (first | (apply E_pcallX hE (c_wDivQ s.1 s.2 d.1 d.2 s1 d1 s2 d2 s3 d3 d4); (case hm => rfl); (case hle => (repeat' (first | exact u_nil | apply u_cons | apply u2_agg | exact u2_int | exact u1_int | exact u2_bool | exact u1_bool | exact u2_sli | exact u1_sli | exact u2_s0 | exact u1_s0))); all_goals (first | (intro q hq; cbv) | (assumption))) | (apply E_callX hE (c_wDivQ s.1 s.2 d.1 d.2 s1 d1 s2 d2 s3 d3 d4); (case hf => rfl); (case hc => (cbv <;> trivial)); (case hle => (repeat' (first | exact u_nil | apply u_cons | apply u2_agg | exact u2_int | exact u1_int | exact u2_bool | exact u1_bool | exact u2_sli | exact u1_sli | exact u2_s0 | exact u1_s0))); all_goals (first | (intro q hq; cbv) | (assumption))))
    have e3 : -9223372036854775808 ≤ E.bin .mul .i64 N N := by rw [en]; exact n3.1
    have e4 : E.bin .mul .i64 N N < 9223372036854775808 := by rw [en]; exact n3.2
    (first | (apply E_pcallX hE (c_piTimes p.1 p.2 (E.bin .mul .i64 N N) pb pl e3 e4); (case hm => rfl); (case hle => (repeat' (first | exact u_nil | apply u_cons | apply u2_agg | exact u2_int | exact u1_int | exact u2_bool | exact u1_bool | exact u2_sli | exact u1_sli | exact u2_s0 | exact u1_s0))); all_goals (first | (intro r hr; cbv) | (assumption))) | (apply E_callX hE (c_piTimes p.1 p.2 (E.bin .mul .i64 N N) pb pl e3 e4); (case hf => rfl); (case hc => (cbv <;> trivial)); (case hle => (repeat' (first | exact u_nil | apply u_cons | apply u2_agg | exact u2_int | exact u1_int | exact u2_bool | exact u1_bool | exact u2_sli | exact u1_sli | exact u2_s0 | exact u1_s0))); all_goals (first | (intro r hr; cbv) | (assumption))))
    have hr : r = whN (wv p.1 p.2 * ((n * n : Nat) : Int)) := by
      have k : r = whN (wv p.1 p.2 * E.bin .mul .i64 N N) := hr
      rw [k, en]
    have q1 : q.1 = whN ((lv s.2 / lv d.2 : Nat) : Int) := by
      have k : q = (whN ((lv s.2 / lv d.2 : Nat) : Int), whN ((lv s.2 % lv d.2 : Nat) : Int)) := hq
      rw [k]
    have F := fin s d q.1 r hs hd q1 hr
    rw [← eo] at F
    exact ⟨q.1, r, E.bin .add .i64 o 2, _, _, _, rfl, rfl, F⟩
  · rintro v h ⟨t, p', o', r1, r2, r3, rfl, rfl, hf⟩
    exact ⟨[0, 1, 2, 3, 4, 5, 6, 7, 8], .agg [.bool (.s t.1), .sli .u32 t.2], [zwB, zwB, nbB N, pwB p', odB o', pwB x5, .dead, pwB x7, pwB x8], ⟨by repeat' (first | exact trivial | exact rfl | apply And.intro), rfl, rfl, by show (_ : Nat) ≤ _; exact Nat.le_refl _, by repeat' (first | exact trivial | exact rfl | apply And.intro), fun _ _ hv => hv, rfl⟩, t, p', o', rfl, rfl, (ef t p' o').1 hf⟩

end Go.Proofs.YtpadpcjdakfokaaGreatDoor.Ev

/- A block behind a call, told otherwise. -/
namespace Go.Proofs.YtpadpcjdakfokaaGreatDoor.Ev
open Go Go.RowKit
set_option linter.unusedVariables false
set_option linter.unusedSimpArgs false
variable {P : Program} {G : Nat → TI}

theorem callsH_turn {f : FuncId} {args : List AV} {h : List Blk} {K K' : AV → List Blk → Prop} (hC : CallsH P f args h K')
    (hK : ∀ v h1, K' v h1 → ∃ b x y, h1[b]? = some y ∧ x.wr = y.wr ∧ (x.dim = y.dim ∧ x.need = y.need) ∧ (∀ (x1 x2 : X) g, x1.w = x2.w → BlkR x1 g y → BlkR x2 g x) ∧ K v (h1.set b x)) : CallsH P f args h K := by
  intro base O0 μ w vals H hl ha
  refine (hC base O0 μ w vals H hl ha).mono ?_
  rintro e w' ⟨val, v, h1, μ1, rfl, hk, hv, H1, X1, hB⟩
  obtain ⟨b, x, y, hb, hw, ⟨hd, hn⟩, hr, hK⟩ := hK v h1 hk
  have hb0 : b < h1.length := (List.getElem?_eq_some_iff.1 hb).1
  have hdim : x.dim = dimB h1 b := by rw [hd]; simp [dimB, hb]
  have hwr : x.wr = true → wrB h1 b = true := by intro k; rw [hw] at k; simp [wrB, hb, k]
  have e := Ext.turn H1 (b := b) (x := x) (.inr rfl) hwr (.inr hdim) rfl (fun _ _ => rfl) (fun _ h => h)
  exact ⟨val, v, h1.set b x, μ1, rfl, hK, hv.mono e, HR.turn H1 hb0 (.inr rfl) hwr (.inr hdim) rfl (fun _ _ => rfl) (fun _ h => h) (hr (mkX base O0 μ1 h1 w') _ _ rfl (H1.blk b y hb)) (.inr ⟨_, hb, hn⟩), X1.trans e, hB⟩

/-- one whole number, known in full, as one told by a term -/
theorem blk_lit {k : IntKind} {n : Int} {w : Bool} {d : List AV} (x1 x2 : X) (g : Nat) (hw : x1.w = x2.w) (h : BlkR x1 g (.rows w 1 d [[.int k (.l n)]])) : BlkR x2 g (.rows w 1 d [[.int k (.s n)]]) := by
  obtain ⟨h1, c, e, h2, h3⟩ := h
  refine ⟨h1, c, e, hw ▸ h2, fun i r hr => ?_⟩
  match i, hr with
  | 0, hr =>
    simp only [List.getElem?_cons_zero, Option.some.injEq] at hr
    subst hr
    refine ⟨rfl, fun j a ha => ?_⟩
    match j, ha with
    | 0, ha =>
      simp only [List.getElem?_cons_zero, Option.some.injEq] at ha
      subst ha
      obtain ⟨y, e1, e2⟩ := (h3 0 _ rfl).2 0 _ rfl
      refine ⟨y, e1, ?_⟩
      have e2 : RoV x1.O x1.w (.int k (.l n)) y := e2
      cases e2 with
      | int _ _ v h => exact RoV.int k (.s n) v h
    | j + 1, ha => simp at ha
  | i + 1, hr => simp at hr
end Go.Proofs.YtpadpcjdakfokaaGreatDoor.Ev

/- Contracts: the two fixed numbers for an inverse tangent. Printed by gen.py. -/
namespace Go.Proofs.YtpadpcjdakfokaaGreatDoor.Ev
open Go Go.Proofs
set_option linter.unusedVariables false
set_option linter.unusedSimpArgs false

attribute [local irreducible] Lb whN piOne
theorem h_terms (N : Int) (h1 : -9223372036854775808 ≤ N) (h2 : N < 9223372036854775808) : CallsH Tryz.prog 221 [.int .i64 (.s N)] [zwB, zwB]
    (fun v h => ∃ p : Bool × List Int, v = .fn 230 [.ptr 4 1 (.l 0) 0, .ptr 3 2 (.l 0) 0, .ptr 2 1 (.l 0) 0] ∧ h = [zwB, zwB, nbB N, pwB p, odB (-1)] ∧ p = whN N) := by
  refine callsH_turn (K' := fun v h => ∃ p : Bool × List Int, v = .fn 230 [.ptr 4 1 (.l 0) 0, .ptr 3 2 (.l 0) 0, .ptr 2 1 (.l 0) 0] ∧ h = [zwB, zwB, nbB N, pwB p, .rows true 1 [.int .i64 (.l 0)] [[.int .i64 (.l (-1))]]] ∧ p = whN N) ?_ ?_
  · refine callsH_of hG hm Tryz.func221 (by kernel_rfl) ?_
    intro E hE lp hl'
    cbv
    (first | (apply E_pcallX hE (c_wFrom N h1 h2); (case hm => rfl); (case hle => (repeat' (first | exact u_nil | apply u_cons | apply u2_agg | exact u2_int | exact u1_int | exact u2_bool | exact u1_bool | exact u2_sli | exact u1_sli | exact u2_s0 | exact u1_s0))); all_goals (first | (intro u hu; cbv) | (assumption))) | (apply E_callX hE (c_wFrom N h1 h2); (case hf => rfl); (case hc => (cbv <;> trivial)); (case hle => (repeat' (first | exact u_nil | apply u_cons | apply u2_agg | exact u2_int | exact u1_int | exact u2_bool | exact u1_bool | exact u2_sli | exact u1_sli | exact u2_s0 | exact u1_s0))); all_goals (first | (intro u hu; cbv) | (assumption))))
    exact ⟨u, rfl, rfl, Eq.trans hu (whN_def N).symm⟩
  · rintro v h ⟨p, rfl, rfl, hp⟩
    exact ⟨4, odB (-1), _, rfl, rfl, ⟨rfl, rfl⟩, fun x1 x2 g hw hb => blk_lit x1 x2 g hw hb, p, rfl, rfl, hp⟩


def piSum (n : Nat) : Nat → Int
  | 0 => 0
  | j + 1 => piSum n j + (if j % 2 = 1 then -(piTerm n j : Int) else (piTerm n j : Int))
def piKf (n : Nat) : Nat → Nat → Nat
  | 0, j => j
  | f + 1, j => if piTerm n j = 0 then j else piKf n f (j + 1)
def piK (n : Nat) : Nat := piKf n 98 0
def piLo (n : Nat) : Int := piSum n (piK n) - (piK n : Int) - 1
def piHi (n : Nat) : Int := piSum n (piK n) + (piK n : Int) + 1
theorem piKf_go {n j : Nat} (hj : j ≤ 97) (h : piTerm n j ≠ 0) : piKf n (98 - j) j = piKf n (98 - (j + 1)) (j + 1) := by
  rw [show 98 - j = (98 - (j + 1)) + 1 by omega]
  show (if piTerm n j = 0 then j else _) = _
  rw [if_neg h]
theorem piKf_end {n j : Nat} (hj : j ≤ 97) (h : piTerm n j = 0) : piKf n (98 - j) j = j := by
  rw [show 98 - j = (98 - (j + 1)) + 1 by omega]
  show (if piTerm n j = 0 then j else _) = _
  rw [if_pos h]
theorem piTerm97 {n : Nat} (h : 2 ≤ n) : piTerm n 97 = 0 := by
  unfold piTerm
  refine Nat.div_eq_of_lt ?_
  have h1 : 2 ^ 195 ≤ n ^ 195 := Nat.pow_le_pow_left h 195
  have h2 : piOne < 2 ^ 195 := by unfold piOne; decide +kernel
  show piOne < n ^ 195 * 195
  omega
theorem piTerm_le (n j : Nat) : piTerm n j ≤ piOne := Nat.div_le_self _ _
theorem piSum_le (n j : Nat) : (piSum n j).natAbs ≤ j * piOne := by
  induction j with
  | zero => simp [piSum]
  | succ j ih =>
    have := piTerm_le n j
    rw [Nat.succ_mul]
    unfold piSum
    generalize piSum n j = s at *
    generalize j * piOne = q at *
    split <;> omega
theorem piSum_len {n j : Nat} (hj : j ≤ 98) : (whN (piSum n j)).2.length ≤ 7 := by
  refine whN_len ?_
  have h1 := piSum_le n j
  have h2 : j * piOne ≤ 98 * piOne := Nat.mul_le_mul_right _ hj
  have h3 : 98 * piOne < 4294967296 ^ 7 := by unfold piOne; decide +kernel
  omega
theorem piTerm_len (n j : Nat) : (whN (piTerm n j : Int)).2.length ≤ 101 := by
  rw [whN_nat]; exact lim_pow_len (Nat.le_trans (piTerm_le n j) piOne_le)
def sumB : Option (Bool × List Int) → Blk
  | none => zwB
  | some s => pwB s
def piS (N : Int) : Nat × Option (Bool × List Int) × (Bool × List Int) × (Bool × List Int) × Int → St := fun p =>
  ⟨[(2, .ptr 0 2 (.l 0) 0), (3, .ptr 1 2 (.l 0) 0), (4, .fn 230 [.ptr 4 1 (.l 0) 0, .ptr 3 2 (.l 0) 0, .ptr 2 1 (.l 0) 0]), (5, .ptr 5 2 (.l 0) 0), (6, .int .i64 (.s (p.1 : Int))), (7, .ptr 7 2 (.l 0) 0)],
    [zwB, zwB, nbB N, pwB p.2.2.2.1, odB p.2.2.2.2, sumB p.2.1, .dead, pwB p.2.2.1]⟩
def piOK (n : Nat) (p : Nat × Option (Bool × List Int) × (Bool × List Int) × (Bool × List Int) × Int) : Prop :=
  p.1 ≤ 97 ∧ piKf n (98 - p.1) p.1 = piK n ∧ (match p.2.1 with | none => p.1 = 0 | some s => s = whN (piSum n p.1)) ∧ p.2.2.1 = whN (piTerm n p.1 : Int) ∧ p.2.2.2.1 = whN ((n ^ (2 * (p.1 + 1) + 1) : Nat) : Int) ∧ p.2.2.2.2 = 2 * ((p.1 + 1 : Nat) : Int) - 1


set_option maxHeartbeats 4000000 in
theorem c_piInverse (n : Nat) (hn1 : 2 ≤ n) (hn2 : n ≤ 1000) (N : Int) (hN : N = n) : ∃ t : (Bool × List Int) × (Bool × List Int), t = (whN (piLo n), whN (piHi n)) ∧
    CallsA Tryz.prog 183 [.int .i64 (.s N)] (.tup [.agg [.bool (.s t.1.1), .sli .u32 t.1.2], .agg [.bool (.s t.2.1), .sli .u32 t.2.2]]) := by
  refine ⟨_, rfl, ?_⟩
  generalize hr : (whN (piLo n), whN (piHi n)) = r
  have N1 : -9223372036854775808 ≤ N := by omega
  have N2 : N < 9223372036854775808 := by omega
  have hp0 : ∀ p, p = whN N → p = whN ((n ^ (2 * 0 + 1) : Nat) : Int) := by intro p h; rw [h, hN, Nat.mul_zero, Nat.zero_add, Nat.pow_one]
  obtain ⟨m, em⟩ : ∃ m : Nat × Option (Bool × List Int) × (Bool × List Int) × (Bool × List Int) × Int → Nat, ∀ p, m p = 98 - p.1 := ⟨_, fun _ => rfl⟩
  obtain ⟨ok, eok⟩ : ∃ ok : Nat × Option (Bool × List Int) × (Bool × List Int) × (Bool × List Int) × Int → Prop, ∀ p, ok p ↔ piOK n p := ⟨_, fun _ => Iff.rfl⟩
  refine callsA_of hG hm Tryz.func183 (by kernel_rfl) ?_
  intro E hE lp hl'
  have f1 : E.cmp .lss N 2 = false := by subst hE; exact decide_eq_false (by omega)
  have f2 : E.cmp .gtr N 1000 = false := by subst hE; exact decide_eq_false (by omega)
  cbv
  repeat' (first | (apply E_br_f hE; assumption; cbv) | fail)
  refine E_callH hE (h_terms N N1 N2) ?_
  rintro v h1 ⟨p0, rfl, rfl, hp⟩
  cbv
  refine E_callH hE (h_term1 n 0 hn1 hn2 (by decide) N hN p0 (hp0 p0 hp) (-1) (by decide)) ?_
  rintro v h1 ⟨t0, p1, o1, rfl, rfl, ht0, hp1, ho1⟩
  cbv
  refine E_loopM hE hG hm hl' (piS N) m ok ⟨(0, none, t0, p1, o1), [0, 1, 2, 3, 4, 5, 6, 6], (eok _).2 ⟨by show 0 ≤ 97; decide, rfl, rfl, ht0, hp1, ho1⟩, stLeM (by repeat' (first | exact trivial | exact rfl | apply And.intro)) rfl rfl rfl (by repeat' (first | exact trivial | exact rfl | apply And.intro)) (by (repeat' (first | exact m_nil | refine m_cons ?_ rfl ?_ | exact u2_int | exact u2_bool | exact u2_ptr | exact u2_fn | exact (rfl : sle2 _ _))))⟩ ?_
  rintro ⟨j, so, t, p, o⟩ hok
  have hok := (eok _).1 hok
  obtain ⟨hj, hk, hs, ht, hp, ho⟩ := hok
  dsimp only at hj hk hs ht hp ho
  have tb : Lb t.2 := by rw [ht]; exact whN_lb _
  have t101 : t.2.length ≤ 101 := by rw [ht]; exact piTerm_len n j
  have tl : t.2.length < 67108864 := by omega
  have tl2 : t.2.length ≤ 268435456 := by omega
  have tl3 : t.2.length < 134217728 := by omega
  have lt : lv t.2 = piTerm n j := by rw [ht, whN_nat, lv_lim]
  have wt : wv t.1 t.2 = (piTerm n j : Int) := by rw [ht]; exact wv_nat _
  have fin : ∀ x y : Bool × List Int, piTerm n j = 0 → x = whN (piSum n j + (-(j : Int) - 1)) → y = whN (piSum n j + ((j : Int) + 1)) → x = r.1 ∧ y = r.2 := by
    intro x y z hx hy
    have kj : piK n = j := hk.symm.trans (piKf_end hj z)
    rw [← hr]
    show x = whN (piLo n) ∧ y = whN (piHi n)
    unfold piLo piHi
    rw [kj, hx, hy]
    exact ⟨congrArg _ (by omega), congrArg _ (by omega)⟩
  have step : piTerm n j ≠ 0 → ∀ s1 t' p' : Bool × List Int, ∀ o' : Int, s1 = whN (piSum n (j + 1)) → t' = whN (piTerm n (j + 1) : Int) → p' = whN ((n ^ (2 * (j + 1 + 1) + 1) : Nat) : Int) → o' = 2 * ((j + 1 + 1 : Nat) : Int) - 1 →
      m (j + 1, some s1, t', p', o') < m (j, so, t, p, o) ∧ ok (j + 1, some s1, t', p', o') := by
    intro nz s1 t' p' o' h1 h2 h3 h4
    have j96 : j ≤ 96 := by
      by_cases e : j = 97
      · exact absurd (by rw [e]; exact piTerm97 hn1) nz
      · omega
    exact ⟨by rw [em, em]; show 98 - (j + 1) < 98 - j; omega, (eok _).2 ⟨by show j + 1 ≤ 97; omega, (piKf_go hj nz).symm.trans hk, h1, h2, h3, h4⟩⟩
  have so1 : j % 2 = 1 → piSum n (j + 1) = piSum n j + -(piTerm n j : Int) := by intro h; show piSum n j + _ = _; rw [if_pos h]
  have so0 : j % 2 ≠ 1 → piSum n (j + 1) = piSum n j + (piTerm n j : Int) := by intro h; show piSum n j + _ = _; rw [if_neg h]
  have jr : E.bin .rem .i64 (j : Int) 2 = ((j % 2 : Nat) : Int) := by
    subst hE
    show (j : Int).tmod 2 = _
    rw [Int.tmod_eq_emod_of_nonneg (by omega)]; omega
  have j1 : E.bin .add .i64 (j : Int) 1 = ((j + 1 : Nat) : Int) := by
    subst hE
    show IntKind.i64.wrap ((j : Int) + 1) = _
    rw [wi64_in (by omega) (by omega)]; omega
  have jm : E.bin .sub .i64 (E.bin .sub .i64 0 (j : Int)) 1 = -(j : Int) - 1 := by
    subst hE
    show IntKind.i64.wrap (IntKind.i64.wrap (0 - (j : Int)) - 1) = _
    rw [wi64_in (n := 0 - (j : Int)) (by omega) (by omega), wi64_in (by omega) (by omega)]; omega
  have e1 : -9223372036854775808 ≤ E.bin .sub .i64 (E.bin .sub .i64 0 (j : Int)) 1 := by rw [jm]; omega
  have e2 : E.bin .sub .i64 (E.bin .sub .i64 0 (j : Int)) 1 < 9223372036854775808 := by rw [jm]; omega
  have e3 : -9223372036854775808 ≤ E.bin .add .i64 (j : Int) 1 := by rw [j1]; omega
  have e4 : E.bin .add .i64 (j : Int) 1 < 9223372036854775808 := by rw [j1]; omega
  have fl : ∀ (a : Bool × List Int) (z : Int), a = (decide (z < 0), lim z.natAbs) → z.natAbs < 1000 → Lb a.2 ∧ a.2.length < 134217728 ∧ wv a.1 a.2 = z := by
    intro a z h hz
    rw [← whN_def] at h
    rw [h]
    exact ⟨whN_lb _, Nat.lt_of_le_of_lt (whN_len (k := 1) (by rw [Nat.pow_one]; omega)) (by decide), wv_whN _⟩
  have nz_of : ∀ sg : Int, sg = (if lv t.2 = 0 then 0 else if t.1 then -1 else 1) → (0 < sg ↔ piTerm n j ≠ 0) := by
    intro sg h
    have t1 : t.1 = false := by rw [ht, whN_nat]
    rw [h, lt, t1]
    by_cases z : piTerm n j = 0
    · rw [if_pos z]; constructor
      · intro h; exact absurd h (by decide)
      · intro h; exact absurd z h
    · rw [if_neg z]; exact ⟨fun _ => z, fun _ => by decide⟩
  have jl : j ≤ 98 := by omega
  have j2 : j + 1 ≤ 98 := by omega
  have od_of : E.bin .rem .i64 (j : Int) 2 = 1 → j % 2 = 1 := by rw [jr]; intro k; omega
  have ev_of : ¬ E.bin .rem .i64 (j : Int) 2 = 1 → j % 2 ≠ 1 := by rw [jr]; intro k; omega
  have ja : (E.bin .sub .i64 (E.bin .sub .i64 0 (j : Int)) 1).natAbs < 1000 := by rw [jm]; omega
  have jb : (E.bin .add .i64 (j : Int) 1).natAbs < 1000 := by rw [j1]; omega
  have hp2 := hp
  have ho2 := ho
  clear hp ho hok em eok hr hk
  cases so with
  | none =>
    have j0 : j = 0 := hs
    have sb : Lb ([] : List Int) := Lb.nil
    have sl : ([] : List Int).length < 134217728 := by decide
    have ws : wv false [] = piSum n j := by rw [j0]; rfl
    clear hs
    cbv
    (first | (apply E_pcallX hE (c_wSign t.1 t.2 tb tl); (case hm => rfl); (case hle => (repeat' (first | exact u_nil | apply u_cons | apply u2_agg | exact u2_int | exact u1_int | exact u2_bool | exact u1_bool | exact u2_sli | exact u1_sli | exact u2_s0 | exact u1_s0))); all_goals (first | (intro sg hsg; cbv) | (assumption))) | (apply E_callX hE (c_wSign t.1 t.2 tb tl); (case hf => rfl); (case hc => (cbv <;> trivial)); (case hle => (repeat' (first | exact u_nil | apply u_cons | apply u2_agg | exact u2_int | exact u1_int | exact u2_bool | exact u1_bool | exact u2_sli | exact u1_sli | exact u2_s0 | exact u1_s0))); all_goals (first | (intro sg hsg; cbv) | (assumption))))
    refine E_br hE (fun g => ?_) (fun g => ?_) <;> cbv
    · have nz : piTerm n j ≠ 0 := (nz_of sg hsg).1 (by subst hE; exact gtr_t g)
      refine E_br hE (fun q => ?_) (fun q => ?_) <;> cbv
      · have od : j % 2 = 1 := od_of (by subst hE; exact eql_t q)
        (first | (apply E_pcallX hE (c_wNeg t.1 t.2 tb tl2); (case hm => rfl); (case hle => (repeat' (first | exact u_nil | apply u_cons | apply u2_agg | exact u2_int | exact u1_int | exact u2_bool | exact u1_bool | exact u2_sli | exact u1_sli | exact u2_s0 | exact u1_s0))); all_goals (first | (intro u hu; cbv) | (assumption))) | (apply E_callX hE (c_wNeg t.1 t.2 tb tl2); (case hf => rfl); (case hc => (cbv <;> trivial)); (case hle => (repeat' (first | exact u_nil | apply u_cons | apply u2_agg | exact u2_int | exact u1_int | exact u2_bool | exact u1_bool | exact u2_sli | exact u1_sli | exact u2_s0 | exact u1_s0))); all_goals (first | (intro u hu; cbv) | (assumption))))
        have hu : u = (!t.1 && decide (lv t.2 ≠ 0), lim (lv t.2)) := hu
        have ub : Lb u.2 := by rw [hu]; exact lim_lb _
        have ul : u.2.length < 134217728 := by rw [hu]; exact Nat.lt_of_le_of_lt (lim_length_le' tb) tl3
        have wu : wv u.1 u.2 = -(piTerm n j : Int) := by
          have t1 : t.1 = false := by rw [ht, whN_nat]
          rw [hu, whN_of, wv_whN, t1, lt]; rfl
        (first | (apply E_pcallX hE (c_wAdd false [] u.1 u.2 sb ub sl ul); (case hm => rfl); (case hle => (repeat' (first | exact u_nil | apply u_cons | apply u2_agg | exact u2_int | exact u1_int | exact u2_bool | exact u1_bool | exact u2_sli | exact u1_sli | exact u2_s0 | exact u1_s0))); all_goals (first | (intro s1 hs1; cbv) | (assumption))) | (apply E_callX hE (c_wAdd false [] u.1 u.2 sb ub sl ul); (case hf => rfl); (case hc => (cbv <;> trivial)); (case hle => (repeat' (first | exact u_nil | apply u_cons | apply u2_agg | exact u2_int | exact u1_int | exact u2_bool | exact u1_bool | exact u2_sli | exact u1_sli | exact u2_s0 | exact u1_s0))); all_goals (first | (intro s1 hs1; cbv) | (assumption))))
        have hs1 : s1 = whN (piSum n (j + 1)) := by
          have k : s1 = whN (wv false [] + wv u.1 u.2) := hs1
          rw [k, ws, wu, so1 od]
        refine E_nm hE (fun kk hkk => ?_); cbv
        have hkk : kk = ((j + 1 : Nat) : Int) := Eq.trans hkk j1
        refine E_callH hE (h_term4 n (j + 1) hn1 hn2 j2 N hN p hp2 o ho2 s1 u u) ?_
        rintro v h1 ⟨t', p', o', rfl, rfl, ht', hp', ho'⟩
        cbv
        exact ⟨(j + 1, some s1, t', p', o'), [0, 1, 2, 3, 4, 5, 6, 8], (step nz s1 t' p' o' hs1 ht' hp' ho').1, (step nz s1 t' p' o' hs1 ht' hp' ho').2, stLeM (by repeat' (first | exact trivial | exact rfl | apply And.intro)) rfl rfl rfl (by repeat' (first | exact trivial | exact rfl | apply And.intro)) (by (repeat' (first | exact m_nil | refine m_cons ?_ rfl ?_ | exact u2_int | exact u2_bool | exact u2_ptr | exact u2_fn | exact (rfl : sle2 _ _) | exact ⟨rfl, hkk⟩)))⟩
      · have od : j % 2 ≠ 1 := ev_of (by subst hE; exact eql_f q)
        have tl := tl3
        (first | (apply E_pcallX hE (c_wAdd false [] t.1 t.2 sb tb sl tl); (case hm => rfl); (case hle => (repeat' (first | exact u_nil | apply u_cons | apply u2_agg | exact u2_int | exact u1_int | exact u2_bool | exact u1_bool | exact u2_sli | exact u1_sli | exact u2_s0 | exact u1_s0))); all_goals (first | (intro s1 hs1; cbv) | (assumption))) | (apply E_callX hE (c_wAdd false [] t.1 t.2 sb tb sl tl); (case hf => rfl); (case hc => (cbv <;> trivial)); (case hle => (repeat' (first | exact u_nil | apply u_cons | apply u2_agg | exact u2_int | exact u1_int | exact u2_bool | exact u1_bool | exact u2_sli | exact u1_sli | exact u2_s0 | exact u1_s0))); all_goals (first | (intro s1 hs1; cbv) | (assumption))))
        have hs1 : s1 = whN (piSum n (j + 1)) := by
          have k : s1 = whN (wv false [] + wv t.1 t.2) := hs1
          rw [k, ws, wt, so0 od]
        refine E_nm hE (fun kk hkk => ?_); cbv
        have hkk : kk = ((j + 1 : Nat) : Int) := Eq.trans hkk j1
        refine E_callH hE (h_term4 n (j + 1) hn1 hn2 j2 N hN p hp2 o ho2 s1 t t) ?_
        rintro v h1 ⟨t', p', o', rfl, rfl, ht', hp', ho'⟩
        cbv
        exact ⟨(j + 1, some s1, t', p', o'), [0, 1, 2, 3, 4, 5, 6, 8], (step nz s1 t' p' o' hs1 ht' hp' ho').1, (step nz s1 t' p' o' hs1 ht' hp' ho').2, stLeM (by repeat' (first | exact trivial | exact rfl | apply And.intro)) rfl rfl rfl (by repeat' (first | exact trivial | exact rfl | apply And.intro)) (by (repeat' (first | exact m_nil | refine m_cons ?_ rfl ?_ | exact u2_int | exact u2_bool | exact u2_ptr | exact u2_fn | exact (rfl : sle2 _ _) | exact ⟨rfl, hkk⟩)))⟩
    · have z : piTerm n j = 0 := by
        by_cases z : piTerm n j = 0
        · exact z
        · exact absurd ((nz_of sg hsg).2 z) (by subst hE; exact gtr_f g)
      (first | (apply E_pcallX hE (c_wFrom (E.bin .sub .i64 (E.bin .sub .i64 0 (j : Int)) 1) e1 e2); (case hm => rfl); (case hle => (repeat' (first | exact u_nil | apply u_cons | apply u2_agg | exact u2_int | exact u1_int | exact u2_bool | exact u1_bool | exact u2_sli | exact u1_sli | exact u2_s0 | exact u1_s0))); all_goals (first | (intro a ha; cbv) | (assumption))) | (apply E_callX hE (c_wFrom (E.bin .sub .i64 (E.bin .sub .i64 0 (j : Int)) 1) e1 e2); (case hf => rfl); (case hc => (cbv <;> trivial)); (case hle => (repeat' (first | exact u_nil | apply u_cons | apply u2_agg | exact u2_int | exact u1_int | exact u2_bool | exact u1_bool | exact u2_sli | exact u1_sli | exact u2_s0 | exact u1_s0))); all_goals (first | (intro a ha; cbv) | (assumption))))
      obtain ⟨ab, al, wa⟩ := fl a _ ha ja
      (first | (apply E_pcallX hE (c_wAdd false [] a.1 a.2 sb ab sl al); (case hm => rfl); (case hle => (repeat' (first | exact u_nil | apply u_cons | apply u2_agg | exact u2_int | exact u1_int | exact u2_bool | exact u1_bool | exact u2_sli | exact u1_sli | exact u2_s0 | exact u1_s0))); all_goals (first | (intro x hx; cbv) | (assumption))) | (apply E_callX hE (c_wAdd false [] a.1 a.2 sb ab sl al); (case hf => rfl); (case hc => (cbv <;> trivial)); (case hle => (repeat' (first | exact u_nil | apply u_cons | apply u2_agg | exact u2_int | exact u1_int | exact u2_bool | exact u1_bool | exact u2_sli | exact u1_sli | exact u2_s0 | exact u1_s0))); all_goals (first | (intro x hx; cbv) | (assumption))))
      (first | (apply E_pcallX hE (c_wFrom (E.bin .add .i64 (j : Int) 1) e3 e4); (case hm => rfl); (case hle => (repeat' (first | exact u_nil | apply u_cons | apply u2_agg | exact u2_int | exact u1_int | exact u2_bool | exact u1_bool | exact u2_sli | exact u1_sli | exact u2_s0 | exact u1_s0))); all_goals (first | (intro b hb; cbv) | (assumption))) | (apply E_callX hE (c_wFrom (E.bin .add .i64 (j : Int) 1) e3 e4); (case hf => rfl); (case hc => (cbv <;> trivial)); (case hle => (repeat' (first | exact u_nil | apply u_cons | apply u2_agg | exact u2_int | exact u1_int | exact u2_bool | exact u1_bool | exact u2_sli | exact u1_sli | exact u2_s0 | exact u1_s0))); all_goals (first | (intro b hb; cbv) | (assumption))))
      obtain ⟨bb, bl, wb⟩ := fl b _ hb jb
      (first | (apply E_pcallX hE (c_wAdd false [] b.1 b.2 sb bb sl bl); (case hm => rfl); (case hle => (repeat' (first | exact u_nil | apply u_cons | apply u2_agg | exact u2_int | exact u1_int | exact u2_bool | exact u1_bool | exact u2_sli | exact u1_sli | exact u2_s0 | exact u1_s0))); all_goals (first | (intro y hy; cbv) | (assumption))) | (apply E_callX hE (c_wAdd false [] b.1 b.2 sb bb sl bl); (case hf => rfl); (case hc => (cbv <;> trivial)); (case hle => (repeat' (first | exact u_nil | apply u_cons | apply u2_agg | exact u2_int | exact u1_int | exact u2_bool | exact u1_bool | exact u2_sli | exact u1_sli | exact u2_s0 | exact u1_s0))); all_goals (first | (intro y hy; cbv) | (assumption))))
      have F := fin x y z (by have k : x = whN (wv false [] + wv a.1 a.2) := hx; rw [k, ws, wa, jm]) (by have k : y = whN (wv false [] + wv b.1 b.2) := hy; rw [k, ws, wb, j1]; rfl)
      exact ⟨⟨congrArg Prod.fst F.1, congrArg Prod.snd F.1, trivial⟩, ⟨congrArg Prod.fst F.2, congrArg Prod.snd F.2, trivial⟩, trivial⟩

  | some s =>
    have sb : Lb s.2 := by rw [show s = whN (piSum n j) from hs]; exact whN_lb _
    have sl : s.2.length < 134217728 := by rw [show s = whN (piSum n j) from hs]; exact Nat.lt_of_le_of_lt (piSum_len jl) (by decide)
    have ws : wv s.1 s.2 = piSum n j := by rw [show s = whN (piSum n j) from hs]; exact wv_whN _
    clear hs
    cbv
    (first | (apply E_pcallX hE (c_wSign t.1 t.2 tb tl); (case hm => rfl); (case hle => (repeat' (first | exact u_nil | apply u_cons | apply u2_agg | exact u2_int | exact u1_int | exact u2_bool | exact u1_bool | exact u2_sli | exact u1_sli | exact u2_s0 | exact u1_s0))); all_goals (first | (intro sg hsg; cbv) | (assumption))) | (apply E_callX hE (c_wSign t.1 t.2 tb tl); (case hf => rfl); (case hc => (cbv <;> trivial)); (case hle => (repeat' (first | exact u_nil | apply u_cons | apply u2_agg | exact u2_int | exact u1_int | exact u2_bool | exact u1_bool | exact u2_sli | exact u1_sli | exact u2_s0 | exact u1_s0))); all_goals (first | (intro sg hsg; cbv) | (assumption))))
    refine E_br hE (fun g => ?_) (fun g => ?_) <;> cbv
    · have nz : piTerm n j ≠ 0 := (nz_of sg hsg).1 (by subst hE; exact gtr_t g)
      refine E_br hE (fun q => ?_) (fun q => ?_) <;> cbv
      · have od : j % 2 = 1 := od_of (by subst hE; exact eql_t q)
        (first | (apply E_pcallX hE (c_wNeg t.1 t.2 tb tl2); (case hm => rfl); (case hle => (repeat' (first | exact u_nil | apply u_cons | apply u2_agg | exact u2_int | exact u1_int | exact u2_bool | exact u1_bool | exact u2_sli | exact u1_sli | exact u2_s0 | exact u1_s0))); all_goals (first | (intro u hu; cbv) | (assumption))) | (apply E_callX hE (c_wNeg t.1 t.2 tb tl2); (case hf => rfl); (case hc => (cbv <;> trivial)); (case hle => (repeat' (first | exact u_nil | apply u_cons | apply u2_agg | exact u2_int | exact u1_int | exact u2_bool | exact u1_bool | exact u2_sli | exact u1_sli | exact u2_s0 | exact u1_s0))); all_goals (first | (intro u hu; cbv) | (assumption))))
        have hu : u = (!t.1 && decide (lv t.2 ≠ 0), lim (lv t.2)) := hu
        have ub : Lb u.2 := by rw [hu]; exact lim_lb _
        have ul : u.2.length < 134217728 := by rw [hu]; exact Nat.lt_of_le_of_lt (lim_length_le' tb) tl3
        have wu : wv u.1 u.2 = -(piTerm n j : Int) := by
          have t1 : t.1 = false := by rw [ht, whN_nat]
          rw [hu, whN_of, wv_whN, t1, lt]; rfl
        (first | (apply E_pcallX hE (c_wAdd s.1 s.2 u.1 u.2 sb ub sl ul); (case hm => rfl); (case hle => (repeat' (first | exact u_nil | apply u_cons | apply u2_agg | exact u2_int | exact u1_int | exact u2_bool | exact u1_bool | exact u2_sli | exact u1_sli | exact u2_s0 | exact u1_s0))); all_goals (first | (intro s1 hs1; cbv) | (assumption))) | (apply E_callX hE (c_wAdd s.1 s.2 u.1 u.2 sb ub sl ul); (case hf => rfl); (case hc => (cbv <;> trivial)); (case hle => (repeat' (first | exact u_nil | apply u_cons | apply u2_agg | exact u2_int | exact u1_int | exact u2_bool | exact u1_bool | exact u2_sli | exact u1_sli | exact u2_s0 | exact u1_s0))); all_goals (first | (intro s1 hs1; cbv) | (assumption))))
        have hs1 : s1 = whN (piSum n (j + 1)) := by
          have k : s1 = whN (wv s.1 s.2 + wv u.1 u.2) := hs1
          rw [k, ws, wu, so1 od]
        refine E_nm hE (fun kk hkk => ?_); cbv
        have hkk : kk = ((j + 1 : Nat) : Int) := Eq.trans hkk j1
        refine E_callH hE (h_term4 n (j + 1) hn1 hn2 j2 N hN p hp2 o ho2 s1 u u) ?_
        rintro v h1 ⟨t', p', o', rfl, rfl, ht', hp', ho'⟩
        cbv
        exact ⟨(j + 1, some s1, t', p', o'), [0, 1, 2, 3, 4, 5, 6, 8], (step nz s1 t' p' o' hs1 ht' hp' ho').1, (step nz s1 t' p' o' hs1 ht' hp' ho').2, stLeM (by repeat' (first | exact trivial | exact rfl | apply And.intro)) rfl rfl rfl (by repeat' (first | exact trivial | exact rfl | apply And.intro)) (by (repeat' (first | exact m_nil | refine m_cons ?_ rfl ?_ | exact u2_int | exact u2_bool | exact u2_ptr | exact u2_fn | exact (rfl : sle2 _ _) | exact ⟨rfl, hkk⟩)))⟩
      · have od : j % 2 ≠ 1 := ev_of (by subst hE; exact eql_f q)
        have tl := tl3
        (first | (apply E_pcallX hE (c_wAdd s.1 s.2 t.1 t.2 sb tb sl tl); (case hm => rfl); (case hle => (repeat' (first | exact u_nil | apply u_cons | apply u2_agg | exact u2_int | exact u1_int | exact u2_bool | exact u1_bool | exact u2_sli | exact u1_sli | exact u2_s0 | exact u1_s0))); all_goals (first | (intro s1 hs1; cbv) | (assumption))) | (apply E_callX hE (c_wAdd s.1 s.2 t.1 t.2 sb tb sl tl); (case hf => rfl); (case hc => (cbv <;> trivial)); (case hle => (repeat' (first | exact u_nil | apply u_cons | apply u2_agg | exact u2_int | exact u1_int | exact u2_bool | exact u1_bool | exact u2_sli | exact u1_sli | exact u2_s0 | exact u1_s0))); all_goals (first | (intro s1 hs1; cbv) | (assumption))))
        have hs1 : s1 = whN (piSum n (j + 1)) := by
          have k : s1 = whN (wv s.1 s.2 + wv t.1 t.2) := hs1
          rw [k, ws, wt, so0 od]
        refine E_nm hE (fun kk hkk => ?_); cbv
        have hkk : kk = ((j + 1 : Nat) : Int) := Eq.trans hkk j1
        refine E_callH hE (h_term4 n (j + 1) hn1 hn2 j2 N hN p hp2 o ho2 s1 t t) ?_
        rintro v h1 ⟨t', p', o', rfl, rfl, ht', hp', ho'⟩
        cbv
        exact ⟨(j + 1, some s1, t', p', o'), [0, 1, 2, 3, 4, 5, 6, 8], (step nz s1 t' p' o' hs1 ht' hp' ho').1, (step nz s1 t' p' o' hs1 ht' hp' ho').2, stLeM (by repeat' (first | exact trivial | exact rfl | apply And.intro)) rfl rfl rfl (by repeat' (first | exact trivial | exact rfl | apply And.intro)) (by (repeat' (first | exact m_nil | refine m_cons ?_ rfl ?_ | exact u2_int | exact u2_bool | exact u2_ptr | exact u2_fn | exact (rfl : sle2 _ _) | exact ⟨rfl, hkk⟩)))⟩
    · have z : piTerm n j = 0 := by
        by_cases z : piTerm n j = 0
        · exact z
        · exact absurd ((nz_of sg hsg).2 z) (by subst hE; exact gtr_f g)
      (first | (apply E_pcallX hE (c_wFrom (E.bin .sub .i64 (E.bin .sub .i64 0 (j : Int)) 1) e1 e2); (case hm => rfl); (case hle => (repeat' (first | exact u_nil | apply u_cons | apply u2_agg | exact u2_int | exact u1_int | exact u2_bool | exact u1_bool | exact u2_sli | exact u1_sli | exact u2_s0 | exact u1_s0))); all_goals (first | (intro a ha; cbv) | (assumption))) | (apply E_callX hE (c_wFrom (E.bin .sub .i64 (E.bin .sub .i64 0 (j : Int)) 1) e1 e2); (case hf => rfl); (case hc => (cbv <;> trivial)); (case hle => (repeat' (first | exact u_nil | apply u_cons | apply u2_agg | exact u2_int | exact u1_int | exact u2_bool | exact u1_bool | exact u2_sli | exact u1_sli | exact u2_s0 | exact u1_s0))); all_goals (first | (intro a ha; cbv) | (assumption))))
      obtain ⟨ab, al, wa⟩ := fl a _ ha ja
      (first | (apply E_pcallX hE (c_wAdd s.1 s.2 a.1 a.2 sb ab sl al); (case hm => rfl); (case hle => (repeat' (first | exact u_nil | apply u_cons | apply u2_agg | exact u2_int | exact u1_int | exact u2_bool | exact u1_bool | exact u2_sli | exact u1_sli | exact u2_s0 | exact u1_s0))); all_goals (first | (intro x hx; cbv) | (assumption))) | (apply E_callX hE (c_wAdd s.1 s.2 a.1 a.2 sb ab sl al); (case hf => rfl); (case hc => (cbv <;> trivial)); (case hle => (repeat' (first | exact u_nil | apply u_cons | apply u2_agg | exact u2_int | exact u1_int | exact u2_bool | exact u1_bool | exact u2_sli | exact u1_sli | exact u2_s0 | exact u1_s0))); all_goals (first | (intro x hx; cbv) | (assumption))))
      (first | (apply E_pcallX hE (c_wFrom (E.bin .add .i64 (j : Int) 1) e3 e4); (case hm => rfl); (case hle => (repeat' (first | exact u_nil | apply u_cons | apply u2_agg | exact u2_int | exact u1_int | exact u2_bool | exact u1_bool | exact u2_sli | exact u1_sli | exact u2_s0 | exact u1_s0))); all_goals (first | (intro b hb; cbv) | (assumption))) | (apply E_callX hE (c_wFrom (E.bin .add .i64 (j : Int) 1) e3 e4); (case hf => rfl); (case hc => (cbv <;> trivial)); (case hle => (repeat' (first | exact u_nil | apply u_cons | apply u2_agg | exact u2_int | exact u1_int | exact u2_bool | exact u1_bool | exact u2_sli | exact u1_sli | exact u2_s0 | exact u1_s0))); all_goals (first | (intro b hb; cbv) | (assumption))))
      obtain ⟨bb, bl, wb⟩ := fl b _ hb jb
      (first | (apply E_pcallX hE (c_wAdd s.1 s.2 b.1 b.2 sb bb sl bl); (case hm => rfl); (case hle => (repeat' (first | exact u_nil | apply u_cons | apply u2_agg | exact u2_int | exact u1_int | exact u2_bool | exact u1_bool | exact u2_sli | exact u1_sli | exact u2_s0 | exact u1_s0))); all_goals (first | (intro y hy; cbv) | (assumption))) | (apply E_callX hE (c_wAdd s.1 s.2 b.1 b.2 sb bb sl bl); (case hf => rfl); (case hc => (cbv <;> trivial)); (case hle => (repeat' (first | exact u_nil | apply u_cons | apply u2_agg | exact u2_int | exact u1_int | exact u2_bool | exact u1_bool | exact u2_sli | exact u1_sli | exact u2_s0 | exact u1_s0))); all_goals (first | (intro y hy; cbv) | (assumption))))
      have F := fin x y z (by have k : x = whN (wv s.1 s.2 + wv a.1 a.2) := hx; rw [k, ws, wa, jm]) (by have k : y = whN (wv s.1 s.2 + wv b.1 b.2) := hy; rw [k, ws, wb, j1]; rfl)
      exact ⟨⟨congrArg Prod.fst F.1, congrArg Prod.snd F.1, trivial⟩, ⟨congrArg Prod.fst F.2, congrArg Prod.snd F.2, trivial⟩, trivial⟩

end Go.Proofs.YtpadpcjdakfokaaGreatDoor.Ev

/- Contracts of the reference: quotients of numbers above nought; the scale, so many times. Printed by gen.py. -/
namespace Go.Proofs.YtpadpcjdakfokaaGreatDoor.Ev
open Go Go.Proofs
set_option linter.unusedVariables false
set_option linter.unusedSimpArgs false

attribute [local irreducible] Lb whN
theorem c_r11Scale : ∃ t : Bool × List Int, t = whN (piOne : Int) ∧ CallsA Tryz.prog 68 [] (.agg [.bool (.s t.1), .sli .u32 t.2]) := by
  refine ⟨_, rfl, ?_⟩
  generalize hr : whN (piOne : Int) = r
  have l1 : Lb [(1 : Int)] := Lb.cons (by decide) (by decide) Lb.nil
  have v1 : lv [(1 : Int)] = 1 := rfl
  have fin : (false && decide (2 ^ 192 ≠ 0), lim (2 ^ 192)) = r := by rw [← hr, show piOne = 2 ^ 192 from rfl, whN_of]; rfl
  have len : (lim (2 ^ 192)).length ≤ 268435456 := Nat.le_trans (lim_length_le (k := 7) (by decide +kernel)) (by decide)
  clear hr
  refine callsA_of hG hm Tryz.func68 (by kernel_rfl) ?_
  intro E hE lp hl'
  have es : E.sub [1] 0 1 = [1] := by subst hE; rfl
  cbv
  (first | (apply E_pcallX hE (c_rShl _ 192 ?_ ?_); (case hm => rfl); (case hle => (repeat' (first | exact u_nil | apply u_cons | apply u2_agg | exact u2_int | exact u1_int | exact u2_bool | exact u1_bool | exact u2_sli | exact u1_sli | exact u2_s0 | exact u1_s0))); all_goals (first | (intro u hu; cbv) | (first | (show Lb (E.sub [1] 0 1); rw [es]; exact l1) | (show (E.sub [1] 0 1).length < 33554432; rw [es]; decide)))) | (apply E_callX hE (c_rShl _ 192 ?_ ?_); (case hf => rfl); (case hc => (cbv <;> trivial)); (case hle => (repeat' (first | exact u_nil | apply u_cons | apply u2_agg | exact u2_int | exact u1_int | exact u2_bool | exact u1_bool | exact u2_sli | exact u1_sli | exact u2_s0 | exact u1_s0))); all_goals (first | (intro u hu; cbv) | (first | (show Lb (E.sub [1] 0 1); rw [es]; exact l1) | (show (E.sub [1] 0 1).length < 33554432; rw [es]; decide)))))
  have hu : u = lim (2 ^ 192) := by
    have k : u = (if (192 : Int) < 1 then lim (lv (E.sub [1] 0 1)) else if 16777216 < (192 : Int) then [] else lim (lv (E.sub [1] 0 1) * 2 ^ (192 : Int).toNat)) := hu
    rw [k, es, v1, if_neg (by decide), if_neg (by decide), Nat.one_mul]; rfl
  have ub : Lb u := by rw [hu]; exact lim_lb _
  have ul : u.length ≤ 268435456 := by rw [hu]; exact len
  (first | (apply E_pcallX hE (c_r2Make false u ub ul); (case hm => rfl); (case hle => (repeat' (first | exact u_nil | apply u_cons | apply u2_agg | exact u2_int | exact u1_int | exact u2_bool | exact u1_bool | exact u2_sli | exact u1_sli | exact u2_s0 | exact u1_s0))); all_goals (first | (intro t ht; cbv) | (assumption))) | (apply E_callX hE (c_r2Make false u ub ul); (case hf => rfl); (case hc => (cbv <;> trivial)); (case hle => (repeat' (first | exact u_nil | apply u_cons | apply u2_agg | exact u2_int | exact u1_int | exact u2_bool | exact u1_bool | exact u2_sli | exact u1_sli | exact u2_s0 | exact u1_s0))); all_goals (first | (intro t ht; cbv) | (assumption))))
  have k : t = r := by
    have k : t = (false && decide (lv u ≠ 0), lim (lv u)) := ht
    rw [k, hu, lv_lim]; exact fin
  rw [← k]; exact ⟨rfl, rfl, trivial⟩

theorem c_r2DivP (na : Bool) (a : List Int) (nb : Bool) (b : List Int) (hna : na = false) (hnb : nb = false) (ha : Lb a) (hb : Lb b) (hla : a.length < 67108864) (hlb : b.length < 67108864) (hb0 : lv b ≠ 0) :
    ∃ t : (Bool × List Int) × (Bool × List Int), t = (whN ((lv a / lv b : Nat) : Int), whN ((lv a % lv b : Nat) : Int)) ∧
      CallsA Tryz.prog 138 [.agg [.bool (.s na), .sli .u32 a], .agg [.bool (.s nb), .sli .u32 b]] (.tup [.agg [.bool (.s t.1.1), .sli .u32 t.1.2], .agg [.bool (.s t.2.1), .sli .u32 t.2.2], .bool (.s true)]) := by
  subst hna hnb
  refine ⟨_, rfl, ?_⟩
  generalize hr : (whN ((lv a / lv b : Nat) : Int), whN ((lv a % lv b : Nat) : Int)) = r
  have qn : ∀ (t : Bool × List Int), t = (false && decide (lv a / lv b ≠ 0), lim (lv a / lv b)) → t = r.1 := by
    intro t h; rw [h, ← hr, whN_of]; rfl
  have rn : ∀ (t : Bool × List Int), t = (false && decide (lv a % lv b ≠ 0), lim (lv a % lv b)) → t = r.2 := by
    intro t h; rw [h, ← hr, whN_of]; rfl
  have b1 : b.length ≤ 268435456 := by omega
  have l1 : (lim (lv a / lv b)).length ≤ 268435456 := by have := lim_mono (Nat.div_le_self (lv a) (lv b)); have := lim_length_le' ha; omega
  have l3 : (lim (lv a % lv b)).length ≤ 268435456 := by have := lim_mono (Nat.mod_le (lv a) (lv b)); have := lim_length_le' ha; omega
  clear hr
  refine callsA_of hG hm Tryz.func138 (by kernel_rfl) ?_
  intro E hE lp hl'
  cbv
  (first | (apply E_pcallX hE (c_r2Sign false b hb b1); (case hm => rfl); (case hle => (repeat' (first | exact u_nil | apply u_cons | apply u2_agg | exact u2_int | exact u1_int | exact u2_bool | exact u1_bool | exact u2_sli | exact u1_sli | exact u2_s0 | exact u1_s0))); all_goals (first | (intro z hz; cbv) | (assumption))) | (apply E_callX hE (c_r2Sign false b hb b1); (case hf => rfl); (case hc => (cbv <;> trivial)); (case hle => (repeat' (first | exact u_nil | apply u_cons | apply u2_agg | exact u2_int | exact u1_int | exact u2_bool | exact u1_bool | exact u2_sli | exact u1_sli | exact u2_s0 | exact u1_s0))); all_goals (first | (intro z hz; cbv) | (assumption))))
  have hz : z = 1 := by
    have k : z = (if lv b = 0 then 0 else if false = true then -1 else 1) := hz
    rw [k, if_neg hb0]; rfl
  (try (refine E_nm hE (fun z1 e1 => ?_); cbv))
  have hz1 : z1 = 1 := Eq.trans e1 hz
  refine E_br_f hE (show E.cmp .eql z1 0 = false by subst hE hz1; rfl) ?_; cbv
  (first | (apply E_pcallX hE (c_rDiv a b ha hb hla hlb); (case hm => rfl); (case hle => (repeat' (first | exact u_nil | apply u_cons | apply u2_agg | exact u2_int | exact u1_int | exact u2_bool | exact u1_bool | exact u2_sli | exact u1_sli | exact u2_s0 | exact u1_s0))); all_goals (first | (intro d hd; cbv) | (assumption))) | (apply E_callX hE (c_rDiv a b ha hb hla hlb); (case hf => rfl); (case hc => (cbv <;> trivial)); (case hle => (repeat' (first | exact u_nil | apply u_cons | apply u2_agg | exact u2_int | exact u1_int | exact u2_bool | exact u1_bool | exact u2_sli | exact u1_sli | exact u2_s0 | exact u1_s0))); all_goals (first | (intro d hd; cbv) | (assumption))))
  have hd : d = (lim (lv a / lv b), lim (lv a % lv b), true) := by
    have k : d = (if lv b = 0 then ([], [], false) else (lim (lv a / lv b), lim (lv a % lv b), true)) := hd
    rw [k, if_neg hb0]
  have d1 : d.1 = lim (lv a / lv b) := by rw [hd]
  have d2 : d.2.1 = lim (lv a % lv b) := by rw [hd]
  have db : Lb d.1 := by rw [d1]; exact lim_lb _
  have dc : Lb d.2.1 := by rw [d2]; exact lim_lb _
  have dl : d.1.length ≤ 268435456 := by rw [d1]; exact l1
  have dm : d.2.1.length ≤ 268435456 := by rw [d2]; exact l3
  (first | (apply E_pcallX hE (c_r2Make _ d.1 db dl); (case hm => rfl); (case hle => (repeat' (first | exact u_nil | apply u_cons | apply u2_agg | exact u2_int | exact u1_int | exact u2_bool | exact u1_bool | exact u2_sli | exact u1_sli | exact u2_s0 | exact u1_s0))); all_goals (first | (intro x hx; cbv) | (assumption))) | (apply E_callX hE (c_r2Make _ d.1 db dl); (case hf => rfl); (case hc => (cbv <;> trivial)); (case hle => (repeat' (first | exact u_nil | apply u_cons | apply u2_agg | exact u2_int | exact u1_int | exact u2_bool | exact u1_bool | exact u2_sli | exact u1_sli | exact u2_s0 | exact u1_s0))); all_goals (first | (intro x hx; cbv) | (assumption))))
  (first | (apply E_pcallX hE (c_r2Make _ d.2.1 dc dm); (case hm => rfl); (case hle => (repeat' (first | exact u_nil | apply u_cons | apply u2_agg | exact u2_int | exact u1_int | exact u2_bool | exact u1_bool | exact u2_sli | exact u1_sli | exact u2_s0 | exact u1_s0))); all_goals (first | (intro y hy; cbv) | (assumption))) | (apply E_callX hE (c_r2Make _ d.2.1 dc dm); (case hf => rfl); (case hc => (cbv <;> trivial)); (case hle => (repeat' (first | exact u_nil | apply u_cons | apply u2_agg | exact u2_int | exact u1_int | exact u2_bool | exact u1_bool | exact u2_sli | exact u1_sli | exact u2_s0 | exact u1_s0))); all_goals (first | (intro y hy; cbv) | (assumption))))
  have ex : x = r.1 := qn x (by have k : x = ((E.bnot (E.beq false false)) && decide (lv d.1 ≠ 0), lim (lv d.1)) := hx; rw [k, d1, lv_lim]; subst hE; rfl)
  have ey : y = r.2 := rn y (by have k : y = (false && decide (lv d.2.1 ≠ 0), lim (lv d.2.1)) := hy; rw [k, d2, lv_lim])
  have y0 : y = (false, lim (lv a % lv b)) := by have k : y = (false && decide (lv d.2.1 ≠ 0), lim (lv d.2.1)) := hy; rw [k, d2, lv_lim]; rfl
  have yb : Lb y.2 := by rw [y0]; exact lim_lb _
  have yl : y.2.length ≤ 268435456 := by rw [y0]; exact l3
  (first | (apply E_pcallX hE (c_r2Sign y.1 y.2 yb yl); (case hm => rfl); (case hle => (repeat' (first | exact u_nil | apply u_cons | apply u2_agg | exact u2_int | exact u1_int | exact u2_bool | exact u1_bool | exact u2_sli | exact u1_sli | exact u2_s0 | exact u1_s0))); all_goals (first | (intro s hs; cbv) | (assumption))) | (apply E_callX hE (c_r2Sign y.1 y.2 yb yl); (case hf => rfl); (case hc => (cbv <;> trivial)); (case hle => (repeat' (first | exact u_nil | apply u_cons | apply u2_agg | exact u2_int | exact u1_int | exact u2_bool | exact u1_bool | exact u2_sli | exact u1_sli | exact u2_s0 | exact u1_s0))); all_goals (first | (intro s hs; cbv) | (assumption))))
  have hs : s = 0 ∨ s = 1 := by
    have k : s = (if lv y.2 = 0 then 0 else if y.1 = true then -1 else 1) := hs
    rw [k, y0]; split
    · exact .inl rfl
    · exact .inr rfl
  refine E_br_f hE (show E.cmp .eql s (E.bin .sub .i64 0 z1) = false by subst hE hz1; rcases hs with h | h <;> (rw [h]; rfl)) ?_; cbv
  exact ⟨⟨congrArg Prod.fst ex, congrArg Prod.snd ex, trivial⟩, ⟨congrArg Prod.fst ey, congrArg Prod.snd ey, trivial⟩, trivial⟩

end Go.Proofs.YtpadpcjdakfokaaGreatDoor.Ev

/- The lowest bit of a number, and where it stands: plain Lean. -/
namespace Go.Proofs.YtpadpcjdakfokaaGreatDoor.Ev
open Go
set_option linter.unusedVariables false
set_option linter.unusedSimpArgs false

theorem and_split (a b : Nat) : a &&& b = 2 * (a / 2 &&& b / 2) + a % 2 * (b % 2) := by
  apply Nat.eq_of_testBit_eq
  intro i
  have e : a % 2 * (b % 2) < 2 := by
    rcases Nat.mod_two_eq_zero_or_one a with h | h <;> rcases Nat.mod_two_eq_zero_or_one b with k | k <;> rw [h, k] <;> decide
  cases i with
  | zero =>
    rw [Nat.testBit_and]
    simp only [Nat.testBit_zero]
    have : (2 * (a / 2 &&& b / 2) + a % 2 * (b % 2)) % 2 = a % 2 * (b % 2) := by omega
    rw [this]
    rcases Nat.mod_two_eq_zero_or_one a with h | h <;> rcases Nat.mod_two_eq_zero_or_one b with k | k <;> rw [h, k] <;> decide
  | succ i =>
    rw [Nat.testBit_and, Nat.testBit_succ, Nat.testBit_succ, Nat.testBit_succ]
    have : (2 * (a / 2 &&& b / 2) + a % 2 * (b % 2)) / 2 = a / 2 &&& b / 2 := by omega
    rw [this, Nat.testBit_and]

theorem and_compl (n : Nat) : ∀ y, y < 2 ^ n → y &&& (2 ^ n - 1 - y) = 0 := by
  induction n with
  | zero => intro y h; have : y = 0 := by simpa using h
            subst this; rfl
  | succ n ih =>
    intro y h
    rw [Nat.pow_succ] at h ⊢
    rw [and_split]
    have p := Nat.two_pow_pos n
    have e : (2 ^ n * 2 - 1 - y) / 2 = 2 ^ n - 1 - y / 2 := by omega
    have f : y % 2 * ((2 ^ n * 2 - 1 - y) % 2) = 0 := by
      rcases Nat.mod_two_eq_zero_or_one y with k | k
      · rw [k, Nat.zero_mul]
      · rw [k, Nat.one_mul]; omega
    rw [e, f, ih (y / 2) (by omega)]

/-- a number and its opposite have just the lowest bit -/
theorem low_bit (n : Nat) : ∀ x, 0 < x → x < 2 ^ n → x &&& (2 ^ n - x) = 2 ^ v2 x := by
  induction n with
  | zero => intro x h0 h; have : x = 0 := by simpa using h
            omega
  | succ n ih =>
    intro x h0 h
    rw [Nat.pow_succ] at h ⊢
    have p := Nat.two_pow_pos n
    rw [and_split]
    rcases Nat.mod_two_eq_zero_or_one x with k | k
    · have e : (2 ^ n * 2 - x) / 2 = 2 ^ n - x / 2 := by omega
      rw [e, k, Nat.zero_mul, ih (x / 2) (by omega) (by omega), v2_even h0 k, Nat.pow_succ]
      omega
    · have e : (2 ^ n * 2 - x) / 2 = 2 ^ n - 1 - x / 2 := by omega
      have f : (2 ^ n * 2 - x) % 2 = 1 := by omega
      rw [e, k, f, and_compl n (x / 2) (by omega), v2_odd (by omega)]

def tzT : List Int := [0, 1, 28, 2, 29, 14, 24, 3, 30, 22, 20, 15, 25, 17, 4, 8, 31, 27, 13, 23, 21, 19, 16, 7, 26, 12, 18, 6, 11, 5, 10, 9]
theorem tz_table : ∀ k : Nat, k < 32 → tzT.getD (2 ^ k * 125613361 % 4294967296 / 134217728) 0 = k := by decide +kernel

theorem v2_low {x r : Nat} (h : 0 < x) (hx : x < 4294967296) : v2 (x + 4294967296 * r) = v2 x := by
  suffices H : ∀ (j x r : Nat), 0 < x → x < 2 ^ j → v2 (x + 2 ^ j * r) = v2 x by
    exact H 32 x r h hx
  intro j
  induction j with
  | zero => intro x r h hx; rw [Nat.pow_zero] at hx; omega
  | succ j ih =>
    intro x r h hx
    rw [Nat.pow_succ] at hx ⊢
    have e : (x + 2 ^ j * 2 * r) % 2 = x % 2 := by rw [Nat.mul_right_comm, Nat.add_mul_mod_self_right]
    rcases Nat.mod_two_eq_zero_or_one x with k | k
    · have e2 : (x + 2 ^ j * 2 * r) / 2 = x / 2 + 2 ^ j * r := by rw [Nat.mul_right_comm, Nat.add_mul_div_right _ _ (by decide)]
      rw [v2_even (by omega) (by rw [e]; exact k), e2, ih (x / 2) r (by omega) (by omega), v2_even h k]
    · rw [v2_odd (by rw [e]; omega), v2_odd (by omega)]
theorem v2_shift {r : Nat} (h : 0 < r) (j : Nat) : v2 (2 ^ j * r) = j + v2 r := by
  induction j with
  | zero => simp
  | succ j ih =>
    have p := Nat.two_pow_pos j
    have q : 0 < 2 ^ j * r := Nat.mul_pos p h
    have e : 2 ^ (j + 1) * r = 2 * (2 ^ j * r) := by rw [Nat.pow_succ, Nat.mul_comm (2 ^ j) 2, Nat.mul_assoc]
    rw [e, v2_even (by omega) (by omega), show 2 * (2 ^ j * r) / 2 = 2 ^ j * r by omega, ih]; omega
end Go.Proofs.YtpadpcjdakfokaaGreatDoor.Ev

/- Contracts: where the lowest bit stands; how many noughts there are at the end of limbs. Printed by gen.py. -/
namespace Go.Proofs.YtpadpcjdakfokaaGreatDoor.Ev
open Go Go.Proofs
set_option linter.unusedVariables false
set_option linter.unusedSimpArgs false

attribute [local irreducible] Lb
theorem tz_low {x : Int} (h0 : 0 < x) (h1 : x < 4294967296) : intBinR .and .u32 x (intBinR .sub .u32 0 x) = ((2 ^ v2 x.toNat : Nat) : Int) := by
  obtain ⟨n, rfl⟩ := Int.eq_ofNat_of_zero_le (Int.le_of_lt h0)
  have e : intBinR .sub .u32 0 (n : Int) = ((4294967296 - n : Nat) : Int) := by
    show IntKind.u32.wrap (0 - (n : Int)) = _
    rw [wu32]; omega
  have lb := low_bit 32 n (by omega) (by omega)
  have l2 : v2 n < 32 := v2_lt (by omega) (by omega)
  have p2 : 2 ^ v2 n ≤ 2 ^ 31 := Nat.pow_le_pow_right (by decide) (by omega)
  show IntKind.u32.wrap ((BitVec.ofInt IntKind.u32.bits (n : Int) &&& BitVec.ofInt IntKind.u32.bits (intBinR .sub .u32 0 (n : Int))).toNat : Int) = _
  rw [e]
  have b1 : (BitVec.ofInt IntKind.u32.bits (n : Int)).toNat = n := by
    show (BitVec.ofInt 32 (n : Int)).toNat = n
    rw [BitVec.ofInt_natCast, BitVec.toNat_ofNat]; omega
  have b2 : (BitVec.ofInt IntKind.u32.bits ((4294967296 - n : Nat) : Int)).toNat = 4294967296 - n := by
    show (BitVec.ofInt 32 ((4294967296 - n : Nat) : Int)).toNat = _
    rw [BitVec.ofInt_natCast, BitVec.toNat_ofNat]; omega
  rw [BitVec.toNat_and, b1, b2, show (4294967296 : Nat) = 2 ^ 32 by rfl, lb, wu32, Int.toNat_natCast]
  omega
theorem tz_index {x : Int} (h0 : 0 < x) (h1 : x < 4294967296) (y : Int) (hy : y = intBinR .shr .u32 (intBinR .mul .u32 (intBinR .and .u32 x (intBinR .sub .u32 0 x)) 125613361) 27) :
    0 ≤ y ∧ y < 32 ∧ tzT.getD y.toNat 0 = v2 x.toNat ∧ v2 x.toNat < 32 := by
  have l2 : v2 x.toNat < 32 := v2_lt (by omega) (by omega)
  rw [tz_low h0 h1] at hy
  have e : intBinR .mul .u32 ((2 ^ v2 x.toNat : Nat) : Int) 125613361 = ((2 ^ v2 x.toNat * 125613361 % 4294967296 : Nat) : Int) := by
    show IntKind.u32.wrap (((2 ^ v2 x.toNat : Nat) : Int) * 125613361) = _
    rw [wu32]; omega
  have e2 : y = ((2 ^ v2 x.toNat * 125613361 % 4294967296 / 134217728 : Nat) : Int) := by
    rw [hy, e]
    show Int.fdiv _ (2 ^ (min (27 : Int).toNat 32)) = _
    rw [show (2 : Int) ^ (min (27 : Int).toNat 32) = 134217728 by decide, Int.fdiv_eq_ediv_of_nonneg _ (by decide)]
    omega
  rw [e2]
  have t := tz_table (v2 x.toNat) l2
  refine ⟨by omega, by omega, ?_, l2⟩
  rw [Int.toNat_natCast]; exact t
theorem c_TZ32 (x : Int) (h0 : 0 < x) (h1 : x < 4294967296) : ∃ t : Int, t = v2 x.toNat ∧ CallsA Tryz.prog 225 [.int .u32 (.s x)] (.int .i64 (.s t)) := by
  refine ⟨_, rfl, ?_⟩
  generalize hr : (v2 x.toNat : Int) = r
  have idx := tz_index h0 h1
  have fin : ∀ y, tzT.getD y 0 = v2 x.toNat → IntKind.i64.wrap (tzT.getD y 0) = r := by
    intro y hy
    have := (idx _ rfl).2.2.2
    rw [hy, wi64_id (by omega) (by omega), hr]
  refine callsA_of hG hm Tryz.func225 (by kernel_rfl) ?_
  intro E hE lp hl
  cbv
  refine E_br hE (fun g => ?_) (fun g => ?_) <;> cbv
  · exfalso
    subst hE
    have := eql_t g
    omega
  have ix := idx (E.bin .shr .u32 (E.bin .mul .u32 (E.bin .and .u32 x (E.bin .sub .u32 0 x)) 125613361) 27) (by subst hE; rfl)
  refine E_br hE (fun b1 => ?_) (fun b1 => ?_) <;> cbv
  · refine E_br hE (fun b2 => ?_) (fun b2 => ?_) <;> cbv
    · refine E_nm hE (fun v hv => ?_); cbv
      rw [hv]
      have f := fin _ ix.2.2.1
      subst hE
      exact f
    · exfalso
      subst hE
      exact lss_f b2 ix.2.1
  · exfalso
    subst hE
    exact leq_f b1 ix.1

/-- how many noughts there are at the end: of limbs of which so many are nought -/
theorem trail_step {m : List Int} (h : Lb m) {j : Nat} (hj : j < m.length) : (m.getD j 0 = 0 → lv (m.drop j) = 4294967296 * lv (m.drop (j + 1))) ∧
    (m.getD j 0 ≠ 0 → v2 (lv (m.drop j)) = v2 (m.getD j 0).toNat ∧ 0 < m.getD j 0) := by
  have e : m.drop j = m.getD j 0 :: m.drop (j + 1) := by
    rw [List.drop_eq_getElem_cons hj, List.getD, List.getElem?_eq_getElem hj]; rfl
  have g := h.getD j
  rw [e]
  constructor
  · intro z; simp only [lv]; rw [z]; simp
  · intro z
    simp only [lv]
    exact ⟨v2_low (by omega) (by omega), by omega⟩
theorem c_trailing (m : List Int) (hm_ : Lb m) (hl_ : m.length < 67108864) (h0 : 0 < lv m) : ∃ t : Int, t = v2 (lv m) ∧ CallsA Tryz.prog 189 [.sli .u32 m] (.int .i64 (.s t)) := by
  refine ⟨_, rfl, ?_⟩
  generalize hr : (v2 (lv m) : Int) = r
  obtain ⟨ms, em⟩ : ∃ ms : Int × Int → Nat, ∀ p, ms p = ((m.length : Int) - p.1).toNat := ⟨_, fun _ => rfl⟩
  obtain ⟨ok, eok⟩ : ∃ ok : Int × Int → Prop, ∀ p, ok p ↔ (0 ≤ p.1 ∧ p.1 ≤ m.length ∧ p.2 = 32 * p.1 ∧ 0 < lv (m.drop p.1.toNat) ∧ r = 32 * p.1 + v2 (lv (m.drop p.1.toNat))) := ⟨_, fun _ => Iff.rfl⟩
  have start : ok (0, 0) := (eok _).2 ⟨Int.le_refl _, Int.natCast_nonneg _, rfl, h0, by rw [← hr]; show _ = (32 : Int) * 0 + _; simp⟩
  have bnd : ∀ i n, ok (i, n) → 0 ≤ i ∧ i < m.length := by
    intro i n h
    obtain ⟨k1, k2, k3, k4, k5⟩ := (eok _).1 h
    dsimp only at k1 k2 k3 k4 k5
    refine ⟨k1, ?_⟩
    by_cases z : i.toNat < m.length
    · omega
    · rw [List.drop_eq_nil_of_le (by omega)] at k4; exact absurd k4 (Nat.lt_irrefl 0)
  have next : ∀ i n, ok (i, n) → m.getD i.toNat 0 = 0 → ms (IntKind.i64.wrap (i + 1), IntKind.i64.wrap (n + 32)) < ms (i, n) ∧ ok (IntKind.i64.wrap (i + 1), IntKind.i64.wrap (n + 32)) := by
    intro i n h z
    have b := bnd i n h
    obtain ⟨k1, k2, k3, k4, k5⟩ := (eok _).1 h
    dsimp only at k1 k2 k3 k4 k5
    have st := (trail_step hm_ (j := i.toNat) (by omega)).1 z
    rw [wi64_id (by omega) (by omega), wi64_id (by omega) (by omega)]
    have e : (i + 1).toNat = i.toNat + 1 := by omega
    refine ⟨by rw [em, em]; dsimp only; omega, (eok _).2 ⟨by dsimp only; omega, by dsimp only; omega, by dsimp only; omega, ?_, ?_⟩⟩
    · dsimp only; rw [e]; rw [st] at k4; omega
    · dsimp only
      rw [e]
      rw [st] at k4 k5
      have := v2_shift (r := lv (m.drop (i.toNat + 1))) (by omega) 32
      rw [show (2 : Nat) ^ 32 = 4294967296 by rfl] at this
      omega
  have stop : ∀ i n, ok (i, n) → m.getD i.toNat 0 ≠ 0 → 0 < m.getD i.toNat 0 ∧ m.getD i.toNat 0 < 4294967296 ∧ ∀ t : Int, t = v2 (m.getD i.toNat 0).toNat → IntKind.i64.wrap (n + t) = r := by
    intro i n h z
    have b := bnd i n h
    obtain ⟨k1, k2, k3, k4, k5⟩ := (eok _).1 h
    dsimp only at k1 k2 k3 k4 k5
    have st := (trail_step hm_ (j := i.toNat) (by omega)).2 z
    have g := hm_.getD i.toNat
    have l2 : v2 (m.getD i.toNat 0).toNat < 32 := v2_lt (by omega) (by omega)
    refine ⟨st.2, g.2, fun t ht => ?_⟩
    rw [st.1] at k5
    rw [wi64_id (by omega) (by omega)]; omega
  clear hr h0
  refine callsA_of hG hm Tryz.func189 (by kernel_rfl) ?_
  intro E hE lp hl
  cbv
  refine E_loop hE hG hm hl (fun p : Int × Int => (⟨[(3, .int .i64 (.s p.2)), (6, .sli .u32 m), (7, .int .i64 (.s (E.len m))), (8, .int .i64 (.s p.1))], []⟩ : St)) ms ok ⟨(0, 0), start, stLe rfl ?_⟩ ?_
  · (repeat' (first | exact t_nil | apply t_cons | exact u2_sli | exact u2_int | exact u2_bool | exact u2_ms | exact u2_ptr | exact (rfl : sle2 .s0 .s0)))
  rintro ⟨i, n⟩ hok
  have bd := bnd i n hok
  have nx := next i n hok
  have sp := stop i n hok
  clear bnd next stop start hok
  cbv
  refine E_br hE (fun g => ?_) (fun g => ?_) <;> cbv
  · refine E_br hE (fun b1 => ?_) (fun b1 => ?_) <;> cbv
    · refine E_br hE (fun b2 => ?_) (fun b2 => ?_) <;> cbv
      · refine E_nm hE (fun v hv => ?_); cbv
        have hv : v = m.getD i.toNat 0 := by subst hE; exact hv
        rw [← hv] at nx sp
        refine E_br hE (fun b3 => ?_) (fun b3 => ?_) <;> cbv
        · have z : v ≠ 0 := by subst hE; have q : decide (v ≠ 0) = true := (cmp_neq _ _).symm.trans b3; simpa using q
          have sp := sp z

          (first | (apply E_pcallX hE (c_TZ32 v sp.1 sp.2.1); (case hm => rfl); (case hle => (repeat' (first | exact u_nil | apply u_cons | apply u2_agg | exact u2_int | exact u1_int | exact u2_bool | exact u1_bool | exact u2_sli | exact u1_sli | exact u2_s0 | exact u1_s0))); all_goals (first | (intro t ht; cbv) | (assumption))) | (apply E_callX hE (c_TZ32 v sp.1 sp.2.1); (case hf => rfl); (case hc => (cbv <;> trivial)); (case hle => (repeat' (first | exact u_nil | apply u_cons | apply u2_agg | exact u2_int | exact u1_int | exact u2_bool | exact u1_bool | exact u2_sli | exact u1_sli | exact u2_s0 | exact u1_s0))); all_goals (first | (intro t ht; cbv) | (assumption))))
          refine E_nm hE (fun u hu => ?_); cbv
          rw [hu]
          have f := sp.2.2 t ht
          subst hE
          exact f
        · have z : v = 0 := by subst hE; have q : decide (v ≠ 0) = false := (cmp_neq _ _).symm.trans b3; simpa using q
          have nx := nx z
          refine E_nm hE (fun u hu => ?_); cbv
          have eu : u = IntKind.i64.wrap (n + 32) := by subst hE; exact hu
          refine ⟨(E.bin .add .i64 i 1, u), ?_, ?_, stLe rfl ?_⟩
          · rw [eu]; subst hE; exact nx.1
          · rw [eu]; subst hE; exact nx.2
          · (repeat' (first | exact t_nil | apply t_cons | exact u2_sli | exact u2_int | exact u2_bool | exact u2_ms | exact u2_ptr | exact (rfl : sle2 .s0 .s0)))
      · exfalso
        subst hE
        exact lss_f b2 bd.2
    · exfalso
      subst hE
      exact leq_f b1 bd.1
  · exfalso
    subst hE
    exact lss_f g bd.2

end Go.Proofs.YtpadpcjdakfokaaGreatDoor.Ev

/- What the contracts of intervals are told with. -/
namespace Go.Proofs.YtpadpcjdakfokaaGreatDoor.Ev
open Go Go.Proofs
set_option linter.unusedVariables false
set_option linter.unusedSimpArgs false
theorem Iv.fin {t r : Iv} (h : t = r) : t.empty = r.empty ∧ t.lo.kind = r.lo.kind ∧ t.lo.neg = r.lo.neg ∧ t.lo.m = r.lo.m ∧ t.lo.e = r.lo.e ∧ t.hi.kind = r.hi.kind ∧ t.hi.neg = r.hi.neg ∧ t.hi.m = r.hi.m ∧ t.hi.e = r.hi.e ∧ True := by
  subst h; exact ⟨rfl, rfl, rfl, rfl, rfl, rfl, rfl, rfl, rfl, trivial⟩
end Go.Proofs.YtpadpcjdakfokaaGreatDoor.Ev

/- Contracts: the opposite of an interval, how far from nought, the square. Printed by gen.py out of C11.spec. -/
namespace Go.Proofs.YtpadpcjdakfokaaGreatDoor.Ev
open Go Go.Proofs
set_option linter.unusedVariables false
set_option linter.unusedSimpArgs false

end Go.Proofs.YtpadpcjdakfokaaGreatDoor.Ev

/- Contracts of dy.Make and num.Exact. Printed by gen.py. -/
namespace Go.Proofs.YtpadpcjdakfokaaGreatDoor.Ev
open Go Go.Proofs
set_option linter.unusedVariables false
set_option linter.unusedSimpArgs false

attribute [local irreducible] Lb
theorem c_within (e : Int) : ∃ t : Bool, t = (decide (-4194304 ≤ e) && decide (e ≤ 4194304)) ∧ CallsA Tryz.prog 188 [.int .i64 (.s e)] (.bool (.s t)) := by
  refine ⟨_, rfl, ?_⟩
  generalize hr : (decide (-4194304 ≤ e) && decide (e ≤ 4194304)) = r
  have z1 : -4194304 ≤ e → decide (e ≤ 4194304) = r := by intro h; rw [← hr, decide_eq_true h]; rfl
  have z2 : ¬ -4194304 ≤ e → false = r := by intro h; rw [← hr, decide_eq_false h]; rfl
  clear hr
  refine callsA_of hG hm Tryz.func188 (by kernel_rfl) ?_
  intro E hE lp hl
  cbv
  refine E_br hE (fun g => ?_) (fun g => ?_) <;> cbv
  · subst hE
    exact (cmp_leq _ _).trans (z1 (geq_t g))
  · subst hE
    exact z2 (geq_f g)
set_option maxHeartbeats 1000000 in
theorem c_dyMake (neg : Bool) (m : List Int) (e : Int) (hm_ : Lb m) (hl_ : m.length < 67108864) (he0 : -9223372036854775808 ≤ e) (he1 : e < 9223372036854775808) :
    ∃ t : Bool × List Int × Int, t = dyL (dyMake neg (lv m) e) ∧ CallsA Tryz.prog 128 [.agg [.bool (.s neg), .sli .u32 m], .int .i64 (.s e)] (.agg [.bool (.s t.1), .sli .u32 t.2.1, .int .i64 (.s t.2.2)]) := by
  refine ⟨_, rfl, ?_⟩
  generalize hr : dyL (dyMake neg (lv m) e) = r
  have vb : 0 < lv m → v2 (lv m) < 32 * 67108864 := by
    intro h
    have l := lv_lt hm_
    rw [show (4294967296 : Nat) = 2 ^ 32 by rfl, ← Nat.pow_mul] at l
    have := v2_lt h l
    omega
  have bad0 : (lv m = 0 ∨ ¬ (-4194304 ≤ e ∧ e ≤ 4194304)) → (false, [], 0) = r := by
    intro h; rw [← hr]; unfold dyMake; rw [if_pos (by omega)]; rfl
  have bad1 : lv m ≠ 0 → (-4194304 ≤ e ∧ e ≤ 4194304) → 4194304 < e + v2 (lv m) → (false, [], 0) = r := by
    intro h g k; rw [← hr]; unfold dyMake; rw [if_neg (by omega), if_pos k]; rfl
  have good : lv m ≠ 0 → (-4194304 ≤ e ∧ e ≤ 4194304) → ¬ 4194304 < e + v2 (lv m) → (neg, lim (lv m / 2 ^ v2 (lv m)), e + v2 (lv m)) = r ∧ lv m / 2 ^ v2 (lv m) ≠ 0 := by
    intro h g k
    refine ⟨by rw [← hr]; unfold dyMake; rw [if_neg (by omega), if_neg k]; rfl, ?_⟩
    have := (v2_spec (lv m) (by omega)).2.1
    intro z; rw [z] at this; cases this
  have ls : ∀ x, x = lim (lv m / 2 ^ ((v2 (lv m) : Int)).toNat) → Lb x ∧ x.length ≤ 268435456 := by
    intro x hx
    rw [hx]
    refine ⟨lim_lb _, ?_⟩
    have l := lv_lt hm_
    have d : lv m / 2 ^ ((v2 (lv m) : Int)).toNat ≤ lv m := Nat.div_le_self _ _
    have := lim_length_le (n := lv m / 2 ^ ((v2 (lv m) : Int)).toNat) (k := m.length) (by omega)
    omega
  clear hr
  obtain ⟨V, hV⟩ : ∃ V : Int, V = v2 (lv m) := ⟨_, rfl⟩
  have hVn : V.toNat = v2 (lv m) := by omega
  have vb : 0 < lv m → 0 ≤ V ∧ V < 32 * 67108864 := fun h => by have := vb h; omega
  rw [← hV] at bad1 good ls
  refine callsA_of hG hm Tryz.func128 (by kernel_rfl) ?_
  intro E hE lp hl
  cbv
  (first | (apply E_pcallX hE (c_wSign neg m hm_ hl_); (case hm => rfl); (case hle => (repeat' (first | exact u_nil | apply u_cons | apply u2_agg | exact u2_int | exact u1_int | exact u2_bool | exact u1_bool | exact u2_sli | exact u1_sli | exact u2_s0 | exact u1_s0))); all_goals (first | (intro s hs; cbv) | (assumption))) | (apply E_callX hE (c_wSign neg m hm_ hl_); (case hf => rfl); (case hc => (cbv <;> trivial)); (case hle => (repeat' (first | exact u_nil | apply u_cons | apply u2_agg | exact u2_int | exact u1_int | exact u2_bool | exact u1_bool | exact u2_sli | exact u1_sli | exact u2_s0 | exact u1_s0))); all_goals (first | (intro s hs; cbv) | (assumption))))
  refine E_br hE (fun g => ?_) (fun g => ?_) <;> cbv
  · have z : lv m = 0 := by
      have g : s = 0 := by subst hE; exact eql_t g
      rw [hs] at g
      by_cases h : lv m = 0
      · exact h
      · rw [if_neg h] at g; split at g <;> cases g
    rw [← bad0 (.inl z)]; exact ⟨rfl, rfl, rfl, trivial⟩
  have n0 : lv m ≠ 0 := by
    have g : ¬ s = 0 := by subst hE; exact eql_f g
    intro z; apply g; rw [hs, if_pos z]
  (first | (apply E_pcallX hE (c_within e); (case hm => rfl); (case hle => (repeat' (first | exact u_nil | apply u_cons | apply u2_agg | exact u2_int | exact u1_int | exact u2_bool | exact u1_bool | exact u2_sli | exact u1_sli | exact u2_s0 | exact u1_s0))); all_goals (first | (intro w hw; cbv) | (assumption))) | (apply E_callX hE (c_within e); (case hf => rfl); (case hc => (cbv <;> trivial)); (case hle => (repeat' (first | exact u_nil | apply u_cons | apply u2_agg | exact u2_int | exact u1_int | exact u2_bool | exact u1_bool | exact u2_sli | exact u1_sli | exact u2_s0 | exact u1_s0))); all_goals (first | (intro w hw; cbv) | (assumption))))
  refine E_br hE (fun g2 => ?_) (fun g2 => ?_) <;> cbv
  · have z : ¬ (-4194304 ≤ e ∧ e ≤ 4194304) := by
      have g2 : w = false := by subst hE; cases w; rfl; exact absurd g2 (by decide)
      rw [hw] at g2
      simp only [Bool.and_eq_false_iff, decide_eq_false_iff_not] at g2
      omega
    rw [← bad0 (.inr z)]; exact ⟨rfl, rfl, rfl, trivial⟩
  have r0 : -4194304 ≤ e ∧ e ≤ 4194304 := by
    have g2 : w = true := by subst hE; cases w; exact absurd g2 (by decide); rfl
    rw [hw] at g2
    simp only [Bool.and_eq_true, decide_eq_true_eq] at g2
    exact g2
  have vb := vb (by omega)
  (first | (apply E_pcallX hE (c_trailing m hm_ hl_ ?_); (case hm => rfl); (case hle => (repeat' (first | exact u_nil | apply u_cons | apply u2_agg | exact u2_int | exact u1_int | exact u2_bool | exact u1_bool | exact u2_sli | exact u1_sli | exact u2_s0 | exact u1_s0))); all_goals (first | (intro b hb; cbv) | (omega))) | (apply E_callX hE (c_trailing m hm_ hl_ ?_); (case hf => rfl); (case hc => (cbv <;> trivial)); (case hle => (repeat' (first | exact u_nil | apply u_cons | apply u2_agg | exact u2_int | exact u1_int | exact u2_bool | exact u1_bool | exact u2_sli | exact u1_sli | exact u2_s0 | exact u1_s0))); all_goals (first | (intro b hb; cbv) | (omega))))
  (try (refine E_nm hE (fun v hv => ?_); cbv))
  have ev : v = V := hv.trans (hb.trans hV.symm)
  have ea : E.bin .add .i64 e v = e + V := by
    rw [ev]; subst hE
    show IntKind.i64.wrap (e + V) = _
    exact wi64_in (by omega) (by omega)
  (first | (apply E_pcallX hE (c_within _); (case hm => rfl); (case hle => (repeat' (first | exact u_nil | apply u_cons | apply u2_agg | exact u2_int | exact u1_int | exact u2_bool | exact u1_bool | exact u2_sli | exact u1_sli | exact u2_s0 | exact u1_s0))); all_goals (first | (intro w2 hw2; cbv) | (assumption))) | (apply E_callX hE (c_within _); (case hf => rfl); (case hc => (cbv <;> trivial)); (case hle => (repeat' (first | exact u_nil | apply u_cons | apply u2_agg | exact u2_int | exact u1_int | exact u2_bool | exact u1_bool | exact u2_sli | exact u1_sli | exact u2_s0 | exact u1_s0))); all_goals (first | (intro w2 hw2; cbv) | (assumption))))
  have hw2 : w2 = (decide (-4194304 ≤ e + V) && decide (e + V ≤ 4194304)) := by rw [← ea]; exact hw2
  refine E_br hE (fun g3 => ?_) (fun g3 => ?_) <;> cbv
  · have z : 4194304 < e + V := by
      have g3 : w2 = false := by subst hE; cases w2; rfl; exact absurd g3 (by decide)
      rw [hw2] at g3
      simp only [Bool.and_eq_false_iff, decide_eq_false_iff_not] at g3
      omega
    rw [← bad1 n0 r0 z]; exact ⟨rfl, rfl, rfl, trivial⟩
  have z : ¬ 4194304 < e + V := by
    have g3 : w2 = true := by subst hE; cases w2; exact absurd g3 (by decide); rfl
    rw [hw2] at g3
    simp only [Bool.and_eq_true, decide_eq_true_eq] at g3
    omega
  obtain ⟨gd, gn⟩ := good n0 r0 z
  (first | (apply E_pcallX hE (c_natShr m v hm_ hl_); (case hm => rfl); (case hle => (repeat' (first | exact u_nil | apply u_cons | apply u2_agg | exact u2_int | exact u1_int | exact u2_bool | exact u1_bool | exact u2_sli | exact u1_sli | exact u2_s0 | exact u1_s0))); all_goals (first | (intro x hx; cbv) | (assumption))) | (apply E_callX hE (c_natShr m v hm_ hl_); (case hf => rfl); (case hc => (cbv <;> trivial)); (case hle => (repeat' (first | exact u_nil | apply u_cons | apply u2_agg | exact u2_int | exact u1_int | exact u2_bool | exact u1_bool | exact u2_sli | exact u1_sli | exact u2_s0 | exact u1_s0))); all_goals (first | (intro x hx; cbv) | (assumption))))
  have hx : x = lim (lv m / 2 ^ v.toNat) := hx
  rw [ev] at hx
  have xb := ls x hx
  (first | (apply E_pcallX hE (c_wMake neg x xb.1 xb.2); (case hm => rfl); (case hle => (repeat' (first | exact u_nil | apply u_cons | apply u2_agg | exact u2_int | exact u1_int | exact u2_bool | exact u1_bool | exact u2_sli | exact u1_sli | exact u2_s0 | exact u1_s0))); all_goals (first | (intro y hy; cbv) | (assumption))) | (apply E_callX hE (c_wMake neg x xb.1 xb.2); (case hf => rfl); (case hc => (cbv <;> trivial)); (case hle => (repeat' (first | exact u_nil | apply u_cons | apply u2_agg | exact u2_int | exact u1_int | exact u2_bool | exact u1_bool | exact u2_sli | exact u1_sli | exact u2_s0 | exact u1_s0))); all_goals (first | (intro y hy; cbv) | (assumption))))
  rw [hVn] at hx
  have hy : y = (neg, lim (lv m / 2 ^ v2 (lv m))) := by
    have k : y = (neg && decide (lv x ≠ 0), lim (lv x)) := hy
    rw [k, hx, lv_lim, decide_eq_true gn, Bool.and_true]
  rw [← gd]
  exact ⟨by rw [hy], by rw [hy], ea, trivial⟩

theorem lim2 {m : Int} (h0 : 0 ≤ m) (h1 : m < 18446744073709551616) : Lb [m % 4294967296, m / 4294967296] ∧ lv [m % 4294967296, m / 4294967296] = m.toNat := ⟨rlimbs_lb h0 h1, rlimbs_lv h0⟩
set_option maxHeartbeats 1000000 in
theorem c_Exact (n : Num) (ho : n.ok) : ∃ t : (Bool × List Int × Int) × Bool, t = (dyL n.exact.1, n.exact.2) ∧ CallsA Tryz.prog 52 [n.av] (.tup [.agg [.bool (.s t.1.1), .sli .u32 t.1.2.1, .int .i64 (.s t.1.2.2)], .bool (.s t.2)]) := by
  refine ⟨_, rfl, ?_⟩
  generalize hr : (dyL n.exact.1, n.exact.2) = r
  have bad : (n.may = false ∨ n.kind = 2) → ((false, [], 0), false) = r := by intro h; rw [← hr]; unfold Num.exact; rw [if_pos h]; rfl
  have fin : ¬ (n.may = false ∨ n.kind = 2) → -1048576 ≤ n.e ∧ n.e ≤ 1048576 ∧ ∀ x : Bool × List Int, x = (n.neg && decide (n.m.toNat ≠ 0), lim n.m.toNat) → ∀ t, t = dyL (dyMake x.1 (lv x.2) n.e) → (t, true) = r := by
    intro h
    have mm : n.may = true := by cases q : n.may; exact absurd (.inl q) h; rfl
    rcases Num.may3 mm ho with k | k | k
    · rw [k]
      refine ⟨by decide, by decide, fun x hx t ht => ?_⟩
      rw [ht, hx, ← hr, k]; rfl
    · refine ⟨k.elo, k.ehi, fun x hx t ht => ?_⟩
      have lo := k.lo
      rw [ht, hx, ← hr]
      unfold Num.exact
      rw [if_neg h, if_neg (by rw [k.kind]; decide), decide_eq_true (by omega), Bool.and_true, lv_lim]
    · exfalso; apply h; right; rw [k]; rfl
  have L := lim2 ho.1 ho.2
  have shr : intBinR .shr .u64 n.m 32 = n.m / 4294967296 := by
    show Int.fdiv n.m (2 ^ (min (32 : Int).toNat 64)) = _
    rw [show (2 : Int) ^ (min (32 : Int).toNat 64) = 4294967296 by decide, Int.fdiv_eq_ediv_of_nonneg _ (by decide)]
  have c1 : IntKind.u32.wrap n.m = n.m % 4294967296 := wu32 _
  have c2 : IntKind.u32.wrap (n.m / 4294967296) = n.m / 4294967296 := by rw [wu32]; have := ho.1; have := ho.2; omega
  clear hr
  refine callsA_of hG hm Tryz.func52 (by kernel_rfl) ?_
  intro E hE lp hl
  cbv
  (first | (apply E_pcallX hE (c_May ⟨_, _, _, _⟩); (case hm => rfl); (case hle => (repeat' (first | exact u_nil | apply u_cons | apply u2_agg | exact u2_int | exact u1_int | exact u2_bool | exact u1_bool | exact u2_sli | exact u1_sli | exact u2_s0 | exact u1_s0))); all_goals (first | (intro o ho_; cbv) | (assumption))) | (apply E_callX hE (c_May ⟨_, _, _, _⟩); (case hf => rfl); (case hc => (cbv <;> trivial)); (case hle => (repeat' (first | exact u_nil | apply u_cons | apply u2_agg | exact u2_int | exact u1_int | exact u2_bool | exact u1_bool | exact u2_sli | exact u1_sli | exact u2_s0 | exact u1_s0))); all_goals (first | (intro o ho_; cbv) | (assumption))))
  have ho_ : o = n.may := ho_
  refine E_br hE (fun g1 => ?_) (fun g1 => ?_) <;> cbv
  · rw [← bad (.inl (by rw [← ho_]; subst hE; cases o; rfl; exact absurd g1 (by decide)))]; exact ⟨⟨rfl, rfl, rfl, trivial⟩, rfl, trivial⟩
  have m1 : n.may = true := by rw [← ho_]; subst hE; cases o; exact absurd g1 (by decide); rfl
  refine E_br hE (fun g2 => ?_) (fun g2 => ?_) <;> cbv
  · rw [← bad (.inr (by subst hE; exact eql_t g2))]; exact ⟨⟨rfl, rfl, rfl, trivial⟩, rfl, trivial⟩
  have m2 : ¬ (n.may = false ∨ n.kind = 2) := by
    rintro (z | z)
    · rw [m1] at z; cases z
    · subst hE; exact eql_f g2 z
  obtain ⟨e0, e1, fin⟩ := fin m2
  have el : [E.conv .u32 n.m, E.conv .u32 (E.bin .shr .u64 n.m 32)] = [n.m % 4294967296, n.m / 4294967296] := by
    subst hE
    show [IntKind.u32.wrap n.m, IntKind.u32.wrap (intBinR .shr .u64 n.m 32)] = _
    rw [shr, c1, c2]
  (first | (apply E_pcallX hE (c_wMake n.neg [E.conv .u32 n.m, E.conv .u32 (E.bin .shr .u64 n.m 32)] ?_ ?_); (case hm => rfl); (case hle => (repeat' (first | exact u_nil | apply u_cons | apply u2_agg | exact u2_int | exact u1_int | exact u2_bool | exact u1_bool | exact u2_sli | exact u1_sli | exact u2_s0 | exact u1_s0))); all_goals (first | (intro x hx; cbv) | (first | (rw [el]; exact L.1) | (rw [el]; show 2 ≤ 268435456; decide)))) | (apply E_callX hE (c_wMake n.neg [E.conv .u32 n.m, E.conv .u32 (E.bin .shr .u64 n.m 32)] ?_ ?_); (case hf => rfl); (case hc => (cbv <;> trivial)); (case hle => (repeat' (first | exact u_nil | apply u_cons | apply u2_agg | exact u2_int | exact u1_int | exact u2_bool | exact u1_bool | exact u2_sli | exact u1_sli | exact u2_s0 | exact u1_s0))); all_goals (first | (intro x hx; cbv) | (first | (rw [el]; exact L.1) | (rw [el]; show 2 ≤ 268435456; decide)))))
  have hx : x = (n.neg && decide (n.m.toNat ≠ 0), lim n.m.toNat) := by
    have k : x = (n.neg && decide (lv [E.conv .u32 n.m, E.conv .u32 (E.bin .shr .u64 n.m 32)] ≠ 0), lim (lv [E.conv .u32 n.m, E.conv .u32 (E.bin .shr .u64 n.m 32)])) := hx
    rw [el, L.2] at k; exact k
  have xb : Lb x.2 ∧ x.2.length < 67108864 := by
    rw [hx]
    refine ⟨lim_lb _, ?_⟩
    have := lim_length_le' L.1
    rw [L.2] at this
    exact Nat.lt_of_le_of_lt this (show 2 < 67108864 by decide)
  (first | (apply E_pcallX hE (c_dyMake x.1 x.2 n.e xb.1 xb.2 ?_ ?_); (case hm => rfl); (case hle => (repeat' (first | exact u_nil | apply u_cons | apply u2_agg | exact u2_int | exact u1_int | exact u2_bool | exact u1_bool | exact u2_sli | exact u1_sli | exact u2_s0 | exact u1_s0))); all_goals (first | (intro t ht; cbv) | (first | exact Int.le_trans (by decide) e0 | exact Int.lt_of_le_of_lt e1 (by decide)))) | (apply E_callX hE (c_dyMake x.1 x.2 n.e xb.1 xb.2 ?_ ?_); (case hf => rfl); (case hc => (cbv <;> trivial)); (case hle => (repeat' (first | exact u_nil | apply u_cons | apply u2_agg | exact u2_int | exact u1_int | exact u2_bool | exact u1_bool | exact u2_sli | exact u1_sli | exact u2_s0 | exact u1_s0))); all_goals (first | (intro t ht; cbv) | (first | exact Int.le_trans (by decide) e0 | exact Int.lt_of_le_of_lt e1 (by decide)))))
  rw [← fin x hx t ht]
  exact ⟨⟨rfl, rfl, rfl, trivial⟩, rfl, trivial⟩

end Go.Proofs.YtpadpcjdakfokaaGreatDoor.Ev

/- Contract of whole.May. Printed by gen.py. -/
namespace Go.Proofs.YtpadpcjdakfokaaGreatDoor.Ev
open Go Go.Proofs
set_option linter.unusedVariables false
set_option linter.unusedSimpArgs false

attribute [local irreducible] Lb
def wMayB (neg : Bool) (m : List Int) : Bool := if m.length = 0 then !neg else decide (m.getD (m.length - 1) 0 ≠ 0)
theorem c_wMay (neg : Bool) (m : List Int) (hl_ : m.length < 4611686018427387904) : ∃ t : Bool, t = wMayB neg m ∧ CallsA Tryz.prog 226 [.agg [.bool (.s neg), .sli .u32 m]] (.bool (.s t)) := by
  refine ⟨_, rfl, ?_⟩
  generalize hr : wMayB neg m = r
  have z0 : (m.length : Int) = 0 → (!neg) = r := by intro h; rw [← hr]; unfold wMayB; rw [if_pos (by omega)]
  have z1 : ¬ (m.length : Int) = 0 → IntKind.i64.wrap ((m.length : Int) - 1) = (m.length : Int) - 1 ∧ 0 ≤ (m.length : Int) - 1 ∧ (m.length : Int) - 1 < m.length ∧ ∀ x : Bool, x = decide (m.getD ((m.length : Int) - 1).toNat 0 ≠ 0) → x = r := by
    intro h
    refine ⟨wi64_in (by omega) (by omega), by omega, by omega, fun x hx => ?_⟩
    rw [hx, ← hr]; unfold wMayB; rw [if_neg (by omega), show ((m.length : Int) - 1).toNat = m.length - 1 by omega]
  clear hr
  refine callsA_of hG hm Tryz.func226 (by kernel_rfl) ?_
  intro E hE lp hl
  cbv
  refine E_br hE (fun g => ?_) (fun g => ?_) <;> cbv
  · subst hE; exact z0 (eql_t g)
  · have z1 := z1 (by subst hE; exact eql_f g)
    have es : E.bin .sub .i64 (E.len m) 1 = (m.length : Int) - 1 := by subst hE; exact z1.1
    refine E_br hE (fun b1 => ?_) (fun b1 => ?_) <;> cbv
    · refine E_br hE (fun b2 => ?_) (fun b2 => ?_) <;> cbv
      · refine z1.2.2.2 _ ?_
        show E.cmp .neq (E.get m (E.bin .sub .i64 (E.len m) 1)) 0 = _
        rw [es]
        subst hE
        exact cmp_neq _ _
      · rw [es] at b2
        subst hE
        exact lss_f b2 z1.2.2.1
    · rw [es] at b1
      subst hE
      exact leq_f b1 z1.2.1

end Go.Proofs.YtpadpcjdakfokaaGreatDoor.Ev

/- Contracts of dy.May, fair, Move, Floor: of dyadic numbers as they may be. Printed by gen.py. -/
namespace Go.Proofs.YtpadpcjdakfokaaGreatDoor.Ev
open Go Go.Proofs
set_option linter.unusedVariables false
set_option linter.unusedSimpArgs false

attribute [local irreducible] Lb
/-- a dyadic number, as it may be -/
def DyC (p : Bool × Nat × Int) : Prop := p = (false, 0, 0) ∨ (p.2.1 % 2 = 1 ∧ -4194304 ≤ p.2.2 ∧ p.2.2 ≤ 4194304)
theorem dyMake_c (neg : Bool) (k : Nat) (e : Int) : DyC (dyMake neg k e) := by
  unfold dyMake
  split
  · exact .inl rfl
  · rename_i h
    split
    · exact .inl rfl
    · refine .inr ⟨(v2_spec k (by omega)).2.1, by dsimp only; omega, by dsimp only; omega⟩
theorem and_one {x : Int} (h0 : 0 ≤ x) (h1 : x < 4294967296) : intBinR .and .u32 x 1 = x % 2 := by
  obtain ⟨n, rfl⟩ := Int.eq_ofNat_of_zero_le h0
  show IntKind.u32.wrap ((BitVec.ofInt IntKind.u32.bits (n : Int) &&& BitVec.ofInt IntKind.u32.bits 1).toNat : Int) = _
  have b1 : (BitVec.ofInt IntKind.u32.bits (n : Int)).toNat = n := by
    show (BitVec.ofInt 32 (n : Int)).toNat = n
    rw [BitVec.ofInt_natCast, BitVec.toNat_ofNat]; omega
  have b2 : (BitVec.ofInt IntKind.u32.bits 1).toNat = 1 := by decide
  rw [BitVec.toNat_and, b1, b2, Nat.and_one_is_mod, wu32]
  omega
theorem lim_top {k : Nat} (h : k ≠ 0) : (lim k).length ≠ 0 ∧ (lim k).getD ((lim k).length - 1) 0 ≠ 0 := by
  have ne : lim k ≠ [] := fun z => h (lim_eq_nil.1 z)
  exact ⟨fun z => ne (List.length_eq_zero_iff.1 z), (lim_cn k).last ne⟩
theorem lim_low {k : Nat} (h : k % 2 = 1) : (lim k).getD 0 0 % 2 = 1 ∧ 0 < (lim k).length := by
  have n0 : k ≠ 0 := by intro z; rw [z] at h; cases h
  have L := lim_lb k
  have V := lv_lim k
  have N := (lim_top n0).1
  match hq : lim k, L, V, N with
  | [], _, _, N => exact absurd rfl N
  | y :: r, L, V, _ =>
    have hy := L.head
    simp only [lv] at V
    refine ⟨?_, Nat.zero_lt_succ _⟩
    show y % 2 = 1
    omega
theorem c_dyMayT (p : Bool × Nat × Int) (hp : DyC p) (x : Bool × List Int × Int) (hx : x = dyL p) (hl_ : x.2.1.length < 4611686018427387904) : ∃ t : Bool, t = true ∧ CallsA Tryz.prog 190 [.agg [.bool (.s x.1), .sli .u32 x.2.1, .int .i64 (.s x.2.2)]] (.bool (.s t)) := by
  refine ⟨_, rfl, ?_⟩
  have z0 : (x.2.1.length : Int) = 0 → x.1 = false ∧ x.2.2 = 0 := by
    intro h
    rcases hp with hp | hp
    · rw [hx, hp]; exact ⟨rfl, rfl⟩
    · exfalso
      have := (lim_low hp.1).2
      rw [hx] at h
      have h : ((lim p.2.1).length : Int) = 0 := h
      omega
  have z1 : ¬ (x.2.1.length : Int) = 0 → wMayB x.1 x.2.1 = true ∧ x.2.1.getD 0 0 % 2 = 1 ∧ 0 ≤ x.2.1.getD 0 0 ∧ x.2.1.getD 0 0 < 4294967296 ∧ (0 : Int) < x.2.1.length ∧ -4194304 ≤ x.2.2 ∧ x.2.2 ≤ 4194304 := by
    intro h
    rcases hp with hp | hp
    · exfalso; apply h; rw [hx, hp]; rfl
    · have n0 : p.2.1 ≠ 0 := by intro z; rw [z] at hp; cases hp.1
      have l1 := lim_top n0
      have l2 := lim_low hp.1
      have l3 := (lim_lb p.2.1).getD 0
      have e : x.2.1 = lim p.2.1 := by rw [hx]; rfl
      have e2 : x.2.2 = p.2.2 := by rw [hx]; rfl
      rw [e, e2]
      refine ⟨?_, l2.1, l3.1, l3.2, by omega, hp.2.1, hp.2.2⟩
      unfold wMayB
      rw [if_neg l1.1, decide_eq_true l1.2]
  refine callsA_of hG hm Tryz.func190 (by kernel_rfl) ?_
  intro E hE lp hl
  cbv
  refine E_br hE (fun g => ?_) (fun g => ?_) <;> cbv
  · have z := z0 (by subst hE; exact eql_t g)
    have b : E.bnot x.1 = true := by rw [z.1]; subst hE; rfl
    refine E_br_t hE b ?_; cbv
    show E.cmp .eql x.2.2 0 = true
    rw [z.2]; subst hE; rfl
  have z := z1 (by subst hE; exact eql_f g)
  (first | (apply E_pcallX hE (c_wMay x.1 x.2.1 hl_); (case hm => rfl); (case hle => (repeat' (first | exact u_nil | apply u_cons | apply u2_agg | exact u2_int | exact u1_int | exact u2_bool | exact u1_bool | exact u2_sli | exact u1_sli | exact u2_s0 | exact u1_s0))); all_goals (first | (intro w hw; cbv) | (assumption))) | (apply E_callX hE (c_wMay x.1 x.2.1 hl_); (case hf => rfl); (case hc => (cbv <;> trivial)); (case hle => (repeat' (first | exact u_nil | apply u_cons | apply u2_agg | exact u2_int | exact u1_int | exact u2_bool | exact u1_bool | exact u2_sli | exact u1_sli | exact u2_s0 | exact u1_s0))); all_goals (first | (intro w hw; cbv) | (assumption))))
  have w1 : w = true := hw.trans z.1
  refine E_br_t hE w1 ?_; cbv
  refine E_br hE (fun b2 => ?_) (fun b2 => ?_) <;> cbv
  · have e : E.cmp .eql (E.bin .and .u32 (E.get x.2.1 0) 1) 1 = true := by
      subst hE
      show decide (intBinR .and .u32 (x.2.1.getD 0 0) 1 = 1) = true
      rw [and_one z.2.2.1 z.2.2.2.1, z.2.1]; rfl
    refine E_br_t hE e ?_; cbv
    (first | (apply E_pcallX hE (c_within _); (case hm => rfl); (case hle => (repeat' (first | exact u_nil | apply u_cons | apply u2_agg | exact u2_int | exact u1_int | exact u2_bool | exact u1_bool | exact u2_sli | exact u1_sli | exact u2_s0 | exact u1_s0))); all_goals (first | (intro v hv; cbv) | (assumption))) | (apply E_callX hE (c_within _); (case hf => rfl); (case hc => (cbv <;> trivial)); (case hle => (repeat' (first | exact u_nil | apply u_cons | apply u2_agg | exact u2_int | exact u1_int | exact u2_bool | exact u1_bool | exact u2_sli | exact u1_sli | exact u2_s0 | exact u1_s0))); all_goals (first | (intro v hv; cbv) | (assumption))))
    rw [hv]
    show (decide (-4194304 ≤ x.2.2) && decide (x.2.2 ≤ 4194304)) = true
    rw [decide_eq_true z.2.2.2.2.2.1, decide_eq_true z.2.2.2.2.2.2]; rfl
  · exfalso
    subst hE
    exact lss_f b2 z.2.2.2.2.1
theorem c_dyFair (p : Bool × Nat × Int) (hp : DyC p) (x : Bool × List Int × Int) (hx : x = dyL p) (hl_ : x.2.1.length < 4611686018427387904) : ∃ t : Bool × List Int × Int, t = x ∧ CallsA Tryz.prog 129 [.agg [.bool (.s x.1), .sli .u32 x.2.1, .int .i64 (.s x.2.2)]] (.agg [.bool (.s t.1), .sli .u32 t.2.1, .int .i64 (.s t.2.2)]) := by
  refine ⟨_, rfl, ?_⟩
  refine callsA_of hG hm Tryz.func129 (by kernel_rfl) ?_
  intro E hE lp hl
  cbv
  (first | (apply E_pcallX hE (c_dyMayT p hp x hx hl_); (case hm => rfl); (case hle => (repeat' (first | exact u_nil | apply u_cons | apply u2_agg | exact u2_int | exact u1_int | exact u2_bool | exact u1_bool | exact u2_sli | exact u1_sli | exact u2_s0 | exact u1_s0))); all_goals (first | (intro w hw; cbv) | (assumption))) | (apply E_callX hE (c_dyMayT p hp x hx hl_); (case hf => rfl); (case hc => (cbv <;> trivial)); (case hle => (repeat' (first | exact u_nil | apply u_cons | apply u2_agg | exact u2_int | exact u1_int | exact u2_bool | exact u1_bool | exact u2_sli | exact u1_sli | exact u2_s0 | exact u1_s0))); all_goals (first | (intro w hw; cbv) | (assumption))))
  refine E_br_t hE hw ?_; cbv
theorem c_dyMove (p : Bool × Nat × Int) (hp : DyC p) (x : Bool × List Int × Int) (hx : x = dyL p) (hl_ : x.2.1.length < 67108864) (n : Int) (hn : -16777216 ≤ n) (hn2 : n ≤ 16777216) :
    ∃ t : Bool × List Int × Int, t = dyL (dyMake p.1 p.2.1 (p.2.2 + n)) ∧ CallsA Tryz.prog 55 [.agg [.bool (.s x.1), .sli .u32 x.2.1, .int .i64 (.s x.2.2)], .int .i64 (.s n)] (.agg [.bool (.s t.1), .sli .u32 t.2.1, .int .i64 (.s t.2.2)]) := by
  refine ⟨_, rfl, ?_⟩
  generalize hr : dyL (dyMake p.1 p.2.1 (p.2.2 + n)) = r
  have hl2 : x.2.1.length < 4611686018427387904 := by omega
  have rng : -4194304 ≤ p.2.2 ∧ p.2.2 ≤ 4194304 := by
    rcases hp with hp | hp
    · rw [hp]; exact ⟨by decide, by decide⟩
    · exact hp.2
  have hx1 : x.1 = p.1 := by rw [hx]; rfl
  have hx2 : x.2.1 = lim p.2.1 := by rw [hx]; rfl
  have hx3 : x.2.2 = p.2.2 := by rw [hx]; rfl
  have xb : Lb x.2.1 := by rw [hx2]; exact lim_lb _
  refine callsA_of hG hm Tryz.func55 (by kernel_rfl) ?_
  intro E hE lp hl
  cbv
  (first | (apply E_pcallX hE (c_dyFair p hp x hx hl2); (case hm => rfl); (case hle => (repeat' (first | exact u_nil | apply u_cons | apply u2_agg | exact u2_int | exact u1_int | exact u2_bool | exact u1_bool | exact u2_sli | exact u1_sli | exact u2_s0 | exact u1_s0))); all_goals (first | (intro y hy; cbv) | (assumption))) | (apply E_callX hE (c_dyFair p hp x hx hl2); (case hf => rfl); (case hc => (cbv <;> trivial)); (case hle => (repeat' (first | exact u_nil | apply u_cons | apply u2_agg | exact u2_int | exact u1_int | exact u2_bool | exact u1_bool | exact u2_sli | exact u1_sli | exact u2_s0 | exact u1_s0))); all_goals (first | (intro y hy; cbv) | (assumption))))
  refine E_br hE (fun g => ?_) (fun g => ?_) <;> cbv
  · exfalso; subst hE; have := gtr_t g; omega
  refine E_br hE (fun g2 => ?_) (fun g2 => ?_) <;> cbv
  · exfalso; subst hE; have := lss_t g2; omega
  have ea : E.bin .add .i64 y.2.2 n = p.2.2 + n := by
    rw [hy, hx3]; subst hE
    show IntKind.i64.wrap (p.2.2 + n) = _
    exact wi64_in (by omega) (by omega)
  have yb : Lb y.2.1 ∧ y.2.1.length < 67108864 := by rw [hy]; exact ⟨xb, hl_⟩
  (first | (apply E_pcallX hE (c_dyMake y.1 y.2.1 (E.bin .add .i64 y.2.2 n) yb.1 yb.2 ?_ ?_); (case hm => rfl); (case hle => (repeat' (first | exact u_nil | apply u_cons | apply u2_agg | exact u2_int | exact u1_int | exact u2_bool | exact u1_bool | exact u2_sli | exact u1_sli | exact u2_s0 | exact u1_s0))); all_goals (first | (intro t ht; cbv) | ((rw [ea]; omega)))) | (apply E_callX hE (c_dyMake y.1 y.2.1 (E.bin .add .i64 y.2.2 n) yb.1 yb.2 ?_ ?_); (case hf => rfl); (case hc => (cbv <;> trivial)); (case hle => (repeat' (first | exact u_nil | apply u_cons | apply u2_agg | exact u2_int | exact u1_int | exact u2_bool | exact u1_bool | exact u2_sli | exact u1_sli | exact u2_s0 | exact u1_s0))); all_goals (first | (intro t ht; cbv) | ((rw [ea]; omega)))))
  have k : t = r := by
    have k : t = dyL (dyMake y.1 (lv y.2.1) (E.bin .add .i64 y.2.2 n)) := ht
    rw [k, ea, hy, hx1, hx2, lv_lim, hr]
  rw [← k]; exact ⟨rfl, rfl, rfl, trivial⟩
theorem shl_len {k L n : Nat} (h : (lim k).length ≤ L) : (lim (k * 2 ^ n)).length ≤ L + (n / 32 + 1) := by
  refine lim_length_le ?_
  have a := lv_lt (lim_lb k)
  rw [lv_lim] at a
  have b : 2 ^ n ≤ 4294967296 ^ (n / 32 + 1) := by
    rw [show (4294967296 : Nat) = 2 ^ 32 by rfl, ← Nat.pow_mul]
    exact Nat.pow_le_pow_right (by decide) (by omega)
  have c : 4294967296 ^ (lim k).length ≤ 4294967296 ^ L := Nat.pow_le_pow_right (by decide) h
  rw [Nat.pow_add]
  exact Nat.mul_lt_mul_of_lt_of_le' (Nat.lt_of_lt_of_le a c) b (Nat.two_pow_pos n)
theorem lim_succ_len (k : Nat) : (lim (k + 1)).length ≤ (lim k).length + 1 := by
  refine lim_length_le ?_
  have a := lv_lt (lim_lb k)
  rw [lv_lim] at a
  rw [Nat.pow_succ]
  have p : 0 < 4294967296 ^ (lim k).length := Nat.pow_pos (by decide)
  omega
/-- the greatest whole number that is not greater -/
def dyFloor (p : Bool × Nat × Int) : Int :=
  if 0 ≤ p.2.2 then (if p.1 then -((p.2.1 * 2 ^ p.2.2.toNat : Nat) : Int) else ((p.2.1 * 2 ^ p.2.2.toNat : Nat) : Int))
  else if p.1 then -((p.2.1 / 2 ^ (-p.2.2).toNat + 1 : Nat) : Int) else ((p.2.1 / 2 ^ (-p.2.2).toNat : Nat) : Int)
set_option maxHeartbeats 1000000 in
theorem c_dyFloor (p : Bool × Nat × Int) (hp : DyC p) (x : Bool × List Int × Int) (hx : x = dyL p) (hl_ : x.2.1.length < 67108864) :
    ∃ t : Bool × List Int, t = whN (dyFloor p) ∧ CallsA Tryz.prog 54 [.agg [.bool (.s x.1), .sli .u32 x.2.1, .int .i64 (.s x.2.2)]] (.agg [.bool (.s t.1), .sli .u32 t.2]) := by
  refine ⟨_, rfl, ?_⟩
  generalize hr : whN (dyFloor p) = r
  have hl2 : x.2.1.length < 4611686018427387904 := by omega
  have rng : -4194304 ≤ p.2.2 ∧ p.2.2 ≤ 4194304 := by
    rcases hp with hp | hp
    · rw [hp]; exact ⟨by decide, by decide⟩
    · exact hp.2
  have hx1 : x.1 = p.1 := by rw [hx]; rfl
  have hx2 : x.2.1 = lim p.2.1 := by rw [hx]; rfl
  have hx3 : x.2.2 = p.2.2 := by rw [hx]; rfl
  have xb : Lb x.2.1 := by rw [hx2]; exact lim_lb _
  have one : Lb [(1 : Int)] ∧ lv [(1 : Int)] = 1 := ⟨Lb.cons (by decide) (by decide) Lb.nil, rfl⟩
  have ll : (lim p.2.1).length < 67108864 := by rw [← hx2]; exact hl_
  have up : 0 ≤ p.2.2 → ∀ u, u = (if p.2.2 < 1 then lim p.2.1 else if 16777216 < p.2.2 then [] else lim (p.2.1 * 2 ^ p.2.2.toNat)) → Lb u ∧ u.length ≤ 268435456 ∧ ∀ w : Bool × List Int, w = (p.1 && decide (lv u ≠ 0), lim (lv u)) → w = r := by
    intro h u hu
    have hu : u = lim (p.2.1 * 2 ^ p.2.2.toNat) := by
      rw [hu]
      split
      · rw [show p.2.2.toNat = 0 by omega, Nat.pow_zero, Nat.mul_one]
      · rw [if_neg (by omega)]
    refine ⟨by rw [hu]; exact lim_lb _, by rw [hu]; have := shl_len (k := p.2.1) (L := 67108864) (n := p.2.2.toNat) (by omega); omega, fun w hw => ?_⟩
    rw [hw, hu, lv_lim, whN_of, ← hr]
    unfold dyFloor
    rw [if_pos h]
  have dn : ¬ 0 ≤ p.2.2 → ∀ u, u = lim (p.2.1 / 2 ^ (-p.2.2).toNat) → Lb u ∧ u.length < 67108864 ∧ (p.1 = false → ∀ w : Bool × List Int, w = (p.1 && decide (lv u ≠ 0), lim (lv u)) → w = r) ∧
      (p.1 = true → ∀ v, v = lim (lv u + 1) → Lb v ∧ v.length ≤ 268435456 ∧ ∀ w : Bool × List Int, w = (p.1 && decide (lv v ≠ 0), lim (lv v)) → w = r) := by
    intro h u hu
    have ul : (lim (p.2.1 / 2 ^ (-p.2.2).toNat)).length ≤ (lim p.2.1).length := lim_mono (Nat.div_le_self _ _)
    refine ⟨by rw [hu]; exact lim_lb _, by rw [hu]; omega, fun g w hw => ?_, fun g v hv => ?_⟩
    · rw [hw, hu, lv_lim, whN_of, ← hr]
      unfold dyFloor
      rw [if_neg h, g]; rfl
    · rw [hu, lv_lim] at hv
      have l2 := lim_succ_len (p.2.1 / 2 ^ (-p.2.2).toNat)
      refine ⟨by rw [hv]; exact lim_lb _, by rw [hv]; omega, fun w hw => ?_⟩
      rw [hw, hv, lv_lim, whN_of, ← hr]
      unfold dyFloor
      rw [if_neg h, g]; rfl
  clear hr
  refine callsA_of hG hm Tryz.func54 (by kernel_rfl) ?_
  intro E hE lp hl
  cbv
  (first | (apply E_pcallX hE (c_dyFair p hp x hx hl2); (case hm => rfl); (case hle => (repeat' (first | exact u_nil | apply u_cons | apply u2_agg | exact u2_int | exact u1_int | exact u2_bool | exact u1_bool | exact u2_sli | exact u1_sli | exact u2_s0 | exact u1_s0))); all_goals (first | (intro y hy; cbv) | (assumption))) | (apply E_callX hE (c_dyFair p hp x hx hl2); (case hf => rfl); (case hc => (cbv <;> trivial)); (case hle => (repeat' (first | exact u_nil | apply u_cons | apply u2_agg | exact u2_int | exact u1_int | exact u2_bool | exact u1_bool | exact u2_sli | exact u1_sli | exact u2_s0 | exact u1_s0))); all_goals (first | (intro y hy; cbv) | (assumption))))
  refine E_br hE (fun g => ?_) (fun g => ?_) <;> cbv
  · have g : 0 ≤ p.2.2 := by rw [← hx3, ← hy]; subst hE; exact geq_t g
    have yb : Lb y.2.1 ∧ y.2.1.length < 67108864 := by rw [hy]; exact ⟨xb, hl_⟩
    (first | (apply E_pcallX hE (c_natShl y.2.1 y.2.2 yb.1 yb.2); (case hm => rfl); (case hle => (repeat' (first | exact u_nil | apply u_cons | apply u2_agg | exact u2_int | exact u1_int | exact u2_bool | exact u1_bool | exact u2_sli | exact u1_sli | exact u2_s0 | exact u1_s0))); all_goals (first | (intro u hu; cbv) | (assumption))) | (apply E_callX hE (c_natShl y.2.1 y.2.2 yb.1 yb.2); (case hf => rfl); (case hc => (cbv <;> trivial)); (case hle => (repeat' (first | exact u_nil | apply u_cons | apply u2_agg | exact u2_int | exact u1_int | exact u2_bool | exact u1_bool | exact u2_sli | exact u1_sli | exact u2_s0 | exact u1_s0))); all_goals (first | (intro u hu; cbv) | (assumption))))
    have U := up g u (by rw [hu, hy, hx2, hx3, lv_lim])
    (first | (apply E_pcallX hE (c_wMake y.1 u U.1 U.2.1); (case hm => rfl); (case hle => (repeat' (first | exact u_nil | apply u_cons | apply u2_agg | exact u2_int | exact u1_int | exact u2_bool | exact u1_bool | exact u2_sli | exact u1_sli | exact u2_s0 | exact u1_s0))); all_goals (first | (intro w hw; cbv) | (assumption))) | (apply E_callX hE (c_wMake y.1 u U.1 U.2.1); (case hf => rfl); (case hc => (cbv <;> trivial)); (case hle => (repeat' (first | exact u_nil | apply u_cons | apply u2_agg | exact u2_int | exact u1_int | exact u2_bool | exact u1_bool | exact u2_sli | exact u1_sli | exact u2_s0 | exact u1_s0))); all_goals (first | (intro w hw; cbv) | (assumption))))
    rw [← U.2.2 w (by rw [hw, hy, hx1])]; exact ⟨rfl, rfl, trivial⟩
  · have g : ¬ 0 ≤ p.2.2 := by rw [← hx3, ← hy]; subst hE; exact geq_f g
    have yb : Lb y.2.1 ∧ y.2.1.length < 67108864 := by rw [hy]; exact ⟨xb, hl_⟩
    have en : E.bin .sub .i64 0 y.2.2 = -p.2.2 := by
      rw [hy, hx3]; subst hE
      show IntKind.i64.wrap (0 - p.2.2) = _
      rw [wi64_in (by omega) (by omega)]; omega
    (first | (apply E_pcallX hE (c_natShr y.2.1 (E.bin .sub .i64 0 y.2.2) yb.1 yb.2); (case hm => rfl); (case hle => (repeat' (first | exact u_nil | apply u_cons | apply u2_agg | exact u2_int | exact u1_int | exact u2_bool | exact u1_bool | exact u2_sli | exact u1_sli | exact u2_s0 | exact u1_s0))); all_goals (first | (intro u hu; cbv) | (assumption))) | (apply E_callX hE (c_natShr y.2.1 (E.bin .sub .i64 0 y.2.2) yb.1 yb.2); (case hf => rfl); (case hc => (cbv <;> trivial)); (case hle => (repeat' (first | exact u_nil | apply u_cons | apply u2_agg | exact u2_int | exact u1_int | exact u2_bool | exact u1_bool | exact u2_sli | exact u1_sli | exact u2_s0 | exact u1_s0))); all_goals (first | (intro u hu; cbv) | (assumption))))
    obtain ⟨u1, u2, u3, u4⟩ := dn g u (by rw [hu, en, hy, hx2, lv_lim])
    have y1 : y.1 = p.1 := by rw [hy, hx1]
    have o1 : E.sub [1] 0 1 = [1] := by subst hE; rfl
    have ul : u.length < 268435456 := Nat.lt_trans u2 (by decide)
    have um : u.length ≤ 268435456 := Nat.le_of_lt ul
    refine E_br hE (fun g2 => ?_) (fun g2 => ?_) <;> cbv
    · (first | (apply E_pcallX hE (c_natAdd u _ u1 ?_ ul ?_); (case hm => rfl); (case hle => (repeat' (first | exact u_nil | apply u_cons | apply u2_agg | exact u2_int | exact u1_int | exact u2_bool | exact u1_bool | exact u2_sli | exact u1_sli | exact u2_s0 | exact u1_s0))); all_goals (first | (intro v hv; cbv) | ((first | (show Lb (E.sub [1] 0 1); rw [o1]; exact one.1) | (show (E.sub [1] 0 1).length < 268435456; rw [o1]; decide))))) | (apply E_callX hE (c_natAdd u _ u1 ?_ ul ?_); (case hf => rfl); (case hc => (cbv <;> trivial)); (case hle => (repeat' (first | exact u_nil | apply u_cons | apply u2_agg | exact u2_int | exact u1_int | exact u2_bool | exact u1_bool | exact u2_sli | exact u1_sli | exact u2_s0 | exact u1_s0))); all_goals (first | (intro v hv; cbv) | ((first | (show Lb (E.sub [1] 0 1); rw [o1]; exact one.1) | (show (E.sub [1] 0 1).length < 268435456; rw [o1]; decide))))))
      have hv : v = lim (lv u + 1) := by
        have k : v = lim (lv u + lv (E.sub [1] 0 1)) := hv
        rw [k, o1, one.2]
      have V := u4 (y1.symm.trans g2) v hv
      (first | (apply E_pcallX hE (c_wMake y.1 v V.1 V.2.1); (case hm => rfl); (case hle => (repeat' (first | exact u_nil | apply u_cons | apply u2_agg | exact u2_int | exact u1_int | exact u2_bool | exact u1_bool | exact u2_sli | exact u1_sli | exact u2_s0 | exact u1_s0))); all_goals (first | (intro w hw; cbv) | (assumption))) | (apply E_callX hE (c_wMake y.1 v V.1 V.2.1); (case hf => rfl); (case hc => (cbv <;> trivial)); (case hle => (repeat' (first | exact u_nil | apply u_cons | apply u2_agg | exact u2_int | exact u1_int | exact u2_bool | exact u1_bool | exact u2_sli | exact u1_sli | exact u2_s0 | exact u1_s0))); all_goals (first | (intro w hw; cbv) | (assumption))))
      rw [← V.2.2 w (by rw [hw, y1])]; exact ⟨rfl, rfl, trivial⟩
    · (first | (apply E_pcallX hE (c_wMake y.1 u u1 um); (case hm => rfl); (case hle => (repeat' (first | exact u_nil | apply u_cons | apply u2_agg | exact u2_int | exact u1_int | exact u2_bool | exact u1_bool | exact u2_sli | exact u1_sli | exact u2_s0 | exact u1_s0))); all_goals (first | (intro w hw; cbv) | (assumption))) | (apply E_callX hE (c_wMake y.1 u u1 um); (case hf => rfl); (case hc => (cbv <;> trivial)); (case hle => (repeat' (first | exact u_nil | apply u_cons | apply u2_agg | exact u2_int | exact u1_int | exact u2_bool | exact u1_bool | exact u2_sli | exact u1_sli | exact u2_s0 | exact u1_s0))); all_goals (first | (intro w hw; cbv) | (assumption))))
      rw [← u3 (y1.symm.trans g2) w (by rw [hw, y1])]; exact ⟨rfl, rfl, trivial⟩

end Go.Proofs.YtpadpcjdakfokaaGreatDoor.Ev

/- What intervals have together, and the least one that has all of some: plain Lean. -/
namespace Go.Proofs.YtpadpcjdakfokaaGreatDoor.Ev
open Go

end Go.Proofs.YtpadpcjdakfokaaGreatDoor.Ev

/- Products and sums of whole numbers, and what intervals make of them: plain Lean. -/
namespace Go.Proofs.YtpadpcjdakfokaaGreatDoor.Ev
open Go

def Int.sm (n : Int) : Prop := -4611686018427387904 ≤ n ∧ n ≤ 4611686018427387904
theorem ofInt_fine {n : Int} (h : Int.sm n) : (Num.ofInt n).may = true ∧ (Num.ofInt n).ok ∧ (Num.ofInt n).kind ≠ 2 ∧ (Num.ofInt n).fair = Num.ofInt n ∧ (Num.ofInt n).val = n * pw 0 := by
  unfold Int.sm at h
  have hv := ofInt_val (n := n) (by omega)
  by_cases h0 : n = 0
  · subst h0
    exact ⟨by decide, Num.ofInt_ok 0, by decide, by decide, hv⟩
  · obtain ⟨f, _, _⟩ := ofInt_fin h0 (by omega)
    have hk := f.kind
    exact ⟨f.may, f.ok, by omega, Num.fair_of_may f.may, hv⟩

theorem min2 (a b : Int) : ∃ m, m ∈ [a, b] ∧ ∀ x ∈ [a, b], m ≤ x := by
  rcases Int.le_total a b with h | h
  · exact ⟨a, by simp, by simp; exact h⟩
  · exact ⟨b, by simp, by simp; exact h⟩
theorem max2 (a b : Int) : ∃ m, m ∈ [a, b] ∧ ∀ x ∈ [a, b], x ≤ m := by
  rcases Int.le_total a b with h | h
  · exact ⟨b, by simp, by simp; exact h⟩
  · exact ⟨a, by simp, by simp; exact h⟩
end Go.Proofs.YtpadpcjdakfokaaGreatDoor.Ev

/- Fixed numbers: what a number times 2^192, rounded down, is: plain Lean. -/
namespace Go.Proofs.YtpadpcjdakfokaaGreatDoor.Ev
open Go
set_option linter.unusedVariables false
set_option linter.unusedSimpArgs false

/-- the fixed number of a number, and whether there is one -/
def fixV (n : Num) : Int × Bool :=
  if n.fair.kind = 2 ∨ pw 0 * 2 ^ 30 ≤ n.fair.val ∨ n.fair.val ≤ -(pw 0 * 2 ^ 30) then (0, false) else (n.fair.val * 2 ^ 192 / pw 0, true)

theorem neg_div_odd {k j : Nat} (hk : k % 2 = 1) (hj : 0 < j) : -(k : Int) / 2 ^ j = -((k / 2 ^ j + 1 : Nat) : Int) := by
  have p : (0 : Int) < 2 ^ j := Int.pow_pos (by decide)
  have e : ((2 ^ j : Nat) : Int) = 2 ^ j := by rw [Int.natCast_pow]; rfl
  have hne : k % 2 ^ j ≠ 0 := by
    intro z
    obtain ⟨i, rfl⟩ : ∃ i, j = i + 1 := ⟨j - 1, by omega⟩
    have d := Nat.div_add_mod k (2 ^ (i + 1))
    rw [z, Nat.pow_succ, Nat.add_zero, Nat.mul_comm (2 ^ i) 2, Nat.mul_assoc] at d
    omega
  have d : (k : Int) = 2 ^ j * ((k / 2 ^ j : Nat) : Int) + ((k % 2 ^ j : Nat) : Int) := by
    rw [← e, ← Int.natCast_mul, ← Int.natCast_add, Nat.div_add_mod]
  have m1 : ((k % 2 ^ j : Nat) : Int) < 2 ^ j := by rw [← e]; exact Int.ofNat_lt.2 (Nat.mod_lt _ (Nat.two_pow_pos j))
  have m0 : (0 : Int) < ((k % 2 ^ j : Nat) : Int) := by omega
  have key : -(k : Int) = (2 ^ j - ((k % 2 ^ j : Nat) : Int)) + 2 ^ j * (-((k / 2 ^ j + 1 : Nat) : Int)) := by
    rw [Int.mul_neg, Int.natCast_add, Int.mul_add]
    omega
  rw [key, Int.add_mul_ediv_left _ _ (by omega), Int.ediv_eq_zero_of_lt (by omega) (by omega), Int.zero_add]

/-- rounding down, by the value -/
theorem dyFloor_val {p : Bool × Nat × Int} (h : p = (false, 0, 0) ∨ p.2.1 % 2 = 1) (lo : -8388608 ≤ p.2.2) : dyFloor p = dyv p / pw 0 := by
  have p0 := pw_pos 0
  rcases h with h | h
  · rw [h]; simp [dyFloor, dyv]
  · unfold dyFloor
    split
    · rename_i g
      have e := pw_add (e := 0) (f := p.2.2) (by decide) g
      rw [Int.zero_add] at e
      have c : ((p.2.1 * 2 ^ p.2.2.toNat : Nat) : Int) * pw 0 = (p.2.1 : Int) * pw p.2.2 := by
        rw [e, Int.natCast_mul, Int.natCast_pow, Int.mul_assoc, Int.mul_comm (pw 0)]; rfl
      unfold dyv
      split
      · rw [← c, ← Int.neg_mul, Int.mul_ediv_cancel _ (by omega)]
      · rw [← c, Int.mul_ediv_cancel _ (by omega)]
    · rename_i g
      have e := pw_add (e := p.2.2) (f := -p.2.2) lo (by omega)
      rw [show p.2.2 + -p.2.2 = 0 by omega] at e
      have pe := pw_pos p.2.2
      unfold dyv
      split
      · rw [e, ← Int.neg_mul, Int.mul_comm (-(p.2.1 : Int)), Int.mul_ediv_mul_of_pos _ _ pe, neg_div_odd h (by omega)]
      · rw [e, Int.mul_comm (p.2.1 : Int), Int.mul_ediv_mul_of_pos _ _ pe, Int.natCast_ediv, Int.natCast_pow]; rfl

/-- what a number comes to, moved -/
theorem dyMove_val {p : Bool × Nat × Int} {t : Int} (h : Dy p t) : dyFloor (dyMake p.1 p.2.1 (p.2.2 + 192)) = t * 2 ^ 192 / pw 0 := by
  have lo := h.lo
  have hi := h.hi
  rcases h.odd with k | k
  · have v := h.val
    rw [k] at v ⊢
    rw [dyMake_zero, ← v]
    simp [dyFloor, dyv]
  · have m : dyMake p.1 p.2.1 (p.2.2 + 192) = (p.1, p.2.1, p.2.2 + 192) := dyMake_odd k (by omega) (by omega)
    rw [m, dyFloor_val (p := (p.1, p.2.1, p.2.2 + 192)) (.inr k) (by show -8388608 ≤ p.2.2 + 192; omega), ← h.val]
    congr 1
    have e := pw_add (e := p.2.2) (f := 192) (by omega) (by decide)
    unfold dyv
    dsimp only
    rw [e]
    split
    · rw [Int.neg_mul, Int.mul_assoc]; rfl
    · rw [Int.mul_assoc]; rfl

theorem fix_bad {n : Num} (h : n.may = false) : fixV n = (0, true) := by
  unfold fixV
  have e : n.fair = Num.zero := by unfold Num.fair; rw [if_neg (by rw [h]; decide)]
  have p := pw_pos 0
  have z := Num.val_zero
  rw [e, z, if_neg]
  · simp
  · have q : (0 : Int) < pw 0 * 2 ^ 30 := Int.mul_pos p (by decide)
    rintro (k | k | k)
    · exact absurd k (by decide)
    · omega
    · omega
theorem far_sm : Int.sm 1073741824 ∧ Int.sm (-1073741824) := by unfold Int.sm; decide
theorem fix_far {n : Num} (m : n.may = true) (o : n.ok) (h : n.kind = 2 ∨ ¬ n.cmp (Num.ofInt 1073741824) < 0 ∨ n.cmp (Num.ofInt (-1073741824)) ≤ 0) : fixV n = (0, false) := by
  have f1 := ofInt_fine far_sm.1
  have f2 := ofInt_fine far_sm.2
  rw [Num.cmp_lt o f1.2.1, Num.cmp_le o f2.2.1, f1.2.2.2.1, f2.2.2.2.1, f1.2.2.2.2, f2.2.2.2.2] at h
  unfold fixV
  rw [if_pos]
  rw [Num.fair_of_may m] at h ⊢
  rcases h with h | h | h
  · exact .inl h
  · right; left; have e : pw 0 * 2 ^ 30 = 1073741824 * pw 0 := Int.mul_comm _ _
    omega
  · right; right; have e : pw 0 * 2 ^ 30 = 1073741824 * pw 0 := Int.mul_comm _ _
    have e2 : -1073741824 * pw 0 = -(1073741824 * pw 0) := by rw [Int.neg_mul]
    omega
theorem fix_ok {n : Num} (m : n.may = true) (o : n.ok) (h : ¬ (n.kind = 2 ∨ ¬ n.cmp (Num.ofInt 1073741824) < 0 ∨ n.cmp (Num.ofInt (-1073741824)) ≤ 0)) : fixV n = (n.val * 2 ^ 192 / pw 0, true) := by
  have f1 := ofInt_fine far_sm.1
  have f2 := ofInt_fine far_sm.2
  rw [Num.cmp_lt o f1.2.1, Num.cmp_le o f2.2.1, f1.2.2.2.1, f2.2.2.2.1, f1.2.2.2.2, f2.2.2.2.2, Num.fair_of_may m] at h
  unfold fixV
  rw [Num.fair_of_may m, if_neg]
  rintro (k | k | k)
  · exact h (.inl k)
  · apply h; right; left; have e : pw 0 * 2 ^ 30 = 1073741824 * pw 0 := Int.mul_comm _ _
    omega
  · apply h; right; right; have e : pw 0 * 2 ^ 30 = 1073741824 * pw 0 := Int.mul_comm _ _
    have e2 : -1073741824 * pw 0 = -(1073741824 * pw 0) := by rw [Int.neg_mul]
    omega
/-- a number that is very near nought -/
theorem near_val {n : Num} (F : n.Fin) (he : n.e < -256) : 0 < n.W ∧ n.W * 2 ^ 192 < pw 0 := by
  have lo := F.lo
  have hi := F.hi
  have elo := F.elo
  have pe := pw_pos n.e
  have e := pw_add (e := n.e) (f := -n.e) (by omega) (by omega)
  rw [show n.e + -n.e = 0 by omega] at e
  have big : (2 : Int) ^ 256 ≤ 2 ^ (-n.e).toNat := by
    have := Nat.pow_le_pow_right (n := 2) (by decide) (show 256 ≤ (-n.e).toNat by omega)
    have h2 : ((2 ^ 256 : Nat) : Int) ≤ ((2 ^ (-n.e).toNat : Nat) : Int) := Int.ofNat_le.2 this
    simpa [Int.natCast_pow] using h2
  rw [F.W, e]
  refine ⟨Int.mul_pos (by omega) pe, ?_⟩
  have q : n.m * 2 ^ 192 < 2 ^ (-n.e).toNat := by omega
  calc n.m * pw n.e * 2 ^ 192 = pw n.e * (n.m * 2 ^ 192) := by rw [Int.mul_comm n.m, Int.mul_assoc]
    _ < pw n.e * 2 ^ (-n.e).toNat := Int.mul_lt_mul_of_pos_left q pe
theorem fix_near {n : Num} (F : n.Fin) (he : n.e < -256) : n.val * 2 ^ 192 / pw 0 = if n.neg then -1 else 0 := by
  obtain ⟨h1, h2⟩ := near_val F he
  have h3 : 0 < n.W * 2 ^ 192 := Int.mul_pos h1 (by decide)
  have p := pw_pos 0
  unfold Num.val
  split
  · rw [Int.neg_mul]
    have key : -(n.W * 2 ^ 192) = (pw 0 - n.W * 2 ^ 192) + pw 0 * (-1) := by omega
    rw [key, Int.add_mul_ediv_left _ _ (by omega), Int.ediv_eq_zero_of_lt (by omega) (by omega)]; rfl
  · exact Int.ediv_eq_zero_of_lt (by omega) h2
theorem fix_in {n : Num} (m : n.may = true) (o : n.ok) (k : n.kind ≠ 2) : dyFloor (dyMake n.exact.1.1 n.exact.1.2.1 (n.exact.1.2.2 + 192)) = n.val * 2 ^ 192 / pw 0 := by
  have d := exact_dy (x := n) o (by rw [Num.fair_of_may m]; exact k)
  rw [Num.fair_of_may m] at d
  exact dyMove_val d
end Go.Proofs.YtpadpcjdakfokaaGreatDoor.Ev

/- Exact sums, differences and products of dyadic numbers, by their values: plain Lean. -/
namespace Go.Proofs.YtpadpcjdakfokaaGreatDoor.Ev
open Go
set_option linter.unusedVariables false
set_option linter.unusedSimpArgs false

/-- a dyadic number of a value, its bits between two places -/
structure DyV (B : Nat) (p : Bool × Nat × Int) (t : Int) : Prop where
  odd : p = (false, 0, 0) ∨ p.2.1 % 2 = 1
  lo : -(B : Int) ≤ p.2.2
  hi : p.2.2 + blen (p.2.1 : Int) ≤ B
  val : dyv p = t

theorem DyV.c {B : Nat} {p : Bool × Nat × Int} {t : Int} (h : DyV B p t) (hB : B ≤ 4000000) : DyC p := by
  have lo := h.lo
  have hi := h.hi
  have b := blen_nonneg (p.2.1 : Int)
  rcases h.odd with k | k
  · exact .inl k
  · exact .inr ⟨k, by omega, by omega⟩
theorem lim_blen (k : Nat) : (lim k).length ≤ (blen (k : Int)).toNat / 32 + 1 := by
  refine lim_length_le ?_
  have a := blen_lt (n := k)
  have b : 2 ^ (blen (k : Int)).toNat ≤ 4294967296 ^ ((blen (k : Int)).toNat / 32 + 1) := by
    rw [show (4294967296 : Nat) = 2 ^ 32 by rfl, ← Nat.pow_mul]
    exact Nat.pow_le_pow_right (by decide) (by omega)
  omega
theorem DyV.len {B : Nat} {p : Bool × Nat × Int} {t : Int} (h : DyV B p t) (hB : B ≤ 4000000) : (dyL p).2.1.length ≤ 250001 := by
  have lo := h.lo
  have hi := h.hi
  have b := lim_blen p.2.1
  show (lim p.2.1).length ≤ _
  omega
theorem DyV.mono {A B : Nat} {p : Bool × Nat × Int} {t : Int} (h : DyV A p t) (hB : A ≤ B) : DyV B p t :=
  ⟨h.odd, by have := h.lo; omega, by have := h.hi; omega, h.val⟩
theorem DyV.of {p : Bool × Nat × Int} {t : Int} (h : Dy p t) : DyV 1048704 p t := by
  refine ⟨h.odd, by have := h.lo; omega, ?_, h.val⟩
  have hi := h.hi
  have lt := h.lt
  have := blen_le (x := (p.2.1 : Int)) 64 (by have : (p.2.1 : Int) < 18446744073709551616 := by omega
                                              exact this)
  show p.2.2 + blen (p.2.1 : Int) ≤ 1048704
  omega
theorem DyV.zero {B : Nat} {p : Bool × Nat × Int} {t : Int} (h : DyV B p t) (z : p.2.1 = 0) : t = 0 := by
  rcases h.odd with k | k
  · rw [← h.val, k]; simp [dyv]
  · rw [z] at k; cases k
theorem dyMake_self {p : Bool × Nat × Int} (h : DyC p) : dyMake p.1 p.2.1 p.2.2 = p := by
  rcases h with k | k
  · rw [k]; exact dyMake_zero _ _
  · exact dyMake_odd k.1 k.2.1 k.2.2
end Go.Proofs.YtpadpcjdakfokaaGreatDoor.Ev

/- Contracts of the reference: quotients of numbers below nought, dyadic numbers moved, rounded down. Printed by gen.py. -/
namespace Go.Proofs.YtpadpcjdakfokaaGreatDoor.Ev
open Go Go.Proofs
set_option linter.unusedVariables false
set_option linter.unusedSimpArgs false

attribute [local irreducible] Lb whN
theorem neg_divmod (n k : Nat) (hk : k ≠ 0) : (n % k = 0 → -(n : Int) / k = -((n / k : Nat) : Int) ∧ -(n : Int) % k = 0) ∧ (n % k ≠ 0 → -(n : Int) / k = -((n / k : Nat) : Int) + -1 ∧ -(n : Int) % k = -((n % k : Nat) : Int) + k) := by
  have d := Nat.div_add_mod n k
  have l := Nat.mod_lt n (show 0 < k by omega)
  obtain ⟨q, hq⟩ : ∃ q, n / k = q := ⟨_, rfl⟩
  obtain ⟨r, hr⟩ : ∃ r, n % k = r := ⟨_, rfl⟩
  rw [hq, hr] at d ⊢
  rw [hr] at l
  have d2 : (k : Int) * q + r = n := by rw [← Int.natCast_mul]; omega
  constructor
  · intro h
    rw [← d2, h]
    refine (Int.ediv_emod_unique (show (0 : Int) < k by omega)).2 ⟨?_, by omega, by omega⟩
    rw [Int.mul_neg]; omega
  · intro h
    rw [← d2]
    refine (Int.ediv_emod_unique (show (0 : Int) < k by omega)).2 ⟨?_, by omega, by omega⟩
    rw [Int.mul_add, Int.mul_neg]; omega
set_option maxHeartbeats 1000000 in
theorem c_r2DivN (na : Bool) (a : List Int) (nb : Bool) (b : List Int) (hna : na = true) (hnb : nb = false) (ha : Lb a) (hb : Lb b) (hla : a.length ≤ 90000) (hlb : b.length ≤ 90000) (hb0 : lv b ≠ 0) :
    ∃ t : (Bool × List Int) × (Bool × List Int), t = (whN (-(lv a : Int) / lv b), whN (-(lv a : Int) % lv b)) ∧
      CallsA Tryz.prog 138 [.agg [.bool (.s na), .sli .u32 a], .agg [.bool (.s nb), .sli .u32 b]] (.tup [.agg [.bool (.s t.1.1), .sli .u32 t.1.2], .agg [.bool (.s t.2.1), .sli .u32 t.2.2], .bool (.s true)]) := by
  subst hna hnb
  refine ⟨_, rfl, ?_⟩
  generalize hr : (whN (-(lv a : Int) / lv b), whN (-(lv a : Int) % lv b)) = r
  have M := neg_divmod (lv a) (lv b) hb0
  have r0 : lv a % lv b = 0 → whN (-((lv a / lv b : Nat) : Int)) = r.1 ∧ whN 0 = r.2 := by intro z; rw [← hr, (M.1 z).1, (M.1 z).2]; exact ⟨rfl, rfl⟩
  have r1 : lv a % lv b ≠ 0 → whN (-((lv a / lv b : Nat) : Int) + -1) = r.1 ∧ whN (-((lv a % lv b : Nat) : Int) + lv b) = r.2 := by intro z; rw [← hr, (M.2 z).1, (M.2 z).2]; exact ⟨rfl, rfl⟩
  have qn : ∀ (t : Bool × List Int), t = (true && decide (lv a / lv b ≠ 0), lim (lv a / lv b)) → t = whN (-((lv a / lv b : Nat) : Int)) := by
    intro t h; rw [h, whN_of, if_pos rfl]
  have rn : ∀ (t : Bool × List Int), t = (true && decide (lv a % lv b ≠ 0), lim (lv a % lv b)) → t = whN (-((lv a % lv b : Nat) : Int)) := by
    intro t h; rw [h, whN_of, if_pos rfl]
  have b1 : b.length ≤ 268435456 := by omega
  have hla2 : a.length < 67108864 := by omega
  have hlb2 : b.length < 67108864 := by omega
  have hlb3 : b.length ≤ 100000 := by omega
  have l1 : (lim (lv a / lv b)).length ≤ 90000 := by have := lim_mono (Nat.div_le_self (lv a) (lv b)); have := lim_length_le' ha; omega
  have l3 : (lim (lv a % lv b)).length ≤ 90000 := by have := lim_mono (Nat.mod_le (lv a) (lv b)); have := lim_length_le' ha; omega
  have l2 : (whN (-1)).2.length ≤ 100000 := Nat.le_trans (whN_len (k := 1) (by decide)) (by decide)
  have wb : wv false b = lv b := rfl
  clear hr M
  refine callsA_of hG hm Tryz.func138 (by kernel_rfl) ?_
  intro E hE lp hl'
  cbv
  (first | (apply E_pcallX hE (c_r2Sign false b hb b1); (case hm => rfl); (case hle => (repeat' (first | exact u_nil | apply u_cons | apply u2_agg | exact u2_int | exact u1_int | exact u2_bool | exact u1_bool | exact u2_sli | exact u1_sli | exact u2_s0 | exact u1_s0))); all_goals (first | (intro z hz; cbv) | (assumption))) | (apply E_callX hE (c_r2Sign false b hb b1); (case hf => rfl); (case hc => (cbv <;> trivial)); (case hle => (repeat' (first | exact u_nil | apply u_cons | apply u2_agg | exact u2_int | exact u1_int | exact u2_bool | exact u1_bool | exact u2_sli | exact u1_sli | exact u2_s0 | exact u1_s0))); all_goals (first | (intro z hz; cbv) | (assumption))))
  have hz : z = 1 := by
    have k : z = (if lv b = 0 then 0 else if false = true then -1 else 1) := hz
    rw [k, if_neg hb0]; rfl
  (try (refine E_nm hE (fun z1 e1 => ?_); cbv))
  have hz1 : z1 = 1 := Eq.trans e1 hz
  refine E_br_f hE (show E.cmp .eql z1 0 = false by subst hE hz1; rfl) ?_; cbv
  (first | (apply E_pcallX hE (c_rDiv a b ha hb hla2 hlb2); (case hm => rfl); (case hle => (repeat' (first | exact u_nil | apply u_cons | apply u2_agg | exact u2_int | exact u1_int | exact u2_bool | exact u1_bool | exact u2_sli | exact u1_sli | exact u2_s0 | exact u1_s0))); all_goals (first | (intro d hd; cbv) | (assumption))) | (apply E_callX hE (c_rDiv a b ha hb hla2 hlb2); (case hf => rfl); (case hc => (cbv <;> trivial)); (case hle => (repeat' (first | exact u_nil | apply u_cons | apply u2_agg | exact u2_int | exact u1_int | exact u2_bool | exact u1_bool | exact u2_sli | exact u1_sli | exact u2_s0 | exact u1_s0))); all_goals (first | (intro d hd; cbv) | (assumption))))
  have hd : d = (lim (lv a / lv b), lim (lv a % lv b), true) := by
    have k : d = (if lv b = 0 then ([], [], false) else (lim (lv a / lv b), lim (lv a % lv b), true)) := hd
    rw [k, if_neg hb0]
  have d1 : d.1 = lim (lv a / lv b) := by rw [hd]
  have d2 : d.2.1 = lim (lv a % lv b) := by rw [hd]
  have db : Lb d.1 := by rw [d1]; exact lim_lb _
  have dc : Lb d.2.1 := by rw [d2]; exact lim_lb _
  have dl : d.1.length ≤ 268435456 := by rw [d1]; omega
  have dm : d.2.1.length ≤ 268435456 := by rw [d2]; omega
  (first | (apply E_pcallX hE (c_r2Make _ d.1 db dl); (case hm => rfl); (case hle => (repeat' (first | exact u_nil | apply u_cons | apply u2_agg | exact u2_int | exact u1_int | exact u2_bool | exact u1_bool | exact u2_sli | exact u1_sli | exact u2_s0 | exact u1_s0))); all_goals (first | (intro x hx; cbv) | (assumption))) | (apply E_callX hE (c_r2Make _ d.1 db dl); (case hf => rfl); (case hc => (cbv <;> trivial)); (case hle => (repeat' (first | exact u_nil | apply u_cons | apply u2_agg | exact u2_int | exact u1_int | exact u2_bool | exact u1_bool | exact u2_sli | exact u1_sli | exact u2_s0 | exact u1_s0))); all_goals (first | (intro x hx; cbv) | (assumption))))
  (first | (apply E_pcallX hE (c_r2Make _ d.2.1 dc dm); (case hm => rfl); (case hle => (repeat' (first | exact u_nil | apply u_cons | apply u2_agg | exact u2_int | exact u1_int | exact u2_bool | exact u1_bool | exact u2_sli | exact u1_sli | exact u2_s0 | exact u1_s0))); all_goals (first | (intro y hy; cbv) | (assumption))) | (apply E_callX hE (c_r2Make _ d.2.1 dc dm); (case hf => rfl); (case hc => (cbv <;> trivial)); (case hle => (repeat' (first | exact u_nil | apply u_cons | apply u2_agg | exact u2_int | exact u1_int | exact u2_bool | exact u1_bool | exact u2_sli | exact u1_sli | exact u2_s0 | exact u1_s0))); all_goals (first | (intro y hy; cbv) | (assumption))))
  have ex := qn x (by have k : x = ((E.bnot (E.beq true false)) && decide (lv d.1 ≠ 0), lim (lv d.1)) := hx; rw [k, d1, lv_lim]; subst hE; rfl)
  have ey := rn y (by have k : y = (true && decide (lv d.2.1 ≠ 0), lim (lv d.2.1)) := hy; rw [k, d2, lv_lim])
  have x2 : x.2 = lim (lv a / lv b) := by have k : x = ((E.bnot (E.beq true false)) && decide (lv d.1 ≠ 0), lim (lv d.1)) := hx; rw [k, d1, lv_lim]
  have y0 : y = (true && decide (lv a % lv b ≠ 0), lim (lv a % lv b)) := by have k : y = (true && decide (lv d.2.1 ≠ 0), lim (lv d.2.1)) := hy; rw [k, d2, lv_lim]
  have yb : Lb y.2 := by rw [y0]; exact lim_lb _
  have yk : y.2.length ≤ 90000 := by rw [y0]; exact l3
  have yl : y.2.length ≤ 268435456 := by omega
  have xb : Lb x.2 := by rw [x2]; exact lim_lb _
  have xl : x.2.length ≤ 100000 := by rw [x2]; omega
  have yl2 : y.2.length ≤ 100000 := by omega
  (first | (apply E_pcallX hE (c_r2Sign y.1 y.2 yb yl); (case hm => rfl); (case hle => (repeat' (first | exact u_nil | apply u_cons | apply u2_agg | exact u2_int | exact u1_int | exact u2_bool | exact u1_bool | exact u2_sli | exact u1_sli | exact u2_s0 | exact u1_s0))); all_goals (first | (intro s hs; cbv) | (assumption))) | (apply E_callX hE (c_r2Sign y.1 y.2 yb yl); (case hf => rfl); (case hc => (cbv <;> trivial)); (case hle => (repeat' (first | exact u_nil | apply u_cons | apply u2_agg | exact u2_int | exact u1_int | exact u2_bool | exact u1_bool | exact u2_sli | exact u1_sli | exact u2_s0 | exact u1_s0))); all_goals (first | (intro s hs; cbv) | (assumption))))
  have hs : s = (if lv a % lv b = 0 then 0 else -1) := by
    have k : s = (if lv y.2 = 0 then 0 else if y.1 = true then -1 else 1) := hs
    rw [k, y0, lv_lim]
    by_cases z : lv a % lv b = 0
    · rw [if_pos z, if_pos z]
    · rw [if_neg z, if_neg z, if_pos (by simp [z])]
  refine E_br hE (fun g => ?_) (fun g => ?_) <;> cbv
  · have z : lv a % lv b ≠ 0 := by
      intro z
      rw [if_pos z] at hs
      subst hE hz1 hs
      exact absurd g (by decide)
    obtain ⟨f1, f2⟩ := r1 z
    (first | (apply E_pcallX hE (c_r2From (-1) (by decide) (by decide)); (case hm => rfl); (case hle => (repeat' (first | exact u_nil | apply u_cons | apply u2_agg | exact u2_int | exact u1_int | exact u2_bool | exact u1_bool | exact u2_sli | exact u1_sli | exact u2_s0 | exact u1_s0))); all_goals (first | (intro u hu; cbv) | (assumption))) | (apply E_callX hE (c_r2From (-1) (by decide) (by decide)); (case hf => rfl); (case hc => (cbv <;> trivial)); (case hle => (repeat' (first | exact u_nil | apply u_cons | apply u2_agg | exact u2_int | exact u1_int | exact u2_bool | exact u1_bool | exact u2_sli | exact u1_sli | exact u2_s0 | exact u1_s0))); all_goals (first | (intro u hu; cbv) | (assumption))))
    have ub : Lb u.2 := by rw [hu]; exact whN_lb _
    have ul : u.2.length ≤ 100000 := by rw [hu]; exact l2
    (first | (apply E_pcallX hE (c_r2Add x.1 x.2 u.1 u.2 xb ub xl ul); (case hm => rfl); (case hle => (repeat' (first | exact u_nil | apply u_cons | apply u2_agg | exact u2_int | exact u1_int | exact u2_bool | exact u1_bool | exact u2_sli | exact u1_sli | exact u2_s0 | exact u1_s0))); all_goals (first | (intro v hv; cbv) | (assumption))) | (apply E_callX hE (c_r2Add x.1 x.2 u.1 u.2 xb ub xl ul); (case hf => rfl); (case hc => (cbv <;> trivial)); (case hle => (repeat' (first | exact u_nil | apply u_cons | apply u2_agg | exact u2_int | exact u1_int | exact u2_bool | exact u1_bool | exact u2_sli | exact u1_sli | exact u2_s0 | exact u1_s0))); all_goals (first | (intro v hv; cbv) | (assumption))))
    (first | (apply E_pcallX hE (c_r2Add y.1 y.2 false b yb hb yl2 hlb3); (case hm => rfl); (case hle => (repeat' (first | exact u_nil | apply u_cons | apply u2_agg | exact u2_int | exact u1_int | exact u2_bool | exact u1_bool | exact u2_sli | exact u1_sli | exact u2_s0 | exact u1_s0))); all_goals (first | (intro w hw; cbv) | (assumption))) | (apply E_callX hE (c_r2Add y.1 y.2 false b yb hb yl2 hlb3); (case hf => rfl); (case hc => (cbv <;> trivial)); (case hle => (repeat' (first | exact u_nil | apply u_cons | apply u2_agg | exact u2_int | exact u1_int | exact u2_bool | exact u1_bool | exact u2_sli | exact u1_sli | exact u2_s0 | exact u1_s0))); all_goals (first | (intro w hw; cbv) | (assumption))))
    have ev : v = r.1 := by
      have k : v = ((wsum x.1 (lv x.2) u.1 (lv u.2)).1, lim (wsum x.1 (lv x.2) u.1 (lv u.2)).2) := hv
      rw [k, wsum_whN, ex, hu, wv_whN, wv_whN, f1]
    have ew : w = r.2 := by
      have k : w = ((wsum y.1 (lv y.2) false (lv b)).1, lim (wsum y.1 (lv y.2) false (lv b)).2) := hw
      rw [k, wsum_whN, ey, wv_whN, wb, f2]
    exact ⟨⟨congrArg Prod.fst ev, congrArg Prod.snd ev, trivial⟩, ⟨congrArg Prod.fst ew, congrArg Prod.snd ew, trivial⟩, trivial⟩
  · have z : lv a % lv b = 0 := by
      by_cases z : lv a % lv b = 0
      · exact z
      · rw [if_neg z] at hs
        subst hE hz1 hs
        exact absurd g (by decide)
    obtain ⟨f1, f2⟩ := r0 z
    have ex2 : x = r.1 := ex.trans f1
    have ey2 : y = r.2 := by rw [ey, z]; exact f2
    exact ⟨⟨congrArg Prod.fst ex2, congrArg Prod.snd ex2, trivial⟩, ⟨congrArg Prod.fst ey2, congrArg Prod.snd ey2, trivial⟩, trivial⟩
theorem c_r2Div (na : Bool) (a : List Int) (nb : Bool) (b : List Int) (hnb : nb = false) (ha : Lb a) (hb : Lb b) (hla : a.length ≤ 90000) (hlb : b.length ≤ 90000) (hb0 : lv b ≠ 0) :
    ∃ t : (Bool × List Int) × (Bool × List Int), t = (whN (wv na a / (lv b : Int)), whN (wv na a % (lv b : Int))) ∧
      CallsA Tryz.prog 138 [.agg [.bool (.s na), .sli .u32 a], .agg [.bool (.s nb), .sli .u32 b]] (.tup [.agg [.bool (.s t.1.1), .sli .u32 t.1.2], .agg [.bool (.s t.2.1), .sli .u32 t.2.2], .bool (.s true)]) := by
  subst hnb
  cases na
  · obtain ⟨t, ht, h⟩ := c_r2DivP false a false b rfl rfl ha hb (by omega) (by omega) hb0
    exact ⟨t, ht, h⟩
  · obtain ⟨t, ht, h⟩ := c_r2DivN true a false b rfl rfl ha hb hla hlb hb0
    exact ⟨t, ht, h⟩

theorem dyL_self {p : Bool × Nat × Int} (hp : DyC p) {x : Bool × List Int × Int} (hx : x = dyL p) : dyMake x.1 (lv x.2.1) x.2.2 = p ∧ Lb x.2.1 ∧ (-4194304 ≤ x.2.2 ∧ x.2.2 ≤ 4194304) := by
  have e : -4194304 ≤ p.2.2 ∧ p.2.2 ≤ 4194304 := by
    rcases hp with h | h
    · rw [h]; exact ⟨by decide, by decide⟩
    · exact h.2
  rw [hx]
  refine ⟨?_, lim_lb _, e⟩
  show dyMake p.1 (lv (lim p.2.1)) p.2.2 = p
  rw [lv_lim]; exact dyMake_self hp
theorem c_r3Move (p : Bool × Nat × Int) (hp : DyC p) (x : Bool × List Int × Int) (hx : x = dyL p) (xl : x.2.1.length ≤ 100000) (n : Int) (hn : -16777216 ≤ n) (hn2 : n ≤ 16777216) :
    ∃ t : Bool × List Int × Int, t = dyL (dyMake p.1 p.2.1 (p.2.2 + n)) ∧ CallsA Tryz.prog 62 [.agg [.bool (.s x.1), .sli .u32 x.2.1, .int .i64 (.s x.2.2)], .int .i64 (.s n)] (.agg [.bool (.s t.1), .sli .u32 t.2.1, .int .i64 (.s t.2.2)]) := by
  refine ⟨_, rfl, ?_⟩
  generalize hr : dyL (dyMake p.1 p.2.1 (p.2.2 + n)) = r
  obtain ⟨self, xb, xe0⟩ := dyL_self hp hx
  have xe : -9223372036854775808 ≤ x.2.2 ∧ x.2.2 < 9223372036854775808 := by omega
  have xl : x.2.1.length ≤ 125000 := by omega
  have xp : x.2.2 = p.2.2 := by rw [hx]; rfl
  have fin : dyL (dyMake x.1 (lv x.2.1) (p.2.2 + n)) = r := by
    have e1 : x.1 = p.1 := by rw [hx]; rfl
    have e2 : lv x.2.1 = p.2.1 := by rw [hx]; exact lv_lim _
    rw [e1, e2, hr]
  have pe : -4194304 ≤ p.2.2 ∧ p.2.2 ≤ 4194304 := by rw [hx] at xe0; exact xe0
  have add : IntKind.i64.wrap (p.2.2 + n) = p.2.2 + n := wi64_in (by omega) (by omega)
  have ae : -9223372036854775808 ≤ p.2.2 + n ∧ p.2.2 + n < 9223372036854775808 := by omega
  refine callsA_of hG hm Tryz.func62 (by kernel_rfl) ?_
  intro E hE lp hl'
  cbv
  (first | (apply E_pcallX hE (k_r3Make x.1 x.2.1 x.2.2 xb xl xe); (case hm => rfl); (case hle => (repeat' (first | exact u_nil | apply u_cons | apply u2_agg | exact u2_int | exact u1_int | exact u2_bool | exact u1_bool | exact u2_sli | exact u1_sli | exact u2_s0 | exact u1_s0))); all_goals (first | (intro y hy; cbv) | (assumption))) | (apply E_callX hE (k_r3Make x.1 x.2.1 x.2.2 xb xl xe); (case hf => rfl); (case hc => (cbv <;> trivial)); (case hle => (repeat' (first | exact u_nil | apply u_cons | apply u2_agg | exact u2_int | exact u1_int | exact u2_bool | exact u1_bool | exact u2_sli | exact u1_sli | exact u2_s0 | exact u1_s0))); all_goals (first | (intro y hy; cbv) | (assumption))))
  have y0 : y = x := by have k : y = dyL (dyMake x.1 (lv x.2.1) x.2.2) := hy; rw [k, self]; exact hx.symm
  clear hy
  subst y0
  refine E_br_f hE (show E.cmp .gtr n 16777216 = false by subst hE; exact decide_eq_false (by omega)) ?_; cbv
  refine E_br_f hE (show E.cmp .lss n (-16777216) = false by subst hE; exact decide_eq_false (by omega)) ?_; cbv
  have ea : E.bin .add .i64 y.2.2 n = p.2.2 + n := by rw [xp]; subst hE; exact add
  have ye : -9223372036854775808 ≤ E.bin .add .i64 y.2.2 n ∧ E.bin .add .i64 y.2.2 n < 9223372036854775808 := by rw [ea]; exact ae
  (first | (apply E_pcallX hE (k_r3Make y.1 y.2.1 (E.bin .add .i64 y.2.2 n) xb xl ye); (case hm => rfl); (case hle => (repeat' (first | exact u_nil | apply u_cons | apply u2_agg | exact u2_int | exact u1_int | exact u2_bool | exact u1_bool | exact u2_sli | exact u1_sli | exact u2_s0 | exact u1_s0))); all_goals (first | (intro z hz; cbv) | (assumption))) | (apply E_callX hE (k_r3Make y.1 y.2.1 (E.bin .add .i64 y.2.2 n) xb xl ye); (case hf => rfl); (case hc => (cbv <;> trivial)); (case hle => (repeat' (first | exact u_nil | apply u_cons | apply u2_agg | exact u2_int | exact u1_int | exact u2_bool | exact u1_bool | exact u2_sli | exact u1_sli | exact u2_s0 | exact u1_s0))); all_goals (first | (intro z hz; cbv) | (assumption))))
  have k : z = r := by have k : z = dyL (dyMake y.1 (lv y.2.1) (E.bin .add .i64 y.2.2 n)) := hz; rw [k, ea, fin]
  rw [k]; exact ⟨rfl, rfl, rfl, trivial⟩
theorem dyFloor_div {p : Bool × Nat × Int} (hp : DyC p) (h : ¬ 0 ≤ p.2.2) : wv p.1 (lim p.2.1) / ((2 ^ (-p.2.2).toNat : Nat) : Int) = dyFloor p := by
  unfold dyFloor wv
  rw [if_neg h, lv_lim]
  have e : ((2 ^ (-p.2.2).toNat : Nat) : Int) = 2 ^ (-p.2.2).toNat := by rw [Int.natCast_pow]; rfl
  split
  · rcases hp with k | k
    · rw [k] at h; exact absurd (by decide) h
    · rw [e, neg_div_odd k.1 (by omega)]
  · rw [e, Int.natCast_ediv, Int.natCast_pow]; rfl
set_option maxHeartbeats 1000000 in
theorem c_r3Floor (p : Bool × Nat × Int) (hp : DyC p) (x : Bool × List Int × Int) (hx : x = dyL p) (xl0 : x.2.1.length ≤ 1000) (pe : -20000 ≤ p.2.2 ∧ p.2.2 ≤ 20000) :
    ∃ t : Bool × List Int, t = whN (dyFloor p) ∧ CallsA Tryz.prog 61 [.agg [.bool (.s x.1), .sli .u32 x.2.1, .int .i64 (.s x.2.2)]] (.agg [.bool (.s t.1), .sli .u32 t.2]) := by
  refine ⟨_, rfl, ?_⟩
  generalize hr : whN (dyFloor p) = r
  obtain ⟨self, xb, xe0⟩ := dyL_self hp hx
  have xe : -9223372036854775808 ≤ x.2.2 ∧ x.2.2 < 9223372036854775808 := by omega
  have xl : x.2.1.length ≤ 125000 := by omega
  have pl_ : (lim p.2.1).length ≤ 1000 := by rw [hx] at xl0; exact xl0
  have plen : x.2.1.length < 33554432 := by omega
  have x1 : x.1 = p.1 := by rw [hx]; rfl
  have x2 : x.2.1 = lim p.2.1 := by rw [hx]; rfl
  have x3 : x.2.2 = p.2.2 := by rw [hx]; rfl
  have up : 0 ≤ p.2.2 → ∀ t : List Int, t = (if p.2.2 < 1 then lim (lv (lim p.2.1)) else if 16777216 < p.2.2 then [] else lim (lv (lim p.2.1) * 2 ^ p.2.2.toNat)) → Lb t ∧ t.length ≤ 268435456 ∧ ∀ u : Bool × List Int, u = (p.1 && decide (lv t ≠ 0), lim (lv t)) → u = r := by
    intro h t ht
    have e : t = lim (p.2.1 * 2 ^ p.2.2.toNat) := by
      rw [ht, lv_lim]
      by_cases z : p.2.2 < 1
      · rw [if_pos z, show p.2.2.toNat = 0 by omega, Nat.pow_zero, Nat.mul_one]
      · rw [if_neg z, if_neg (by omega)]
    refine ⟨by rw [e]; exact lim_lb _, ?_, fun u hu => ?_⟩
    · rw [e]; have := shl_len (n := p.2.2.toNat) pl_; omega
    · rw [hu, e, lv_lim, whN_of, ← hr]
      unfold dyFloor
      rw [if_pos h]
  have dn : ¬ 0 ≤ p.2.2 → ∀ n : Int, n = -p.2.2 → ∀ t : List Int, t = (if n < 1 then lim (lv [(1 : Int)]) else if 16777216 < n then [] else lim (lv [(1 : Int)] * 2 ^ n.toNat)) → Lb t ∧ t.length ≤ 268435456 ∧
      ∀ u : Bool × List Int, u = (false && decide (lv t ≠ 0), lim (lv t)) → u.1 = false ∧ Lb u.2 ∧ u.2.length ≤ 90000 ∧ lv u.2 ≠ 0 ∧ whN (wv p.1 (lim p.2.1) / (lv u.2 : Int)) = r := by
    intro h n hn t ht
    have e : t = lim (2 ^ (-p.2.2).toNat) := by
      rw [ht, if_neg (by omega), if_neg (by omega), hn]
      show lim (1 * 2 ^ (-p.2.2).toNat) = _
      rw [Nat.one_mul]
    have l : (lim (2 ^ (-p.2.2).toNat)).length ≤ 1001 := by
      have h2 : (lim 1).length ≤ 1 := lim_length_le (by decide)
      have h1 := shl_len (n := (-p.2.2).toNat) h2
      rw [Nat.one_mul] at h1
      omega
    refine ⟨by rw [e]; exact lim_lb _, by rw [e]; omega, fun u hu => ?_⟩
    have u2 : u = (false, lim (2 ^ (-p.2.2).toNat)) := by rw [hu, e, lv_lim]; rfl
    rw [u2]
    dsimp only
    rw [lv_lim, dyFloor_div hp h]
    exact ⟨rfl, lim_lb _, by omega, by have := Nat.two_pow_pos (-p.2.2).toNat; omega, hr⟩
  have one : Lb [(1 : Int)] ∧ [(1 : Int)].length < 33554432 := ⟨Lb.cons (by decide) (by decide) Lb.nil, by decide⟩
  have pl2 : x.2.1.length ≤ 90000 := by omega
  rw [← x1, ← x2, ← x3] at up dn
  have neg : -p.2.2 = IntKind.i64.wrap (-p.2.2) := by rw [wi64_in (by omega) (by omega)]
  refine callsA_of hG hm Tryz.func61 (by kernel_rfl) ?_
  intro E hE lp hl'
  cbv
  (first | (apply E_pcallX hE (k_r3Make x.1 x.2.1 x.2.2 xb xl xe); (case hm => rfl); (case hle => (repeat' (first | exact u_nil | apply u_cons | apply u2_agg | exact u2_int | exact u1_int | exact u2_bool | exact u1_bool | exact u2_sli | exact u1_sli | exact u2_s0 | exact u1_s0))); all_goals (first | (intro y hy; cbv) | (assumption))) | (apply E_callX hE (k_r3Make x.1 x.2.1 x.2.2 xb xl xe); (case hf => rfl); (case hc => (cbv <;> trivial)); (case hle => (repeat' (first | exact u_nil | apply u_cons | apply u2_agg | exact u2_int | exact u1_int | exact u2_bool | exact u1_bool | exact u2_sli | exact u1_sli | exact u2_s0 | exact u1_s0))); all_goals (first | (intro y hy; cbv) | (assumption))))
  have y0 : y = x := by have k : y = dyL (dyMake x.1 (lv x.2.1) x.2.2) := hy; rw [k, self]; exact hx.symm
  clear hy
  subst y0
  refine E_br hE (fun g => ?_) (fun g => ?_) <;> cbv
  · have g : 0 ≤ y.2.2 := by subst hE; exact of_decide_eq_true g
    (first | (apply E_pcallX hE (c_rShl y.2.1 y.2.2 xb plen); (case hm => rfl); (case hle => (repeat' (first | exact u_nil | apply u_cons | apply u2_agg | exact u2_int | exact u1_int | exact u2_bool | exact u1_bool | exact u2_sli | exact u1_sli | exact u2_s0 | exact u1_s0))); all_goals (first | (intro t ht; cbv) | (assumption))) | (apply E_callX hE (c_rShl y.2.1 y.2.2 xb plen); (case hf => rfl); (case hc => (cbv <;> trivial)); (case hle => (repeat' (first | exact u_nil | apply u_cons | apply u2_agg | exact u2_int | exact u1_int | exact u2_bool | exact u1_bool | exact u2_sli | exact u1_sli | exact u2_s0 | exact u1_s0))); all_goals (first | (intro t ht; cbv) | (assumption))))
    obtain ⟨t1, t2, t3⟩ := up g t ht
    (first | (apply E_pcallX hE (c_r2Make y.1 t t1 t2); (case hm => rfl); (case hle => (repeat' (first | exact u_nil | apply u_cons | apply u2_agg | exact u2_int | exact u1_int | exact u2_bool | exact u1_bool | exact u2_sli | exact u1_sli | exact u2_s0 | exact u1_s0))); all_goals (first | (intro u hu; cbv) | (assumption))) | (apply E_callX hE (c_r2Make y.1 t t1 t2); (case hf => rfl); (case hc => (cbv <;> trivial)); (case hle => (repeat' (first | exact u_nil | apply u_cons | apply u2_agg | exact u2_int | exact u1_int | exact u2_bool | exact u1_bool | exact u2_sli | exact u1_sli | exact u2_s0 | exact u1_s0))); all_goals (first | (intro u hu; cbv) | (assumption))))
    have k := t3 u hu
    rw [k]; exact ⟨rfl, rfl, trivial⟩
  · have g : ¬ 0 ≤ y.2.2 := by subst hE; exact of_decide_eq_false g
    have es : E.sub [1] 0 1 = [1] := by subst hE; rfl
    have en : E.bin .sub .i64 0 y.2.2 = -y.2.2 := by subst hE; show IntKind.i64.wrap (0 - y.2.2) = _; rw [x3, Int.zero_sub, ← neg]
    (first | (apply E_pcallX hE (c_rShl (E.sub [1] 0 1) (E.bin .sub .i64 0 y.2.2) ?_ ?_); (case hm => rfl); (case hle => (repeat' (first | exact u_nil | apply u_cons | apply u2_agg | exact u2_int | exact u1_int | exact u2_bool | exact u1_bool | exact u2_sli | exact u1_sli | exact u2_s0 | exact u1_s0))); all_goals (first | (intro t ht; cbv) | ((rw [es]; first | exact one.1 | exact one.2)))) | (apply E_callX hE (c_rShl (E.sub [1] 0 1) (E.bin .sub .i64 0 y.2.2) ?_ ?_); (case hf => rfl); (case hc => (cbv <;> trivial)); (case hle => (repeat' (first | exact u_nil | apply u_cons | apply u2_agg | exact u2_int | exact u1_int | exact u2_bool | exact u1_bool | exact u2_sli | exact u1_sli | exact u2_s0 | exact u1_s0))); all_goals (first | (intro t ht; cbv) | ((rw [es]; first | exact one.1 | exact one.2)))))
    have ht : t = _ := ht
    rw [es] at ht
    obtain ⟨t1, t2, t3⟩ := dn g _ en t ht
    (first | (apply E_pcallX hE (c_r2Make false t t1 t2); (case hm => rfl); (case hle => (repeat' (first | exact u_nil | apply u_cons | apply u2_agg | exact u2_int | exact u1_int | exact u2_bool | exact u1_bool | exact u2_sli | exact u1_sli | exact u2_s0 | exact u1_s0))); all_goals (first | (intro u hu; cbv) | (assumption))) | (apply E_callX hE (c_r2Make false t t1 t2); (case hf => rfl); (case hc => (cbv <;> trivial)); (case hle => (repeat' (first | exact u_nil | apply u_cons | apply u2_agg | exact u2_int | exact u1_int | exact u2_bool | exact u1_bool | exact u2_sli | exact u1_sli | exact u2_s0 | exact u1_s0))); all_goals (first | (intro u hu; cbv) | (assumption))))
    obtain ⟨u1, u2, u3, u4, u5⟩ := t3 u hu
    (first | (apply E_pcallX hE (c_r2Div y.1 y.2.1 u.1 u.2 u1 xb u2 pl2 u3 u4); (case hm => rfl); (case hle => (repeat' (first | exact u_nil | apply u_cons | apply u2_agg | exact u2_int | exact u1_int | exact u2_bool | exact u1_bool | exact u2_sli | exact u1_sli | exact u2_s0 | exact u1_s0))); all_goals (first | (intro v hv; cbv) | (assumption))) | (apply E_callX hE (c_r2Div y.1 y.2.1 u.1 u.2 u1 xb u2 pl2 u3 u4); (case hf => rfl); (case hc => (cbv <;> trivial)); (case hle => (repeat' (first | exact u_nil | apply u_cons | apply u2_agg | exact u2_int | exact u1_int | exact u2_bool | exact u1_bool | exact u2_sli | exact u1_sli | exact u2_s0 | exact u1_s0))); all_goals (first | (intro v hv; cbv) | (assumption))))
    have k : v.1 = r := by
      have k : v = (whN (wv y.1 y.2.1 / (lv u.2 : Int)), whN (wv y.1 y.2.1 % (lv u.2 : Int))) := hv
      rw [k]; exact u5
    exact ⟨congrArg Prod.fst k, congrArg Prod.snd k, trivial⟩

end Go.Proofs.YtpadpcjdakfokaaGreatDoor.Ev

/- Sums and products of numbers: their order, and their opposites. Plain Lean. -/
namespace Go.Proofs.YtpadpcjdakfokaaGreatDoor.Ev
open Go

theorem Num.may_fair {n : Num} (h : n.may = true) : n.fair = n := by unfold Num.fair; rw [if_pos h]
theorem Num.opp_inf (b : Bool) : (Num.inf b).opp = Num.inf (!b) := by cases b <;> decide
theorem Num.fair_inf {a : Num} (oa : a.ok) (k : a.fair.kind = 2) : a.fair = Num.inf a.fair.neg := Num.inf_of a.fair_may (Num.fair_ok oa) k

theorem Num.add_inf {a b : Num} (up : Bool) (ka : a.fair.kind = 2) : Num.add a b up = if b.fair.kind = 2 ∧ a.fair.neg ≠ b.fair.neg then Num.inf (!up) else a.fair := by
  unfold Num.add
  by_cases h : b.fair.kind = 2 ∧ a.fair.neg ≠ b.fair.neg
  · rw [if_pos ⟨ka, h⟩, if_pos h]
  · rw [if_neg (fun k => h k.2), if_neg h, if_pos (.inl ka)]
theorem Num.add_inf2 {a b : Num} (oa : a.ok) (ob : b.ok) (up : Bool) (kb : b.fair.kind = 2) : Num.add a b up = if a.fair.kind = 2 ∧ b.fair.neg ≠ a.fair.neg then Num.inf (!up) else b.fair := by
  unfold Num.add
  by_cases h : a.fair.kind = 2 ∧ b.fair.neg ≠ a.fair.neg
  · rw [if_pos ⟨h.1, kb, fun e => h.2 e.symm⟩, if_pos h]
  · rw [if_neg (fun k => h ⟨k.1, fun e => k.2.2 e.symm⟩), if_neg h]
    by_cases ka : a.fair.kind = 2
    · rw [if_pos (.inl ka), Num.fair_inf oa ka, Num.fair_inf ob kb]
      congr 1
      exact (Classical.not_not.1 (fun e => h ⟨ka, e⟩)).symm
    · rw [if_neg (by rw [kb]; simp [ka]), if_pos (.inl kb)]
theorem Num.add_comm {a b : Num} (oa : a.ok) (ob : b.ok) (up : Bool) : Num.add a b up = Num.add b a up := by
  by_cases ka : a.fair.kind = 2
  · rw [Num.add_inf up ka, Num.add_inf2 ob oa up ka]
  · by_cases kb : b.fair.kind = 2
    · rw [Num.add_inf2 oa ob up kb, Num.add_inf up kb]
    · exact (add_best oa ob ka kb up).uniq (add_best ob oa kb ka up) (by decide) (by decide) (by rw [Int.add_comm])

theorem Num.mul_comm {a b : Num} (oa : a.ok) (ob : b.ok) (up : Bool) : Num.mul a b up = Num.mul b a up := by
  have key : a.fair.kind = 2 ∨ b.fair.kind = 2 → Num.mul a b up = Num.mul b a up := by
    intro h
    unfold Num.mul
    by_cases h0 : a.fair.kind = 0 ∨ b.fair.kind = 0
    · have h0' : b.fair.kind = 0 ∨ a.fair.kind = 0 := h0.symm
      rw [if_pos h0]
      exact (if_pos h0').symm
    · have h0' : ¬ (b.fair.kind = 0 ∨ a.fair.kind = 0) := fun k => h0 k.symm
      rw [if_neg h0, if_pos h]
      refine Eq.trans ?_ (Eq.trans (if_pos h.symm).symm (if_neg h0').symm)
      congr 1
      cases a.fair.neg <;> cases b.fair.neg <;> rfl
  by_cases ka : a.fair.kind = 2
  · exact key (.inl ka)
  · by_cases kb : b.fair.kind = 2
    · exact key (.inr kb)
    · exact (mul_best oa ob ka kb up).uniq (mul_best ob oa kb ka up) (pw_pos 0) (pw_pos 0) (by rw [Int.mul_comm a.fair.val])

theorem Best.opp {r : Num} {up : Bool} {t c : Int} (h : Best r up t c) : Best r.opp (!up) (-t) c := by
  have fr := Num.may_fair h.may
  have vr : r.opp.val = -r.val := by rw [Num.opp_val, fr]
  have inj : ∀ b, r.opp = Num.inf b → r = Num.inf (!b) := by
    intro b e
    have := congrArg Num.opp e
    rw [Num.opp_opp, fr, Num.opp_inf] at this
    exact this
  have back : ∀ s : Num, s.may = true → s.ok → ∀ b, s ≠ Num.inf b → s.opp ≠ Num.inf (!b) := by
    intro s ms os b hs e
    have := congrArg Num.opp e
    rw [Num.opp_opp, Num.may_fair ms, Num.opp_inf, Bool.not_not] at this
    exact hs this
  have vs : ∀ s : Num, s.may = true → s.opp.val = -s.val := fun s ms => by rw [Num.opp_val, Num.may_fair ms]
  refine ⟨Num.opp_may r, Num.opp_ok h.ok, fun hu => ?_, fun hu s ms os hs hle => ?_, fun hu s ms os hs hle => ?_, fun hu => ?_⟩
  · have hu' : up = true := by simpa using hu
    obtain ⟨h1, h2⟩ := h.hi hu'
    refine ⟨fun e => h1 (inj _ e), ?_⟩
    rcases h2 with h2 | h2
    · left; rw [h2, Num.opp_inf]; rfl
    · right; rw [vr, Int.neg_mul]; omega
  · have hu' : up = true := by simpa using hu
    have := h.uopt hu' s.opp (Num.opp_may s) (Num.opp_ok os) (back s ms os false hs) (by rw [vs s ms, Int.neg_mul]; omega)
    rw [vs s ms] at this
    rw [vr]; omega
  · have hu' : up = false := by simpa using hu
    have := h.dopt hu' s.opp (Num.opp_may s) (Num.opp_ok os) (back s ms os true hs) (by rw [vs s ms, Int.neg_mul]; omega)
    rw [vs s ms] at this
    rw [vr]; omega
  · have hu' : up = false := by simpa using hu
    obtain ⟨h1, h2⟩ := h.down hu'
    refine ⟨fun e => h1 (inj _ e), ?_⟩
    rcases h2 with h2 | h2
    · left; rw [h2, Num.opp_inf]; rfl
    · right; rw [vr, Int.neg_mul]; omega

theorem Num.opp_fair (n : Num) : n.opp.fair = n.opp := Num.may_fair (Num.opp_may n)
end Go.Proofs.YtpadpcjdakfokaaGreatDoor.Ev

/- The law of rules, all but roots: plain Lean. -/
namespace Go.Proofs.YtpadpcjdakfokaaGreatDoor.Ev
open Go

theorem Iv.bad_two (a b : Iv) : Iv.anyBad [a, b] = (a.bad || b.bad) := by simp [Iv.anyBad]
theorem Iv.bad_one (a : Iv) : Iv.anyBad [a] = a.bad := by simp [Iv.anyBad]

theorem Num.least_perm {w x y z : Num} (hw : w.ok) (hx : x.ok) (hy : y.ok) (hz : z.ok) : Num.least [w, x, y, z] = Num.least [w, y, x, z] := by
  have s1 := Num.least_spec [w, x, y, z] (by simp; exact ⟨hw, hx, hy, hz⟩)
  have s2 := Num.least_spec [w, y, x, z] (by simp; exact ⟨hw, hy, hx, hz⟩)
  refine Num.val_inj s1.1 s2.1 s1.2.1 s2.2.1 ?_
  have l1 := s1.2.2.1
  have l2 := s2.2.2.1
  have top1 := (Num.val_le s1.1 s1.2.1).2
  have top2 := (Num.val_le s2.1 s2.2.1).2
  apply Int.le_antisymm
  · rcases s2.2.2.2 with e | ⟨v, hv, e⟩
    · rw [e, Num.val_inf]; simpa using top1
    · have := l1 v (by simp at hv ⊢; rcases hv with h | h | h | h <;> simp [h])
      rw [e]; exact this
  · rcases s1.2.2.2 with e | ⟨v, hv, e⟩
    · rw [e, Num.val_inf]; simpa using top2
    · have := l2 v (by simp at hv ⊢; rcases hv with h | h | h | h <;> simp [h])
      rw [e]; exact this
theorem Num.most_perm {w x y z : Num} (hw : w.ok) (hx : x.ok) (hy : y.ok) (hz : z.ok) : Num.most [w, x, y, z] = Num.most [w, y, x, z] := by
  have s1 := Num.most_spec [w, x, y, z] (by simp; exact ⟨hw, hx, hy, hz⟩)
  have s2 := Num.most_spec [w, y, x, z] (by simp; exact ⟨hw, hy, hx, hz⟩)
  refine Num.val_inj s1.1 s2.1 s1.2.1 s2.2.1 ?_
  have l1 := s1.2.2.1
  have l2 := s2.2.2.1
  have top1 := (Num.val_le s1.1 s1.2.1).1
  have top2 := (Num.val_le s2.1 s2.2.1).1
  apply Int.le_antisymm
  · rcases s1.2.2.2 with e | ⟨v, hv, e⟩
    · rw [e, Num.val_inf]; simpa using top2
    · have := l2 v (by simp at hv ⊢; rcases hv with h | h | h | h <;> simp [h])
      rw [e]; exact this
  · rcases s2.2.2.2 with e | ⟨v, hv, e⟩
    · rw [e, Num.val_inf]; simpa using top1
    · have := l1 v (by simp at hv ⊢; rcases hv with h | h | h | h <;> simp [h])
      rw [e]; exact this

theorem Iv.mul_comm {a b : Iv} (ha : a.lo.ok ∧ a.hi.ok) (hb : b.lo.ok ∧ b.hi.ok) : Iv.mul a b = Iv.mul b a := by
  unfold Iv.mul
  rw [Iv.bad_two, Iv.bad_two, Bool.or_comm]
  unfold Iv.corners
  rw [Num.least_perm (Num.mul_ok ha.1 hb.1 _) (Num.mul_ok ha.1 hb.2 _) (Num.mul_ok ha.2 hb.1 _) (Num.mul_ok ha.2 hb.2 _),
    Num.most_perm (Num.mul_ok ha.1 hb.1 _) (Num.mul_ok ha.1 hb.2 _) (Num.mul_ok ha.2 hb.1 _) (Num.mul_ok ha.2 hb.2 _)]
  rw [Num.mul_comm ha.1 hb.1 false, Num.mul_comm ha.2 hb.1 false, Num.mul_comm ha.1 hb.2 false, Num.mul_comm ha.2 hb.2 false,
    Num.mul_comm ha.1 hb.1 true, Num.mul_comm ha.2 hb.1 true, Num.mul_comm ha.1 hb.2 true, Num.mul_comm ha.2 hb.2 true]

theorem Iv.neg_eq (a : Iv) : Iv.neg a = if a.bad = true then Iv.none else Iv.make a.hi.opp a.lo.opp := by
  unfold Iv.neg; rw [Iv.bad_one]

theorem Iv.Real.neg {x : Iv} (h : x.Real) : (Iv.mk false x.hi.opp x.lo.opp).Real := by
  have vl : x.lo.opp.val = -x.lo.val := by rw [Num.opp_val, Num.may_fair h.lom]
  have vh : x.hi.opp.val = -x.hi.val := by rw [Num.opp_val, Num.may_fair h.him]
  have l := h.lt
  have g := h.gt
  have le := h.le
  exact ⟨rfl, Num.opp_may _, Num.opp_may _, Num.opp_ok h.hio, Num.opp_ok h.loo, by show x.hi.opp.val ≤ x.lo.opp.val; omega, by show x.hi.opp.val < _; omega, by show _ < x.lo.opp.val; omega⟩
theorem Iv.neg_real {x : Iv} (h : x.Real) : Iv.neg x = ⟨false, x.hi.opp, x.lo.opp⟩ := by
  rw [Iv.neg_eq, if_neg (by rw [h.good]; decide)]
  have := Iv.make_real (lo := x.hi.opp) (hi := x.lo.opp) (by rw [Num.opp_fair, Num.opp_fair]; exact h.neg)
  rw [this, Num.opp_fair, Num.opp_fair]
theorem Iv.neg_neg {a : Iv} (m : a.may = true) (ha : a.lo.ok ∧ a.hi.ok) : Iv.neg (Iv.neg a) = a := by
  cases he : a.empty with
  | true =>
    have := Iv.empty_may m he
    rw [this]; decide
  | false =>
    have r := Iv.real_of m he ha.1 ha.2
    rw [Iv.neg_real r, Iv.neg_real r.neg]
    show Iv.mk false a.lo.opp.opp a.hi.opp.opp = a
    rw [Num.opp_opp, Num.opp_opp, Num.may_fair r.lom, Num.may_fair r.him]
    cases a; simp_all

end Go.Proofs.YtpadpcjdakfokaaGreatDoor.Ev

/- Squares are within products: plain Lean. -/
namespace Go.Proofs.YtpadpcjdakfokaaGreatDoor.Ev
open Go

end Go.Proofs.YtpadpcjdakfokaaGreatDoor.Ev
