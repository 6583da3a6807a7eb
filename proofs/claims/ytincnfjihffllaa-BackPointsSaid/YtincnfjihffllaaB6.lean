/- Texts of the proof, joined: N9 N10 N11 C23 Pu20 Pu21 Pu22 Pu23 Pu24 Pu25 Pu26 -/
import Derived.Test.YtincnfjihffllaaB5
set_option linter.unusedVariables false
set_option linter.unusedSimpArgs false

/- Contracts: the quotient and the rest of limbs. Printed by gen.py. -/
namespace Go.Proofs.Ytincnfjihffllaa.Ev
open Go Go.Proofs
set_option linter.unusedVariables false
set_option linter.unusedSimpArgs false


attribute [local irreducible] Lb
theorem pred_len {y : List Int} (h : 1 ≤ y.length) (h' : y.length < 67108864) : intBinR .sub .i64 (y.length : Int) 1 = y.length - 1 := wi64_id (by omega) (by omega)
def divS (w : Int) (d : List Int) (n1 nq : Int) : Int × List Int × List Int → St := fun p => ⟨[(9, .int .i64 (.s w)), (10, .sli .u32 d), (11, .ms 2 1 (.l 0) (.s n1)), (12, .ms 3 1 (.l 0) (.s nq)), (73, .int .i64 (.s nq)), (74, .int .i64 (.s p.1))],
  [.dead, .ints true .u32 [0, 0], .ints true .u32 p.2.1, .ints true .u32 p.2.2]⟩
structure DivOK (A : Nat) (d : List Int) (qn rn : Nat) (i : Int) (R Q : List Int) : Prop where
  i0 : 0 ≤ i
  i1 : i ≤ qn
  inv : DivInv A (lv d) d.length R Q ((qn : Int) - i).toNat
  ql : Q.length = qn
  rl : R.length = rn
set_option maxHeartbeats 4000000 in
theorem c_natDiv (a b : List Int) (ha : Lb a) (hb : Lb b) (hla : a.length < 33554432) (hlb : b.length < 33554432) : ∃ t : List Int × List Int × Bool, t = (if lv b = 0 then ([], [], false) else (lim (lv a / lv b), lim (lv a % lv b), true)) ∧
    CallsA Try.prog 86 [.sli .u32 a, .sli .u32 b] (.tup [.sli .u32 t.1, .sli .u32 t.2.1, .bool (.s t.2.2)]) := by
  refine ⟨_, rfl, ?_⟩
  generalize hr : (if lv b = 0 then ([], [], false) else (lim (lv a / lv b), lim (lv a % lv b), true)) = r
  have hlx := lim_length_le' ha
  have hx := lim_lb (lv a)
  have vx := lv_lim (lv a)
  have lx := (lim_cn (lv a)).last
  have hly := lim_length_le' hb
  have hy := lim_lb (lv b)
  have vy := lv_lim (lv b)
  have ly := (lim_cn (lv b)).last
  obtain ⟨x, ex⟩ : ∃ x, lim (lv a) = x := ⟨_, rfl⟩
  obtain ⟨y, ey⟩ : ∃ y, lim (lv b) = y := ⟨_, rfl⟩
  rw [ex] at hlx hx vx lx
  rw [ey] at hly hy vy ly
  have y0 : y.length = 0 ↔ lv b = 0 := by
    rw [← ey, List.length_eq_zero_iff, lim_eq_nil]
  obtain ⟨m, em⟩ : ∃ m : Int × List Int × List Int → Nat, ∀ p, m p = (x.length + 1 - p.1).toNat := ⟨_, fun _ => rfl⟩
  obtain ⟨ok, eok⟩ : ∃ ok : List Int → Int → Nat → Nat → Int × List Int × List Int → Prop, ∀ d w qn rn p, ok d w qn rn p ↔ DivOK (lv x * 2 ^ w.toNat) d qn rn p.1 p.2.1 p.2.2 := ⟨_, fun _ _ _ _ _ => Iff.rfl⟩
  refine callsA_of hG hm Try.func86 (by kernel_rfl) ?_
  intro E hE lp hl
  cbv
  (apply E_callX hE (c_cut a ha (by omega)); (case hf => rfl); (case hc => (cbv <;> trivial)); (case hle => exact ⟨u2_sli, trivial⟩); intro x' hx'; cbv)
  (apply E_callX hE (c_cut b hb (by omega)); (case hf => rfl); (case hc => (cbv <;> trivial)); (case hle => exact ⟨u2_sli, trivial⟩); intro y' hy'; cbv)
  rw [hx'.trans ex, hy'.trans ey]
  clear hx' hy' x' y'
  refine E_br hE (fun h => ?_) (fun h => ?_)
  · have e : lv b = 0 := y0.1 (by subst hE; have := eql_t h; simp only [realE] at this; omega)
    cbv
    rw [← hr, if_pos e]
    exact ⟨rfl, rfl, rfl, trivial⟩
  have hb0 : 0 < lv b := by
    rcases Nat.eq_zero_or_pos (lv b) with e | e
    · exfalso; have := y0.2 e; subst hE; have := eql_f h; simp only [realE] at this; omega
    · exact e
  have ny : y ≠ [] := by intro e; rw [e] at vy; simp only [lv] at vy; omega
  rw [if_neg (by omega)] at hr
  (apply E_callX hE (c_natCmp x y hx hy (by omega) (by omega)); (case hf => rfl); (case hc => (cbv <;> trivial)); (case hle => exact ⟨u2_sli, u2_sli, trivial⟩); intro t ht; cbv)
  rw [vx, vy] at ht
  refine E_br hE (fun h => ?_) (fun h => ?_)
  · have hlt : lv a < lv b := by
      subst hE; have := lss_t h
      rw [ht] at this
      rcases Nat.lt_or_ge (lv a) (lv b) with h1 | h1
      · exact h1
      · rw [if_neg (by omega)] at this; split at this <;> omega
    cbv
    repeat' (first
    | (refine E_br hE (fun h => ?_) (fun h => ?_) <;> cbv)
    | (refine E_nm hE (fun v hv => ?_); cbv)
    | (refine E_nilS hE (fun b hb => ?_); cbv)
    | (apply E_callX hE (c_Clone _ ?_); (case hf => rfl); (case hc => (cbv <;> trivial)); (case hle => (repeat' (first | exact u_nil | apply u_cons | apply u2_agg | exact u2_int | exact u1_int | exact u2_bool | exact u1_bool | exact u2_sli | exact u1_sli | exact u2_s0 | exact u1_s0))); all_goals (first | (intro t ht; cbv) | (omega)))
    | fail)
    rw [← hr, Nat.div_eq_of_lt hlt, Nat.mod_eq_of_lt hlt, ex]
    exact ⟨rfl, ‹_›, rfl, trivial⟩
  have hge : lv b ≤ lv a := by
    subst hE; have := lss_f h
    rw [ht] at this
    rcases Nat.lt_or_ge (lv a) (lv b) with h1 | h1
    · rw [if_pos h1] at this; omega
    · exact h1
  refine E_br hE (fun h => ?_) (fun h => ?_)
  · have y1 : y.length = 1 := by subst hE; have := eql_t h; simp only [realE] at this; omega
    have e0 : y = [y.getD 0 0] := by
      obtain ⟨z, hz⟩ := List.length_eq_one_iff.1 y1
      rw [hz]; rfl
    have g0 := hy.getD 0
    have v0 : lv b = (y.getD 0 0).toNat := by
      rw [← vy]
      conv => lhs; rw [e0]
      simp only [lv]; omega
    have p0 : 0 < y.getD 0 0 := by omega
    cbv
    repeat' (first
    | (refine E_br hE (fun h => ?_) (fun h => ?_) <;> cbv)
    | (refine E_nm hE (fun v hv => ?_); cbv)
    | (refine E_nilS hE (fun b hb => ?_); cbv)
    | (apply E_callX hE (c_short x _ hx ?_ ?_ ?_); (case hf => rfl); (case hc => (cbv <;> trivial)); (case hle => (repeat' (first | exact u_nil | apply u_cons | apply u2_agg | exact u2_int | exact u1_int | exact u2_bool | exact u1_bool | exact u2_sli | exact u1_sli | exact u2_s0 | exact u1_s0))); all_goals (first | (intro t ht; cbv) | ((subst hE; first | omega | exact p0 | exact g0.2))))
    | fail)
    · subst hE
      have ht' : t = (lim (lv x / (y.getD 0 0).toNat), lim (lv x % (y.getD 0 0).toNat)) := ht
      rw [ht', ← hr, vx, ← v0]; exact ⟨rfl, rfl, rfl, trivial⟩
    · subst hE; have := lss_f h; simp only [realE] at this; omega
  have y2 : 2 ≤ y.length := by
    have h1 : 0 < y.length := List.length_pos_iff.2 ny
    subst hE; have := eql_f h; simp only [realE] at this; omega
  have nx : x ≠ [] := by intro e; rw [e] at vx; simp only [lv] at vx; omega
  have xy : y.length ≤ x.length := by
    rw [← ex, ← ey]
    rcases Nat.lt_or_ge (lim (lv a)).length (lim (lv b)).length with h1 | h1
    · have := lim_len_lt h1; omega
    · exact h1
  have gl := hy.getD (y.length - 1)
  have g1 : E.get y (E.bin .sub .i64 (E.len y) 1) = y.getD (y.length - 1) 0 := by
    subst hE
    show y.getD (intBinR .sub .i64 (y.length : Int) 1).toNat 0 = _
    rw [pred_len (by omega) (by omega), show ((y.length : Int) - 1).toNat = y.length - 1 by omega]
  cbv
  refine E_br hE (fun h => ?_) (fun h => ?_)
  rotate_left
  · exfalso; subst hE; have := leq_f h; change ¬ 0 ≤ intBinR .sub .i64 (y.length : Int) 1 at this; rw [pred_len (by omega) (by omega)] at this; omega
  cbv
  refine E_br hE (fun h => ?_) (fun h => ?_)
  rotate_left
  · exfalso; subst hE; have := lss_f h; change ¬ intBinR .sub .i64 (y.length : Int) 1 < (y.length : Int) at this; rw [pred_len (by omega) (by omega)] at this; omega
  cbv
  (apply E_callX hE (c_LZ32 (E.get y (E.bin .sub .i64 (E.len y) 1)) (by rw [g1]; exact gl.1) (by rw [g1]; exact gl.2)); (case hf => rfl); (case hc => (cbv <;> trivial)); (case hle => exact ⟨u2_int, trivial⟩); intro t1 ht1; cbv)
  refine E_nm hE (fun w hw => ?_)
  have ew : w = 32 - blen (y.getD (y.length - 1) 0) := by rw [hw, ht1, g1]
  have w0 := (norm_len hy ny (ly ny) ew).1
  have w1 := (norm_len hy ny (ly ny) ew).2.1
  have dl := (norm_len hy ny (ly ny) ew).2.2
  clear hw ew ht1
  cbv
  (apply E_callX hE (c_natShl y w hy (by omega)); (case hf => rfl); (case hc => (cbv <;> trivial)); (case hle => exact ⟨u2_sli, u2_int, trivial⟩); intro d hd; cbv)
  have ed : d = lim (lv y * 2 ^ w.toNat) := by
    rw [hd]
    split
    · rw [show w.toNat = 0 by omega, Nat.pow_zero, Nat.mul_one]
    · rw [if_neg (by omega)]
  have ld : Lb d := ed ▸ lim_lb _
  have vd : lv d = lv y * 2 ^ w.toNat := by rw [ed, lv_lim]
  have nd : d.length = y.length := by rw [ed]; exact dl
  have d0 : d.getD (d.length - 1) 0 ≠ 0 := by
    rw [ed]
    refine (lim_cn _).last ?_
    intro e; rw [e] at dl; simp only [List.length_nil] at dl; omega
  have ds := div_start (k := w.toNat) hx hy nx ny (lx nx) (ly ny) xy
  clear lx ly hd
  refine E_callH hE (h_Shl x w hx (by omega) (by omega) w0 (by omega)) ?_
  intro v h1 hv
  obtain ⟨L, k, hv⟩ := hv
  rw [hv.1, hv.2.1]
  have k0 := hv.2.2.1
  have k1 := hv.2.2.2.1
  have k2 := hv.2.2.2.2.1
  have k3 := hv.2.2.2.2.2
  clear hv h1 v
  have kl : k.toNat = (lim (lv x * 2 ^ w.toNat)).length := by
    have := congrArg List.length k2
    rw [List.length_take] at this; omega
  have kx : (x.length : Int) + 1 ≤ k + 2 := by
    have := ds.lenr
    simp only [List.length_replicate, List.length_append, List.length_cons, List.length_nil] at this
    omega
  have kR : k ≤ 134217728 := by omega
  have kb : (lim (lv x * 2 ^ w.toNat)).length ≤ x.length + 1 := by
    apply lim_length_le
    have h1 := lv_lt hx
    have h2 : 2 ^ w.toNat ≤ 4294967296 := two_pow_le (by omega)
    rw [Nat.pow_succ]
    have h3 : lv x * 2 ^ w.toNat ≤ lv x * 4294967296 := Nat.mul_le_mul_left _ h2
    omega
  rw [← vd, ← nd] at ds
  obtain ⟨qn, hqn⟩ : ∃ qn, qn = x.length - d.length + 1 := ⟨_, rfl⟩
  obtain ⟨rn, hrn⟩ : ∃ rn, rn = k.toNat + 2 := ⟨_, rfl⟩
  have start : DivOK (lv x * 2 ^ w.toNat) d qn rn 0 (((L.drop (0 : Int).toNat).take k.toNat) ++ [0, 0]) (List.replicate qn 0) := by
    refine ⟨Int.le_refl _, by omega, ?_, by simp, ?_⟩
    · rw [← hqn] at ds
      rw [show (0 : Int).toNat = 0 by rfl, List.drop_zero, k2, show ((qn : Int) - 0).toNat = qn by omega]
      exact ds
    · rw [show (0 : Int).toNat = 0 by rfl, List.drop_zero, k2, List.length_append, ← kl]
      rw [hrn]; rfl
  have rn1 : x.length + 1 ≤ rn := by omega
  have rn2 : rn < 67108870 := by omega
  have fin : ∀ i R Q, DivOK (lv x * 2 ^ w.toNat) d qn rn i R Q → ¬ i < qn → Lb Q ∧ Q.length = qn ∧ Lb (R.take (x.length + 1)) ∧ (R.take (x.length + 1)).length = x.length + 1 ∧ (lim (lv Q), lim (lv (R.take (x.length + 1)) / 2 ^ w.toNat), true) = r := by
    intro i R Q o hi
    have hi' : ((qn : Int) - i).toNat = 0 := by have := o.i1; omega
    have inv := o.inv
    rw [hi', vd, nd] at inv
    have rl := o.rl
    obtain ⟨f1, f2⟩ := div_stop hy ny (by omega) (m := x.length + 1) (by omega) (by omega) dl inv
    refine ⟨inv.lbq, o.ql, inv.lbr.take _, by rw [List.length_take]; omega, ?_⟩
    rw [f1, f2, vx, vy, hr]
  have nqv : intBinR .add .i64 (intBinR .sub .i64 (x.length : Int) y.length) 1 = qn := by
    have e : intBinR .sub .i64 (x.length : Int) y.length = x.length - y.length := wi64_id (by omega) (by omega)
    have e2 : intBinR .add .i64 ((x.length : Int) - y.length) 1 = x.length - y.length + 1 := wi64_id (by omega) (by omega)
    rw [e, e2, hqn]; omega
  have n1v : intBinR .add .i64 (x.length : Int) 1 = (x.length + 1 : Nat) := by
    have e2 : intBinR .add .i64 (x.length : Int) 1 = x.length + 1 := wi64_id (by omega) (by omega)
    rw [e2]; rfl
  have qn1 : qn < 67108864 := by omega
  have d2 : 2 ≤ d.length := by omega
  have dx : d.length ≤ x.length := by omega
  have xyI : (y.length : Int) ≤ x.length := by omega
  have y2I : (2 : Int) ≤ y.length := by omega
  have xI : (x.length : Int) < 33554432 := by omega
  cbv
  repeat' (first
    | (refine E_br hE (fun h => ?_) (fun h => ?_) <;> cbv)
    | (refine E_nm hE (fun v hv => ?_); cbv)
    | (refine E_nilS hE (fun b hb => ?_); cbv)
    | fail)
  all_goals (try (exfalso; clear start ds dl d0 kl k2 ed vd fin nqv n1v; subst hE; simp only [NatCast.natCast, Int.ofNat_eq_natCast, realE, cmp_eql, cmp_neq, cmp_lss, cmp_leq, cmp_gtr, cmp_geq, intBinR, decide_eq_true_eq, decide_eq_false_iff_not, SI.val, SB.val, Num.eta, Iv.eta] at *; (try simp only [wi64] at *); omega))
  clear ds dl kl k2 ed vd g1 gl k0 k1 k3 kx kR kb
  refine E_loop hE hG hm hl (divS w d (E.bin .add .i64 (E.len x) 1) (E.bin .add .i64 (E.bin .sub .i64 (E.len x) (E.len y)) 1)) m (ok d w qn rn)
    ⟨(0, E.app (E.sub L 0 k) (E.sub [0, 0] 0 (Int.ofNat 2)), E.rep (E.bin .add .i64 (E.bin .sub .i64 (E.len x) (E.len y)) 1)), (eok _ _ _ _ _).2 ?_, stLe rfl ?_⟩ ?_
  · subst hE
    have e : (realE Try.prog).bin .add .i64 ((realE Try.prog).bin .sub .i64 ((realE Try.prog).len x) ((realE Try.prog).len y)) 1 = (qn : Int) := nqv
    rw [e]
    exact start
  · (repeat' (first | exact t_nil | apply t_cons | exact u2_sli | exact u2_int | exact u2_bool | exact u2_ms | exact u2_ptr | exact (rfl : sle2 .s0 .s0)))
  clear start
  rintro ⟨i, R, Q⟩ hok
  have o : DivOK (lv x * 2 ^ w.toNat) d qn rn i R Q := (eok _ _ _ _ _).1 hok
  have fin' := fin i R Q o
  have i0 := o.i0
  have i1 := o.i1
  clear hok fin ht
  cbv
  repeat' (first
    | (refine E_br hE (fun h => ?_) (fun h => ?_) <;> cbv)
    | (refine E_nm hE (fun v hv => ?_); cbv)
    | (refine E_nilS hE (fun b hb => ?_); cbv)
    | fail)
  all_goals (try (exfalso; clear fin' em eok o nqv n1v; subst hE; simp only [NatCast.natCast, Int.ofNat_eq_natCast, realE, cmp_eql, cmp_neq, cmp_lss, cmp_leq, cmp_gtr, cmp_geq, intBinR, decide_eq_true_eq, decide_eq_false_iff_not, SI.val, SB.val, Num.eta, Iv.eta] at *; (try simp only [wi64] at *); omega))
  rotate_left
  · simp only [NatCast.natCast, Int.ofNat_eq_natCast] at nqv n1v
    have hge : ¬ i < (qn : Int) := by
      subst hE
      have q : ¬ i < intBinR .add .i64 (intBinR .sub .i64 (x.length : Int) y.length) 1 := lss_f h
      rw [nqv] at q
      exact q
    have f1 := (fin' hge).1
    have f2 := (fin' hge).2.1
    have f3 := (fin' hge).2.2.1
    have f4 := (fin' hge).2.2.2.1
    have f5 := (fin' hge).2.2.2.2
    have e1 : E.sub Q 0 (E.bin .add .i64 (E.bin .sub .i64 (E.len x) (E.len y)) 1) = Q := by
      subst hE
      show (Q.drop (0 : Int).toNat).take (intBinR .add .i64 (intBinR .sub .i64 (x.length : Int) y.length) 1).toNat = Q
      rw [nqv]
      exact sub_all (by rw [f2])
    have e2 : E.sub R 0 (E.bin .add .i64 (E.len x) 1) = R.take (x.length + 1) := by
      subst hE
      show (R.drop (0 : Int).toNat).take (intBinR .add .i64 (x.length : Int) 1).toNat = _
      rw [n1v, Int.toNat_natCast]; rfl
    clear fin' o em eok
    (apply E_callX hE (c_cut (E.sub Q 0 (E.bin .add .i64 (E.bin .sub .i64 (E.len x) (E.len y)) 1)) (by rw [e1]; exact f1) (by rw [e1, f2]; omega)); (case hf => rfl); (case hc => (cbv <;> trivial)); (case hle => exact ⟨u2_sli, trivial⟩); intro q hq; cbv)
    (apply E_callX hE (c_natShr (E.sub R 0 (E.bin .add .i64 (E.len x) 1)) w (by rw [e2]; exact f3) (by rw [e2, f4]; omega)); (case hf => rfl); (case hc => (cbv <;> trivial)); (case hle => exact ⟨u2_sli, u2_int, trivial⟩); intro q2 hq2; cbv)
    rw [← f5]
    rw [e1] at hq
    rw [e2] at hq2
    exact ⟨hq, hq2, rfl, trivial⟩
  rename_i i' ei at_ eat _ _ _ _ _ _ _ _ _
  simp only [NatCast.natCast, Int.ofNat_eq_natCast] at nqv n1v xyI y2I xI
  have hi : i < (qn : Int) := by
    subst hE
    have q : i < intBinR .add .i64 (intBinR .sub .i64 (x.length : Int) y.length) 1 := lss_t ‹(realE Try.prog).cmp .lss i _ = true›
    rw [nqv] at q
    exact q
  have nqE : E.bin .add .i64 (E.bin .sub .i64 (E.len x) (E.len y)) 1 = qn := by subst hE; exact nqv
  have n1E : E.bin .add .i64 (E.len x) 1 = (x.length + 1 : Nat) := by subst hE; exact n1v
  have hat : at_ = qn - 1 - i := by
    rw [nqE] at eat
    subst hE
    rw [← o.ql] at eat ⊢
    exact div_at (by rw [o.ql]; omega) o.i0 (by rw [o.ql]; exact hi) ei eat
  have i0 := o.i0
  have a0 : 0 ≤ at_ := by omega
  have a1 : at_ < Q.length := by rw [o.ql]; omega
  have a2 : at_ + d.length < ((x.length + 1 : Nat) : Int) := by omega
  have a3 : ((x.length + 1 : Nat) : Int) ≤ R.length := by rw [o.rl]; omega
  have a4 : R.length < 134217728 := by rw [o.rl]; omega
  have inv : DivInv (lv x * 2 ^ w.toNat) (lv d) d.length R Q (at_.toNat + 1) := by
    have := o.inv
    rwa [show ((qn : Int) - i).toNat = at_.toNat + 1 by omega] at this
  have etop := hv
  have dg : GuessIn (E.get R v) (E.get R (E.bin .sub .i64 v 1)) (E.get R (E.bin .sub .i64 v 2)) (E.get d (E.bin .sub .i64 (E.len d) 1)) (E.get d (E.bin .sub .i64 (E.len d) 2)) ∧
      guessQ (E.get R v) (E.get R (E.bin .sub .i64 v 1)) (E.get R (E.bin .sub .i64 v 2)) (E.get d (E.bin .sub .i64 (E.len d) 1)) (E.get d (E.bin .sub .i64 (E.len d) 2)) =
        guessQ (R.getD (at_.toNat + d.length) 0) (R.getD (at_.toNat + d.length - 1) 0) (R.getD (at_.toNat + d.length - 2) 0) (d.getD (d.length - 1) 0) (d.getD (d.length - 2) 0) := by
    subst hE
    exact div_guess inv ld d2 d0 a4 a0 a1 etop
  have gq := guessQ_ok dg.1
  (apply E_pcallX hE (c_guess _ _ _ _ _ dg.1); (case hm => rfl); (case hle => exact ⟨u2_int, u2_int, u2_int, u2_int, u2_int, trivial⟩); intro g hg)
  have g0 : 0 ≤ g ∧ g < 4294967296 := by rw [hg]; exact ⟨gq.q0, by have := gq.q1; omega⟩
  have eg := hg.trans dg.2
  clear dg gq hg
  have j1 : ∀ j, j = intBinR .add .i64 i 1 → j = i + 1 := fun j e => e.trans (wi64_id (by omega) (by omega))
  have lbR := inv.lbr
  have next : ∀ (j : Int) (r' : List Int) (g' : Int), j = intBinR .add .i64 i 1 → r'.length = R.length → DivInv (lv x * 2 ^ w.toNat) (lv d) d.length r' (Q.set at_.toNat g') at_.toNat →
      m (j, r', Q.set at_.toNat g') < m (i, R, Q) ∧ ok d w qn rn (j, r', Q.set at_.toNat g') := by
    intro j r' g' ej hl hi'
    have ej := j1 j ej
    refine ⟨by rw [em, em]; show ((x.length : Int) + 1 - j).toNat < ((x.length : Int) + 1 - i).toNat; omega, (eok _ _ _ _ _).2 ⟨by show 0 ≤ j; omega, by show j ≤ (qn : Int); omega, ?_, by rw [List.length_set]; exact o.ql, hl.trans o.rl⟩⟩
    show DivInv _ _ _ _ _ ((qn : Int) - j).toNat
    rw [show ((qn : Int) - j).toNat = at_.toNat by omega]
    exact hi'
  have n1a : at_ + d.length < E.bin .add .i64 (E.len x) 1 := by rw [n1E]; exact a2
  have n1b : E.bin .add .i64 (E.len x) 1 ≤ R.length := by rw [n1E]; exact a3
  have a5 : at_ + d.length < R.length := by omega
  have aq : at_ < E.bin .add .i64 (E.bin .sub .i64 (E.len x) (E.len y)) 1 := by rw [nqE]; omega
  cbv
  refine E_nm hE (fun g' hg' => ?_)
  rw [hg']
  clear hg' g'
  cbv
  refine E_callH hE (h_less d [0, 0] R Q g at_ (E.bin .add .i64 (E.len x) 1) ld lbR g0 a4 a0 a5 n1a n1b) ?_
  intro v1 h1 hv1
  obtain ⟨r1, bb, hv1⟩ := hv1
  have lr := hv1.2.2
  rw [hv1.1, hv1.2.1]
  clear hv1 v1 h1
  refine E_br hE (fun hb1 => ?_) (fun hb1 => ?_)
  · have lr1 : LessR R d g at_.toNat r1 true := hb1 ▸ lr
    have l1 := lr1.len
    cbv
    refine E_nm hE (fun g' hg' => ?_)
    cbv
    refine E_callH hE (h_more d [0, 0] r1 Q at_ (E.bin .add .i64 (E.len x) 1) ld lr1.lb (by rw [l1]; exact a4) a0 (by rw [l1]; exact a5) n1a (by rw [l1]; exact n1b)) ?_
    intro v1 h1 hv1
    obtain ⟨r2, hv1⟩ := hv1
    have mr := hv1.2.2
    rw [hv1.1, hv1.2.1]
    clear hv1 v1 h1
    have dn := fun e => div_less inv ld d2 d0 a0 a1 eg lr1 mr (g' := g') e
    have l2 := mr.len.trans l1
    cbv
    repeat' (first
    | (refine E_br hE (fun h => ?_) (fun h => ?_) <;> cbv)
    | (refine E_nm hE (fun v hv => ?_); cbv)
    | (refine E_nilS hE (fun b hb => ?_); cbv)
    | fail)
    all_goals (try refine ⟨(E.bin .add .i64 i 1, r2, E.set Q at_ g'), ?_, ?_, stLe rfl ?_⟩)
    all_goals (try ((repeat' (first | exact t_nil | apply t_cons | exact u2_sli | exact u2_int | exact u2_bool | exact u2_ms | exact u2_ptr | exact (rfl : sle2 .s0 .s0))); done))
    all_goals (subst hE)
    · exact (next _ r2 g' rfl l2 (dn hg')).1
    · exact (next _ r2 g' rfl l2 (dn hg')).2
    all_goals (first | exact absurd a0 (leq_f h) | exact absurd aq (lss_f h))
  · have lr1 : LessR R d g at_.toNat r1 false := hb1 ▸ lr
    have dn := div_same inv ld d2 d0 a0 a1 eg lr1
    have l1 := lr1.len
    cbv
    repeat' (first
    | (refine E_br hE (fun h => ?_) (fun h => ?_) <;> cbv)
    | (refine E_nm hE (fun v hv => ?_); cbv)
    | (refine E_nilS hE (fun b hb => ?_); cbv)
    | fail)
    all_goals (try refine ⟨(E.bin .add .i64 i 1, r1, E.set Q at_ g), ?_, ?_, stLe rfl ?_⟩)
    all_goals (try ((repeat' (first | exact t_nil | apply t_cons | exact u2_sli | exact u2_int | exact u2_bool | exact u2_ms | exact u2_ptr | exact (rfl : sle2 .s0 .s0))); done))
    all_goals (subst hE)
    · exact (next _ r1 g rfl l1 dn).1
    · exact (next _ r1 g rfl l1 dn).2
    all_goals (first | exact absurd a0 (leq_f h) | exact absurd aq (lss_f h))
  all_goals trace_state

end Go.Proofs.Ytincnfjihffllaa.Ev

/- Contracts: the root of limbs. Printed by gen.py. -/
namespace Go.Proofs.Ytincnfjihffllaa.Ev
open Go Go.Proofs
set_option linter.unusedVariables false
set_option linter.unusedSimpArgs false


attribute [local irreducible] Lb
set_option maxHeartbeats 2000000 in
theorem c_natRoot (a : List Int) (ha : Lb a) (hla : a.length < 524288) : ∃ t : List Int × Bool, t = (lim (nsqrt (lv a)), decide (nsqrt (lv a) * nsqrt (lv a) = lv a)) ∧
    CallsA Try.prog 74 [.sli .u32 a] (.tup [.sli .u32 t.1, .bool (.s t.2)]) := by
  refine ⟨_, rfl, ?_⟩
  generalize hr : (lim (nsqrt (lv a)), decide (nsqrt (lv a) * nsqrt (lv a) = lv a)) = r
  have hlx := lim_length_le' ha
  have hx := lim_lb (lv a)
  have vx := lv_lim (lv a)
  obtain ⟨x, ex⟩ : ∃ x, lim (lv a) = x := ⟨_, rfl⟩
  rw [ex] at hlx hx vx
  rw [← vx] at hr ex
  have xx : lim (lv x) = x := ex
  have xl : x.length < 524288 := by omega
  obtain ⟨m, em⟩ : ∃ m : Nat → Nat, ∀ s, m s = s := ⟨_, fun _ => rfl⟩
  obtain ⟨ok, eok⟩ : ∃ ok : Nat → Prop, ∀ s, ok s ↔ 0 < lv x ∧ RootOK (lv x) (2 ^ ((blen (lv x) + 1) / 2).toNat) s := ⟨_, fun _ => Iff.rfl⟩
  refine callsA_of hG hm Try.func74 (by kernel_rfl) ?_
  intro E hE lp hl
  cbv
  refine E_scope hE hG hm hl 0 rfl (fun s : Nat => (⟨[(0, .sli .u32 x), (5, .sli .u32 (lim s))], [.ints false .u32 [1]]⟩ : St)) m ok ?_ ?_
  · cbv
    (apply E_callX hE (c_cut a ha (by omega)); (case hf => rfl); (case hc => (cbv <;> trivial)); (case hle => exact ⟨u2_sli, trivial⟩); intro x' hx'; cbv)
    have hx2 : x' = x := by rw [hx', ← vx, xx]
    rw [hx2]
    clear hx' hx2 x'
    repeat' (first
    | (refine E_br hE (fun h => ?_) (fun h => ?_) <;> cbv)
    | (refine E_nm hE (fun v hv => ?_); cbv)
    | (refine E_nilS hE (fun b hb => ?_); cbv)
    | fail)
    · have e0 : x = [] := List.length_eq_zero_iff.1 (by subst hE; have := eql_t h; simp only [realE] at this; omega)
      rw [← hr, e0]
      exact ⟨rfl, rfl, trivial⟩
    have apos : 0 < lv x := by
      rcases Nat.eq_zero_or_pos (lv x) with h0 | h0
      · exfalso
        rw [h0] at xx
        have : x.length = 0 := by rw [← xx]; rfl
        subst hE; have := eql_f h; simp only [realE] at this; omega
      · exact h0
    have n1 := (root_first hx xl apos).1
    have n2 := (root_first hx xl apos).2.1
    have o := (root_first hx xl apos).2.2
    have n16 : ((blen (lv x : Int) + 1) / 2).toNat ≤ 16777216 := by omega
    (apply E_callX hE (c_natLen x hx (by omega)); (case hf => rfl); (case hc => (cbv <;> trivial)); (case hle => exact ⟨u2_sli, trivial⟩); intro t ht; cbv)
    simp only [NatCast.natCast, Int.ofNat_eq_natCast] at ht n1 n2
    have en : E.bin .quo .i64 (E.bin .add .i64 t 1) 2 = (blen (lv x : Int) + 1) / 2 := by
      subst hE
      show IntKind.i64.wrap ((IntKind.i64.wrap (t + 1)).tdiv 2) = _
      rw [ht, wi64_id (n := blen (lv x : Int) + 1) (by omega) (by omega), Int.tdiv_eq_ediv_of_nonneg (by omega), wi64_id (by omega) (by omega)]
    have l1 : Lb [1] := Lb.cons (by omega) (by omega) Lb.nil
    have es1 : E.sub [1] 0 (Int.ofNat 1) = [1] := by subst hE; rfl
    (apply E_callX hE (c_natShl (E.sub [1] 0 (Int.ofNat 1)) (E.bin .quo .i64 (E.bin .add .i64 t 1) 2) (by rw [es1]; exact l1) (by rw [es1]; decide)); (case hf => rfl); (case hc => (cbv <;> trivial)); (case hle => exact ⟨u2_sli, u2_int, trivial⟩); intro y hy; cbv)
    obtain ⟨s, es⟩ : ∃ s, s = 2 ^ ((blen (lv x : Int) + 1) / 2).toNat := ⟨_, rfl⟩
    have ey : y = lim s := by
      rw [hy, es1, en, if_neg (by omega), if_neg (by omega), es]
      congr 1
      simp [lv]
    rw [ey]
    clear hy ey y
    have o : RootOK (lv x) (2 ^ ((blen (lv x : Int) + 1) / 2).toNat) s := by rw [es]; exact o
    clear es
    cbv

    (apply E_callX hE (c_natDiv x (lim s) hx (lim_lb s) (by omega) (by have := o.len rfl n16; omega)); (case hf => rfl); (case hc => (cbv <;> trivial)); (case hle => exact ⟨u2_sli, u2_sli, trivial⟩); intro t ht; cbv)
    have e1 : t.1 = lim (lv x / s) := by rw [ht, lv_lim, if_neg (by have := o.pos; omega)]
    have b1 : t.1.length ≤ 524289 := by rw [e1]; have := lim_mono (Nat.div_le_self (lv x) s); rw [xx] at this; omega
    (apply E_callX hE (c_natAdd (lim s) t.1 (lim_lb s) (by rw [e1]; exact lim_lb _) (by have := o.len rfl n16; omega) (by omega)); (case hf => rfl); (case hc => (cbv <;> trivial)); (case hle => exact ⟨u2_sli, u2_sli, trivial⟩); intro u hu; cbv)
    have e2 : u = lim (s + lv x / s) := by rw [hu, e1, lv_lim, lv_lim]
    have b2 : u.length ≤ 524290 := by rw [e2]; exact lim_add_len (o.len rfl n16) (e1 ▸ b1)
    (apply E_callX hE (c_natShr u 1 (by rw [e2]; exact lim_lb _) (by omega)); (case hf => rfl); (case hc => (cbv <;> trivial)); (case hle => exact ⟨u2_sli, u2_int, trivial⟩); intro v hv; cbv)
    have e3 : v = lim ((s + lv x / s) / 2) := by rw [hv, e2, lv_lim]; rfl
    have b3 : v.length ≤ 524290 := by rw [e3]; have := lim_mono (Nat.div_le_self (s + lv x / s) 2); rw [← e2] at this; omega
    (apply E_callX hE (c_natCmp v (lim s) (by rw [e3]; exact lim_lb _) (lim_lb s) (by omega) (by have := o.len rfl n16; omega)); (case hf => rfl); (case hc => (cbv <;> trivial)); (case hle => exact ⟨u2_sli, u2_sli, trivial⟩); intro c hc; cbv)
    have e4 : c < 0 ↔ (s + lv x / s) / 2 < s := by
      rw [hc, e3, lv_lim, lv_lim]
      constructor
      · intro h
        rcases Nat.lt_or_ge ((s + lv x / s) / 2) s with h1 | h1
        · exact h1
        · rw [if_neg (by omega)] at h; split at h <;> omega
      · intro h; rw [if_pos h]; decide
    refine E_br hE (fun h => ?_) (fun h => ?_)
    · have hlt : (s + lv x / s) / 2 < s := e4.1 (by subst hE; exact lss_t h)
      cbv
      exact ⟨(s + lv x / s) / 2, (eok _).2 ⟨apos, o.next apos hlt⟩, by rw [← e3]; exact stLe rfl (by (repeat' (first | exact t_nil | apply t_cons | exact u2_sli | exact u2_int | exact u2_bool | exact u2_ms | exact u2_ptr | exact (rfl : sle2 .s0 .s0))))⟩
    · have hst : nsqrt (lv x) = s := o.stop (fun hlt => by have := e4.2 hlt; subst hE; exact lss_f h this)
      have lm : (lim (s * s)).length ≤ 1048578 := by have := lim_mul_len (m := s) (n := s); have := o.len rfl n16; omega
      cbv
      (apply E_callX hE (c_natMul (lim s) (lim s) (lim_lb s) (lim_lb s) (by have := o.len rfl n16; omega) (by have := o.len rfl n16; omega)); (case hf => rfl); (case hc => (cbv <;> trivial)); (case hle => exact ⟨u2_sli, u2_sli, trivial⟩); intro p hp; cbv)
      have e5 : p = lim (s * s) := by rw [hp, lv_lim]
      (apply E_callX hE (c_natCmp p x (by rw [e5]; exact lim_lb _) hx (by rw [e5]; omega) (by omega)); (case hf => rfl); (case hc => (cbv <;> trivial)); (case hle => exact ⟨u2_sli, u2_sli, trivial⟩); intro c2 hc2; cbv)
      repeat' (first
    | (refine E_br hE (fun h => ?_) (fun h => ?_) <;> cbv)
    | (refine E_nm hE (fun v hv => ?_); cbv)
    | (refine E_nilS hE (fun b hb => ?_); cbv)
    | fail)
      rw [← hr, hst]
      refine ⟨rfl, ?_, trivial⟩
      subst hE
      show decide (c2 = 0) = decide (s * s = lv x)
      rw [hc2, e5, lv_lim]
      apply decide_eq_decide.2
      constructor
      · intro h
        rcases Nat.lt_trichotomy (s * s) (lv x) with h1 | h1 | h1
        · rw [if_pos h1] at h; omega
        · exact h1
        · rw [if_neg (by omega), if_pos h1] at h; omega
      · intro h; rw [if_neg (by omega), if_neg (by omega)]

  · intro s hs
    have apos : 0 < lv x := ((eok s).1 hs).1
    have o := ((eok s).1 hs).2
    have n16 : ((blen (lv x : Int) + 1) / 2).toNat ≤ 16777216 := by have := (root_first hx xl apos).2.1; omega
    cbv

    (apply E_callX hE (c_natDiv x (lim s) hx (lim_lb s) (by omega) (by have := o.len rfl n16; omega)); (case hf => rfl); (case hc => (cbv <;> trivial)); (case hle => exact ⟨u2_sli, u2_sli, trivial⟩); intro t ht; cbv)
    have e1 : t.1 = lim (lv x / s) := by rw [ht, lv_lim, if_neg (by have := o.pos; omega)]
    have b1 : t.1.length ≤ 524289 := by rw [e1]; have := lim_mono (Nat.div_le_self (lv x) s); rw [xx] at this; omega
    (apply E_callX hE (c_natAdd (lim s) t.1 (lim_lb s) (by rw [e1]; exact lim_lb _) (by have := o.len rfl n16; omega) (by omega)); (case hf => rfl); (case hc => (cbv <;> trivial)); (case hle => exact ⟨u2_sli, u2_sli, trivial⟩); intro u hu; cbv)
    have e2 : u = lim (s + lv x / s) := by rw [hu, e1, lv_lim, lv_lim]
    have b2 : u.length ≤ 524290 := by rw [e2]; exact lim_add_len (o.len rfl n16) (e1 ▸ b1)
    (apply E_callX hE (c_natShr u 1 (by rw [e2]; exact lim_lb _) (by omega)); (case hf => rfl); (case hc => (cbv <;> trivial)); (case hle => exact ⟨u2_sli, u2_int, trivial⟩); intro v hv; cbv)
    have e3 : v = lim ((s + lv x / s) / 2) := by rw [hv, e2, lv_lim]; rfl
    have b3 : v.length ≤ 524290 := by rw [e3]; have := lim_mono (Nat.div_le_self (s + lv x / s) 2); rw [← e2] at this; omega
    (apply E_callX hE (c_natCmp v (lim s) (by rw [e3]; exact lim_lb _) (lim_lb s) (by omega) (by have := o.len rfl n16; omega)); (case hf => rfl); (case hc => (cbv <;> trivial)); (case hle => exact ⟨u2_sli, u2_sli, trivial⟩); intro c hc; cbv)
    have e4 : c < 0 ↔ (s + lv x / s) / 2 < s := by
      rw [hc, e3, lv_lim, lv_lim]
      constructor
      · intro h
        rcases Nat.lt_or_ge ((s + lv x / s) / 2) s with h1 | h1
        · exact h1
        · rw [if_neg (by omega)] at h; split at h <;> omega
      · intro h; rw [if_pos h]; decide
    refine E_br hE (fun h => ?_) (fun h => ?_)
    · have hlt : (s + lv x / s) / 2 < s := e4.1 (by subst hE; exact lss_t h)
      cbv
      exact ⟨(s + lv x / s) / 2, by rw [em, em]; exact hlt, (eok _).2 ⟨apos, o.next apos hlt⟩, by rw [← e3]; exact stLe rfl (by (repeat' (first | exact t_nil | apply t_cons | exact u2_sli | exact u2_int | exact u2_bool | exact u2_ms | exact u2_ptr | exact (rfl : sle2 .s0 .s0))))⟩
    · have hst : nsqrt (lv x) = s := o.stop (fun hlt => by have := e4.2 hlt; subst hE; exact lss_f h this)
      have lm : (lim (s * s)).length ≤ 1048578 := by have := lim_mul_len (m := s) (n := s); have := o.len rfl n16; omega
      cbv
      (apply E_callX hE (c_natMul (lim s) (lim s) (lim_lb s) (lim_lb s) (by have := o.len rfl n16; omega) (by have := o.len rfl n16; omega)); (case hf => rfl); (case hc => (cbv <;> trivial)); (case hle => exact ⟨u2_sli, u2_sli, trivial⟩); intro p hp; cbv)
      have e5 : p = lim (s * s) := by rw [hp, lv_lim]
      (apply E_callX hE (c_natCmp p x (by rw [e5]; exact lim_lb _) hx (by rw [e5]; omega) (by omega)); (case hf => rfl); (case hc => (cbv <;> trivial)); (case hle => exact ⟨u2_sli, u2_sli, trivial⟩); intro c2 hc2; cbv)
      repeat' (first
    | (refine E_br hE (fun h => ?_) (fun h => ?_) <;> cbv)
    | (refine E_nm hE (fun v hv => ?_); cbv)
    | (refine E_nilS hE (fun b hb => ?_); cbv)
    | fail)
      rw [← hr, hst]
      refine ⟨rfl, ?_, trivial⟩
      subst hE
      show decide (c2 = 0) = decide (s * s = lv x)
      rw [hc2, e5, lv_lim]
      apply decide_eq_decide.2
      constructor
      · intro h
        rcases Nat.lt_trichotomy (s * s) (lv x) with h1 | h1 | h1
        · rw [if_pos h1] at h; omega
        · exact h1
        · rw [if_neg (by omega), if_pos h1] at h; omega
      · intro h; rw [if_neg (by omega), if_neg (by omega)]


end Go.Proofs.Ytincnfjihffllaa.Ev

/- Contracts: words and limbs. Printed by gen.py. -/
namespace Go.Proofs.Ytincnfjihffllaa.Ev
open Go Go.Proofs
set_option linter.unusedVariables false
set_option linter.unusedSimpArgs false


attribute [local irreducible] Lb
theorem word_next {a : List Int} {i n : Int} (ha : Lb a) (hl : a.length ≤ 2) (h1 : 0 ≤ i) (h2 : i < a.length) (hn : n = lv (a.take i.toNat)) {i' x v j : Int} (ei : i' = i) (ex : x = a.getD i.toNat 0)
    (ev : v = intBinR .or .u64 n (intBinR .shl .u64 (IntKind.u64.wrap x) (intBinR .mul .i64 32 i'))) (ej : j = intBinR .add .i64 i 1) :
    0 ≤ j ∧ j ≤ a.length ∧ ((a.length : Int) - j).toNat < ((a.length : Int) - i).toNat ∧ v = lv (a.take j.toNat) := by
  subst ei
  have hx := ha.getD i'.toNat
  have ej' : j = i' + 1 := by rw [ej]; show IntKind.i64.wrap (i' + 1) = _; rw [wi64_id (by omega) (by omega)]
  refine ⟨by omega, by omega, by omega, ?_⟩
  rw [ej', show (i' + 1).toNat = i'.toNat + 1 by omega, lv_take_succ (by omega), ← ex]
  rw [← ex] at hx
  rw [wu64_id hx.1 (by omega)] at ev
  rcases (show i' = 0 ∨ i' = 1 by omega) with rfl | rfl
  · have e0 : n = 0 := by rw [hn]; rfl
    have e1 : intBinR .shl .u64 x (intBinR .mul .i64 32 0) = x := by
      show IntKind.u64.wrap (x * 2 ^ min (IntKind.i64.wrap (32 * 0)).toNat IntKind.u64.bits) = _
      rw [show min (IntKind.i64.wrap (32 * 0)).toNat IntKind.u64.bits = 0 by decide, wu64]
      simp only [Int.pow_zero, Int.mul_one]
      omega
    rw [e1, e0] at ev
    have e2 : intBinR .or .u64 0 x = 0 + 2 ^ 0 * x := by
      have := or64 (l := x) (m := 0) hx.1 hx.2 (by omega) (by omega)
      show IntKind.u64.wrap ((BitVec.ofInt 64 0 ||| BitVec.ofInt 64 x).toNat : Int) = _
      rw [BitVec.or_comm]
      simp only [Int.zero_mul] at this
      rw [this]; omega
    rw [ev, e2, show (Int.toNat 0) = 0 by rfl, List.take_zero]
    simp only [lv, Nat.pow_zero]
    omega
  · have hn0 : 0 ≤ n ∧ n < 4294967296 := by
      have := lv_take_lt ha 1 (by omega)
      rw [show (1 : Int).toNat = 1 by rfl] at hn
      omega
    have e1 : intBinR .shl .u64 x (intBinR .mul .i64 32 1) = x * 4294967296 := by
      show IntKind.u64.wrap (x * 2 ^ min (IntKind.i64.wrap (32 * 1)).toNat IntKind.u64.bits) = _
      rw [show min (IntKind.i64.wrap (32 * 1)).toNat IntKind.u64.bits = 32 by decide, wu64]
      have : (2 : Int) ^ 32 = 4294967296 := by decide
      rw [this]; omega
    rw [e1] at ev
    have e2 : intBinR .or .u64 n (x * 4294967296) = n + x * 4294967296 := or64 hn0.1 hn0.2 hx.1 hx.2
    rw [ev, e2, show (Int.toNat 1) = 1 by rfl]
    rw [show (1 : Int).toNat = 1 by rfl] at hn
    rw [hn]
    omega

def wordS (E : Env) (a : List Int) : Int × Int → St := fun p => ⟨[(3, .int .u64 (.s p.2)), (6, .sli .u32 a), (7, .int .i64 (.s (E.len a))), (8, .int .i64 (.s p.1))], []⟩
theorem c_word (a : List Int) (ha : Lb a) (hl : a.length ≤ 2) : ∃ t : Int, t = lv a ∧ CallsA Try.prog 77 [.sli .u32 a] (.int .u64 (.s t)) := by
  refine ⟨_, rfl, ?_⟩
  generalize hr : (lv a : Int) = r
  obtain ⟨m, em⟩ : ∃ m : Int × Int → Nat, ∀ p, m p = (a.length - p.1).toNat := ⟨_, fun _ => rfl⟩
  obtain ⟨ok, eok⟩ : ∃ ok : Int × Int → Prop, ∀ p, ok p ↔ 0 ≤ p.1 ∧ p.1 ≤ a.length ∧ p.2 = lv (a.take p.1.toNat) := ⟨_, fun _ => Iff.rfl⟩
  refine callsA_of hG hm Try.func77 (by kernel_rfl) ?_
  intro E hE lp hl'
  cbv
  repeat' (first
    | (refine E_br hE (fun h => ?_) (fun h => ?_) <;> cbv)
    | (refine E_nm hE (fun v hv => ?_); cbv)
    | (refine E_nilS hE (fun b hb => ?_); cbv)
    | fail)
  refine E_loop hE hG hm hl' (wordS E a) m ok ⟨(0, 0), (eok _).2 ⟨by show (0 : Int) ≤ 0; omega, by show (0 : Int) ≤ a.length; omega, rfl⟩, stLe rfl ?_⟩ ?_
  · (repeat' (first | exact t_nil | apply t_cons | exact u2_sli | exact u2_int | exact u2_bool | exact u2_ms | exact u2_ptr | exact (rfl : sle2 .s0 .s0)))
  rintro ⟨i, n⟩ hok
  have h1 : 0 ≤ i := ((eok _).1 hok).1
  have h2 : i ≤ a.length := ((eok _).1 hok).2.1
  have hn : n = lv (a.take i.toNat) := ((eok _).1 hok).2.2
  have fin : ¬ i < a.length → n = r := by
    intro h
    rw [hn, show i.toNat = a.length by omega, List.take_length]; exact hr
  clear hok
  cbv
  repeat' (first
    | (refine E_br hE (fun h => ?_) (fun h => ?_) <;> cbv)
    | (refine E_nm hE (fun v hv => ?_); cbv)
    | (refine E_nilS hE (fun b hb => ?_); cbv)
    | fail)
  all_goals (try refine ⟨(E.bin .add .i64 i 1, v), ?_, ?_, stLe rfl ?_⟩)
  all_goals (try ((repeat' (first | exact t_nil | apply t_cons | exact u2_sli | exact u2_int | exact u2_bool | exact u2_ms | exact u2_ptr | exact (rfl : sle2 .s0 .s0))); done))
  all_goals (subst hE)
  all_goals (try (first
    | (rw [em, em]; exact (word_next ha hl h1 (lss_t ‹_›) hn ‹_ = i› ‹_› ‹_› rfl).2.2.1)
    | (rw [eok]; have q := word_next ha hl h1 (lss_t ‹_›) hn ‹_ = i› ‹_› ‹_› rfl; exact ⟨q.1, q.2.1, q.2.2.2⟩)
    | exact fin (lss_f ‹_›)
    | exact ‹_ = n›.trans (fin (lss_f ‹_›))))
  all_goals (clear fin eok em hn; simp only [NatCast.natCast, Int.ofNat_eq_natCast, realE, cmp_eql, cmp_neq, cmp_lss, cmp_leq, cmp_gtr, cmp_geq, intBinR, decide_eq_true_eq, decide_eq_false_iff_not, SI.val, SB.val, Num.eta, Iv.eta] at *; (try simp only [wi64] at *); omega)

theorem c_limbs (m : Int) (h0 : 0 ≤ m) (h1 : m < 18446744073709551616) : ∃ t : List Int, t = [m % 4294967296, m / 4294967296] ∧ CallsA Try.prog 76 [.int .u64 (.s m)] (.sli .u32 t) := by
  refine ⟨_, rfl, ?_⟩
  generalize hr : [m % 4294967296, m / 4294967296] = r
  refine callsA_of hG hm Try.func76 (by kernel_rfl) ?_
  intro E hE lp hl'
  cbv
  repeat' (first
    | (refine E_br hE (fun h => ?_) (fun h => ?_) <;> cbv)
    | (refine E_nm hE (fun v hv => ?_); cbv)
    | (refine E_nilS hE (fun b hb => ?_); cbv)
    | fail)
  rw [← hr]
  subst hE
  have e1 : intBinR .shr .u64 m 32 = m / 4294967296 := shr32 m
  show [IntKind.u32.wrap m, IntKind.u32.wrap (intBinR .shr .u64 m 32)] = _
  rw [e1, wu32, wu32, Int.emod_eq_of_lt (a := m / 4294967296) (by omega) (by omega)]

theorem limbs_lb {m : Int} (h0 : 0 ≤ m) (h1 : m < 18446744073709551616) : Lb [m % 4294967296, m / 4294967296] :=
  Lb.cons (by omega) (by omega) (Lb.cons (by omega) (by omega) Lb.nil)
theorem limbs_lv {m : Int} (h0 : 0 ≤ m) : lv [m % 4294967296, m / 4294967296] = m.toNat := by
  simp only [lv]; omega

/-- the root of a finite number -/
def Num.rootF (a : Num) (up : Bool) : Num :=
  if a.e % 2 = 0 then Num.grow false (nsqrt (a.m.toNat * 2 ^ 64)) ((a.e - 64) / 2) (!decide (nsqrt (a.m.toNat * 2 ^ 64) * nsqrt (a.m.toNat * 2 ^ 64) = a.m.toNat * 2 ^ 64)) up
  else Num.grow false (nsqrt (a.m.toNat * 2 ^ 63)) ((a.e - 63) / 2) (!decide (nsqrt (a.m.toNat * 2 ^ 63) * nsqrt (a.m.toNat * 2 ^ 63) = a.m.toNat * 2 ^ 63)) up
def Num.root (a : Num) (up : Bool) : Num × Bool :=
  if a.fair.kind ≠ 0 ∧ a.fair.neg = true then (Num.zero, false) else if a.fair.kind ≠ 1 then (a.fair, true) else (Num.rootF a.fair up, true)

theorem root_sh {m n : Int} {l s : List Int} (h0 : 0 ≤ m) (h1 : m < 18446744073709551616) (hl : l = [m % 4294967296, m / 4294967296]) (hn : n = 64 ∨ n = 63)
    (hs : s = if n < 1 then lim (lv l) else if 16777216 < n then [] else lim (lv l * 2 ^ n.toNat)) : Lb s ∧ s.length < 524288 ∧ lv s = m.toNat * 2 ^ n.toNat ∧ Lb (lim (nsqrt (lv s))) ∧ (lim (nsqrt (lv s))).length ≤ 2 := by
  have lvl : lv l = m.toNat := by rw [hl]; exact limbs_lv h0
  rw [if_neg (by omega), if_neg (by omega), lvl] at hs
  have hm : m.toNat < 18446744073709551616 := by omega
  have hp : 2 ^ n.toNat ≤ 18446744073709551616 := by rcases hn with rfl | rfl <;> decide
  have hlt : m.toNat * 2 ^ n.toNat < 4294967296 ^ 4 := by
    have h2 : m.toNat * 2 ^ n.toNat ≤ m.toNat * 18446744073709551616 := Nat.mul_le_mul_left _ hp
    have h3 : (4294967296 : Nat) ^ 4 = 18446744073709551616 * 18446744073709551616 := by decide
    omega
  have hls := lim_length_le hlt
  have lvs : lv s = m.toNat * 2 ^ n.toNat := by rw [hs, lv_lim]
  refine ⟨by rw [hs]; exact lim_lb _, by rw [hs]; omega, lvs, lim_lb _, ?_⟩
  apply lim_length_le
  rw [lvs]
  have q := (nsqrt_spec (m.toNat * 2 ^ n.toNat)).1
  apply sq_lt
  have h3 : (4294967296 : Nat) ^ 4 = 4294967296 ^ 2 * 4294967296 ^ 2 := by decide
  omega
theorem parity (e : Int) : (intBinR .and .i64 e 1 = 0) ↔ e % 2 = 0 := by
  have h : intBinR .and .i64 e 1 = e % 2 := by
    show IntKind.i64.wrap ((BitVec.ofInt 64 e &&& BitVec.ofInt 64 1).toNat : Int) = _
    have h1 : (BitVec.ofInt 64 e &&& BitVec.ofInt 64 1).toNat = (BitVec.ofInt 64 e).toNat % 2 := by
      rw [BitVec.toNat_and, show (BitVec.ofInt 64 1).toNat = 2 ^ 1 - 1 by decide, Nat.and_two_pow_sub_one_eq_mod]
    rw [h1, wi64, BitVec.toNat_ofInt]
    omega
  rw [h]
theorem half_exact {e n : Int} (h0 : -1048576 ≤ e) (h1 : e ≤ 1048576) (hn : n = 64 ∨ n = 63) (hp : (e - n) % 2 = 0) : intBinR .quo .i64 (intBinR .sub .i64 e n) 2 = (e - n) / 2 := by
  have e1 : intBinR .sub .i64 e n = e - n := by show IntKind.i64.wrap (e - n) = _; rw [wi64]; omega
  show IntKind.i64.wrap ((intBinR .sub .i64 e n).tdiv 2) = _
  rw [e1]
  have e2 : (e - n).tdiv 2 = (e - n) / 2 := by
    obtain ⟨k, hk⟩ : ∃ k, e - n = 2 * k := ⟨(e - n) / 2, by omega⟩
    rw [hk, Int.mul_tdiv_cancel_left _ (by decide), Int.mul_ediv_cancel_left _ (by decide)]
  rw [e2, wi64]; omega

set_option maxHeartbeats 2000000 in
theorem c_quRoot (a : Num) (up : Bool) (ha : a.ok) : ∃ t : Num × Bool, t = Num.root a up ∧ CallsA Try.prog 23 [a.av, .bool (.s up)] (.tup [(t.1).av, .bool (.s t.2)]) := by
  refine ⟨_, rfl, ?_⟩
  generalize hr : Num.root a up = r
  refine callsA_of hG hm Try.func23 (by kernel_rfl) ?_
  intro E hE lp hl
  cbv
  (apply E_callX hE (c_quFair ⟨_, _, _, _⟩); (case hf => rfl); (case hc => (cbv <;> trivial)); (case hle => (repeat' (first | exact u_nil | apply u_cons | apply u2_agg | exact u2_int | exact u1_int | exact u2_bool | exact u1_bool))); intro t ht; cbv)
  replace ht : t = a.fair := ht
  have tok : t.ok := by rw [ht]; exact Num.fair_ok ha
  have neq_t : ∀ x y : Int, E.cmp .neq x y = true → x ≠ y := by subst hE; intro x y h; simpa only [realE, cmp_neq, decide_eq_true_eq] using h
  have neq_f : ∀ x y : Int, E.cmp .neq x y = false → x = y := by subst hE; intro x y h; simpa only [realE, cmp_neq, decide_eq_false_iff_not, ne_eq, Decidable.not_not] using h
  repeat' (first
    | (refine E_br hE (fun h => ?_) (fun h => ?_) <;> cbv)
    | (refine E_nm hE (fun v hv => ?_); cbv)
    | (refine E_nilS hE (fun b hb => ?_); cbv)
    | fail)
  · have h1 := neq_t _ _ ‹E.cmp .neq t.kind 0 = true›
    rw [← hr]; unfold Num.root
    rw [← ht, if_pos ⟨h1, h⟩]
    exact ⟨⟨rfl, rfl, rfl, rfl, trivial⟩, rfl, trivial⟩
  · have h1 := neq_t _ _ h
    rw [← hr]; unfold Num.root
    rw [← ht, if_neg (by rintro ⟨-, k⟩; rw [‹t.neg = false›] at k; cases k), if_pos h1]
    exact ⟨⟨rfl, rfl, rfl, rfl, trivial⟩, rfl, trivial⟩
  ·
    (apply E_callX hE (c_limbs t.m tok.1 tok.2); (case hf => rfl); (case hc => (cbv <;> trivial)); (case hle => exact ⟨u2_int, trivial⟩); intro l hl'; cbv)
    have len : l.length = 2 := by rw [hl']; rfl
    (apply E_callX hE (c_natShl l (63) (by rw [hl']; exact limbs_lb tok.1 tok.2) (by omega)); (case hf => rfl); (case hc => (cbv <;> trivial)); (case hle => exact ⟨u2_sli, u2_int, trivial⟩); intro s hs; cbv)
    have hn : (63 : Int) = 64 ∨ (63 : Int) = 63 := by exact .inr rfl
    have f := root_sh tok.1 tok.2 hl' hn hs
    (apply E_callX hE (c_natRoot s f.1 f.2.1); (case hf => rfl); (case hc => (cbv <;> trivial)); (case hle => exact ⟨u2_sli, trivial⟩); intro q hq; cbv)
    have q1 : q.1 = lim (nsqrt (lv s)) := by rw [hq]
    (apply E_pcallX hE (c_word q.1 (by rw [q1]; exact f.2.2.2.1) (by rw [q1]; exact f.2.2.2.2)); (case hm => rfl); (case hle => exact ⟨u2_sli, trivial⟩); intro w hw; cbv)
    (apply E_pcallX hE (c_Grow _ _ _ _ _); (case hm => rfl); (case hle => exact ⟨u2_bool, u2_int, u2_int, u2_bool, u2_bool, trivial⟩); intro g hg; cbv)
    have k1 : t.kind = 1 := neq_f _ _ ‹E.cmp .neq t.kind 1 = false›
    have fe : -1048576 ≤ t.e ∧ t.e ≤ 1048576 := by
      have := Num.fin_of (n := a) (by rw [← ht, k1]; decide) (by rw [← ht, k1]; decide)
      rw [← ht] at this
      exact this.2.2
    have hp : (t.e - 63) % 2 = 0 := by have p := parity t.e; (have : ¬ t.e % 2 = 0 := fun k => by have q := p.2 k; subst hE; exact neq_t _ _ h q); omega
    have e1 : g = Num.rootF t up := by
      have hg' : g = Num.grow false w (intBinR .quo .i64 (intBinR .sub .i64 t.e 63) 2) (!q.2) up := by subst hE; exact hg
      have wv : w = nsqrt (t.m.toNat * 2 ^ 63) := by rw [hw, q1, lv_lim, f.2.2.1]; rfl
      have q2 : q.2 = decide (nsqrt (t.m.toNat * 2 ^ 63) * nsqrt (t.m.toNat * 2 ^ 63) = t.m.toNat * 2 ^ 63) := by
        rw [hq]; show decide _ = _; rw [f.2.2.1]; rfl
      rw [hg', half_exact fe.1 fe.2 hn hp, wv, q2]
      unfold Num.rootF
      rw [if_neg (by omega)]
    rw [← hr]; unfold Num.root
    rw [← ht, if_neg (by rintro ⟨-, k⟩; rw [‹t.neg = false›] at k; cases k), if_neg (by rw [k1]; decide), e1]
    exact ⟨⟨rfl, rfl, rfl, rfl, trivial⟩, rfl, trivial⟩

  ·
    (apply E_callX hE (c_limbs t.m tok.1 tok.2); (case hf => rfl); (case hc => (cbv <;> trivial)); (case hle => exact ⟨u2_int, trivial⟩); intro l hl'; cbv)
    have len : l.length = 2 := by rw [hl']; rfl
    (apply E_callX hE (c_natShl l (64) (by rw [hl']; exact limbs_lb tok.1 tok.2) (by omega)); (case hf => rfl); (case hc => (cbv <;> trivial)); (case hle => exact ⟨u2_sli, u2_int, trivial⟩); intro s hs; cbv)
    have hn : (64 : Int) = 64 ∨ (64 : Int) = 63 := by exact .inl rfl
    have f := root_sh tok.1 tok.2 hl' hn hs
    (apply E_callX hE (c_natRoot s f.1 f.2.1); (case hf => rfl); (case hc => (cbv <;> trivial)); (case hle => exact ⟨u2_sli, trivial⟩); intro q hq; cbv)
    have q1 : q.1 = lim (nsqrt (lv s)) := by rw [hq]
    (apply E_pcallX hE (c_word q.1 (by rw [q1]; exact f.2.2.2.1) (by rw [q1]; exact f.2.2.2.2)); (case hm => rfl); (case hle => exact ⟨u2_sli, trivial⟩); intro w hw; cbv)
    (apply E_pcallX hE (c_Grow _ _ _ _ _); (case hm => rfl); (case hle => exact ⟨u2_bool, u2_int, u2_int, u2_bool, u2_bool, trivial⟩); intro g hg; cbv)
    have k1 : t.kind = 1 := neq_f _ _ ‹E.cmp .neq t.kind 1 = false›
    have fe : -1048576 ≤ t.e ∧ t.e ≤ 1048576 := by
      have := Num.fin_of (n := a) (by rw [← ht, k1]; decide) (by rw [← ht, k1]; decide)
      rw [← ht] at this
      exact this.2.2
    have hp : (t.e - 64) % 2 = 0 := by (have : t.e % 2 = 0 := (parity t.e).1 (by subst hE; exact neq_f _ _ h)); omega
    have e1 : g = Num.rootF t up := by
      have hg' : g = Num.grow false w (intBinR .quo .i64 (intBinR .sub .i64 t.e 64) 2) (!q.2) up := by subst hE; exact hg
      have wv : w = nsqrt (t.m.toNat * 2 ^ 64) := by rw [hw, q1, lv_lim, f.2.2.1]; rfl
      have q2 : q.2 = decide (nsqrt (t.m.toNat * 2 ^ 64) * nsqrt (t.m.toNat * 2 ^ 64) = t.m.toNat * 2 ^ 64) := by
        rw [hq]; show decide _ = _; rw [f.2.2.1]; rfl
      rw [hg', half_exact fe.1 fe.2 hn hp, wv, q2]
      unfold Num.rootF
      rw [if_pos (by omega)]
    rw [← hr]; unfold Num.root
    rw [← ht, if_neg (by rintro ⟨-, k⟩; rw [‹t.neg = false›] at k; cases k), if_neg (by rw [k1]; decide), e1]
    exact ⟨⟨rfl, rfl, rfl, rfl, trivial⟩, rfl, trivial⟩

  · have k0 := neq_f _ _ ‹E.cmp .neq t.kind 0 = false›
    rw [← hr]; unfold Num.root
    rw [← ht, if_neg (by rintro ⟨k, -⟩; exact k k0), if_pos (by rw [k0]; decide)]
    exact ⟨⟨rfl, rfl, rfl, rfl, trivial⟩, rfl, trivial⟩
  all_goals (exfalso; have k0 := neq_f _ _ ‹E.cmp .neq t.kind 0 = false›; have k1 := neq_f _ _ ‹E.cmp .neq t.kind 1 = false›; omega)

end Go.Proofs.Ytincnfjihffllaa.Ev

/- Contracts: the root of an interval. Printed by gen.py out of C23.spec. -/
namespace Go.Proofs.Ytincnfjihffllaa.Ev
open Go Go.Proofs
set_option linter.unusedVariables false
set_option linter.unusedSimpArgs false
def Iv.positive : Iv := Iv.make Num.zero (Num.inf false)
theorem Iv.positive_ok : Iv.positive.lo.ok ∧ Iv.positive.hi.ok := Iv.make_ok Num.zero_ok (Num.inf_ok false)
def Iv.root (a : Iv) : Iv := if (Iv.meet [a, Iv.positive]).empty then Iv.meet [a, Iv.positive] else Iv.make (Num.root (Iv.meet [a, Iv.positive]).lo false).1 (Num.root (Iv.meet [a, Iv.positive]).hi true).1
theorem nsqrt_word {m k : Nat} (hm : m < 18446744073709551616) (hk : 2 ^ k ≤ 18446744073709551616) : nsqrt (m * 2 ^ k) < 18446744073709551616 := by
  apply sq_lt
  have h1 := (nsqrt_spec (m * 2 ^ k)).1
  have h2 : m * 2 ^ k ≤ m * 18446744073709551616 := Nat.mul_le_mul_left _ hk
  omega
theorem Num.root_ok {n : Num} (h : n.ok) (up : Bool) : (Num.root n up).1.ok := by
  have ho := Num.fair_ok h
  unfold Num.root
  split
  · exact Num.zero_ok
  · split
    · exact ho
    · show (Num.rootF n.fair up).ok
      have hm : n.fair.m.toNat < 18446744073709551616 := by have := ho.1; have := ho.2; omega
      unfold Num.rootF
      split
      · have := nsqrt_word (k := 64) hm (by decide); exact Num.grow_ok (by omega) (by omega)
      · have := nsqrt_word (k := 63) hm (by decide); exact Num.grow_ok (by omega) (by omega)
theorem Iv.root_ok {a : Iv} (h : a.lo.ok ∧ a.hi.ok) : (Iv.root a).lo.ok ∧ (Iv.root a).hi.ok := by
  have m : (Iv.meet [a, Iv.positive]).lo.ok ∧ (Iv.meet [a, Iv.positive]).hi.ok := Iv.meet_ok (all2 h Iv.positive_ok)
  unfold Iv.root
  split
  · exact m
  · exact Iv.make_ok (Num.root_ok m.1 _) (Num.root_ok m.2 _)
theorem k_quRoot (x : Num) (hx : x.ok) (up : Bool) : ∃ t : Num × Bool, (t = Num.root x up ∧ t.1.ok) ∧ CallsA Try.prog 23 [x.av, .bool (.s up)] (.tup [(t.1).av, .bool (.s t.2)]) :=
  withQ (p := fun t : Num × Bool => t.1.ok) (c_quRoot x up hx) (Num.root_ok hx up)

theorem c_positive  : ∃ t, t = Iv.positive ∧ CallsA Try.prog 129 [] t.av := by
  refine ⟨_, rfl, ?_⟩
  generalize hr : Iv.positive = r
  refine callsA_of hG hm Try.func129 (by kernel_rfl) ?_
  intro E hE lp hl
  cbv
  repeat' (first
    | (apply E_br_t hE; assumption; cbv)
    | (apply E_br_f hE; assumption; cbv)
    | (refine E_br hE (fun h => ?_) (fun h => ?_) <;> cbv)
    | (refine E_nm hE (fun v hv => ?_); cbv)
    | (apply E_pcallX hE (c_Inf _); (case hm => rfl); (case hle => (repeat' (first | exact u_nil | apply u_cons | apply u2_agg | exact u2_int | exact u1_int | exact u2_bool | exact u1_bool | exact u2_sli | exact u1_sli | exact u2_s0 | exact u1_s0))); all_goals (first | (intro t ht; cbv) | (assumption)))
    | (apply E_pcallX hE (c_ivMake ⟨_, _, _, _⟩ ⟨_, _, _, _⟩); (case hm => rfl); (case hle => (repeat' (first | exact u_nil | apply u_cons | apply u2_agg | exact u2_int | exact u1_int | exact u2_bool | exact u1_bool | exact u2_sli | exact u1_sli | exact u2_s0 | exact u1_s0))); all_goals (first | (intro t ht; cbv) | (assumption)))
    | (apply E_callX hE (c_Inf _); (case hf => rfl); (case hc => (cbv <;> trivial)); (case hle => (repeat' (first | exact u_nil | apply u_cons | apply u2_agg | exact u2_int | exact u1_int | exact u2_bool | exact u1_bool | exact u2_sli | exact u1_sli | exact u2_s0 | exact u1_s0))); all_goals (first | (intro t ht; cbv) | (assumption)))
    | (apply E_callX hE (c_ivMake ⟨_, _, _, _⟩ ⟨_, _, _, _⟩); (case hf => rfl); (case hc => (cbv <;> trivial)); (case hle => (repeat' (first | exact u_nil | apply u_cons | apply u2_agg | exact u2_int | exact u1_int | exact u2_bool | exact u1_bool | exact u2_sli | exact u1_sli | exact u2_s0 | exact u1_s0))); all_goals (first | (intro t ht; cbv) | (assumption)))
    | fail)
  subst_vars
  exact ⟨rfl, rfl, rfl, rfl, rfl, rfl, rfl, rfl, rfl, trivial⟩
theorem k_positive : ∃ t : Iv, (t = Iv.positive ∧ (t.lo.ok ∧ t.hi.ok)) ∧ CallsA Try.prog 129 [] t.av :=
  withQ (p := fun t : Iv => t.lo.ok ∧ t.hi.ok) c_positive Iv.positive_ok

set_option maxHeartbeats 2000000 in
theorem c_opRoot (a : Iv) (ha : a.lo.ok ∧ a.hi.ok) : ∃ t, t = Iv.root a ∧ CallsA Try.prog 53 [a.av] t.av := by
  refine ⟨_, rfl, ?_⟩
  generalize hr : Iv.root a = r
  refine callsA_of hG hm Try.func53 (by kernel_rfl) ?_
  intro E hE lp hl
  cbv
  repeat' (first
    | (apply E_br_t hE; assumption; cbv)
    | (apply E_br_f hE; assumption; cbv)
    | (refine E_br hE (fun h => ?_) (fun h => ?_) <;> cbv)
    | (refine E_nm hE (fun v hv => ?_); cbv)
    | (apply E_pcallX hE (k_positive); (case hm => rfl); (case hle => (repeat' (first | exact u_nil | apply u_cons | apply u2_agg | exact u2_int | exact u1_int | exact u2_bool | exact u1_bool | exact u2_sli | exact u1_sli | exact u2_s0 | exact u1_s0))); all_goals (first | (rintro t ⟨ht, ho⟩; cbv) | (assumption)))
    | (apply E_pcallX hE (k_meet2 ⟨_, ⟨_, _, _, _⟩, ⟨_, _, _, _⟩⟩ ?_ ⟨_, ⟨_, _, _, _⟩, ⟨_, _, _, _⟩⟩ ?_); (case hm => rfl); (case hle => exact ⟨slcG2, trivial⟩); all_goals (first | (rintro t ⟨ht, ho⟩; cbv) | (assumption)))
    | (apply E_callX hE (k_quRoot ⟨_, _, _, _⟩ ?_ _); (case hf => rfl); (case hc => (cbv <;> trivial)); (case hle => (repeat' (first | exact u_nil | apply u_cons | apply u2_agg | exact u2_int | exact u1_int | exact u2_bool | exact u1_bool | exact u2_sli | exact u1_sli | exact u2_s0 | exact u1_s0))); all_goals (first | (rintro t ⟨ht, ho⟩; cbv) | (first | exact ho.1 | exact ho.2 | exact (show _ ∧ _ by assumption).1 | exact (show _ ∧ _ by assumption).2)))
    | (apply E_callX hE (c_ivMake ⟨_, _, _, _⟩ ⟨_, _, _, _⟩); (case hf => rfl); (case hc => (cbv <;> trivial)); (case hle => (repeat' (first | exact u_nil | apply u_cons | apply u2_agg | exact u2_int | exact u1_int | exact u2_bool | exact u1_bool | exact u2_sli | exact u1_sli | exact u2_s0 | exact u1_s0))); all_goals (first | (intro t ht; cbv) | (assumption)))
    | fail)
  · have e : Iv.root a = t := by subst_vars; exact if_pos h
    rw [← hr, e]
    exact ⟨rfl, rfl, rfl, rfl, rfl, rfl, rfl, rfl, rfl, trivial⟩
  · have e : Iv.root a = t := by
      subst_vars
      exact if_neg (by intro k; exact absurd (h.symm.trans k) (by decide))
    rw [← hr, e]
    exact ⟨rfl, rfl, rfl, rfl, rfl, rfl, rfl, rfl, rfl, trivial⟩
theorem k_opRoot (a : Iv) (ha : a.lo.ok ∧ a.hi.ok) : ∃ t : Iv, (t = Iv.root a ∧ (t.lo.ok ∧ t.hi.ok)) ∧ CallsA Try.prog 53 [a.av] t.av :=
  withQ (p := fun t : Iv => t.lo.ok ∧ t.hi.ok) (c_opRoot a ha) (Iv.root_ok ha)

end Go.Proofs.Ytincnfjihffllaa.Ev

/- Sums and products of numbers: their order, and their opposites. Plain Lean. -/
namespace Go.Proofs.Ytincnfjihffllaa.Ev
open Go

theorem Num.may_fair {n : Num} (h : n.may = true) : n.fair = n := by unfold Num.fair; rw [if_pos h]
theorem Num.opp_inf (b : Bool) : (Num.inf b).opp = Num.inf (!b) := by cases b <;> decide
theorem Num.opp_zero : Num.zero.opp = Num.zero := by decide
theorem Num.fair_inf {a : Num} (oa : a.ok) (k : a.fair.kind = 2) : a.fair = Num.inf a.fair.neg := Num.inf_of a.fair_may (Num.fair_ok oa) k

theorem Num.add_inf {a b : Num} (up : Bool) (ka : a.fair.kind = 2) : Num.add a b up = if b.fair.kind = 2 ∧ a.fair.neg ≠ b.fair.neg then Num.inf (!up) else a.fair := by
  unfold Num.add
  by_cases h : b.fair.kind = 2 ∧ a.fair.neg ≠ b.fair.neg
  · rw [if_pos ⟨ka, h⟩, if_pos h]
  · rw [if_neg (fun k => h k.2), if_neg h, if_pos (.inl ka)]
theorem Num.add_inf2 {a b : Num} (oa : a.ok) (ob : b.ok) (up : Bool) (kb : b.fair.kind = 2) : Num.add a b up = if a.fair.kind = 2 ∧ b.fair.neg ≠ a.fair.neg then Num.inf (!up) else b.fair := by
  unfold Num.add
  by_cases h : a.fair.kind = 2 ∧ b.fair.neg ≠ a.fair.neg
  · rw [if_pos ⟨h.1, kb, fun e => h.2 e.symm⟩, if_pos h]
  · rw [if_neg (fun k => h ⟨k.1, fun e => k.2.2 e.symm⟩), if_neg h]
    by_cases ka : a.fair.kind = 2
    · rw [if_pos (.inl ka), Num.fair_inf oa ka, Num.fair_inf ob kb]
      congr 1
      exact (Classical.not_not.1 (fun e => h ⟨ka, e⟩)).symm
    · rw [if_neg (by rw [kb]; simp [ka]), if_pos (.inl kb)]
theorem Num.add_comm {a b : Num} (oa : a.ok) (ob : b.ok) (up : Bool) : Num.add a b up = Num.add b a up := by
  by_cases ka : a.fair.kind = 2
  · rw [Num.add_inf up ka, Num.add_inf2 ob oa up ka]
  · by_cases kb : b.fair.kind = 2
    · rw [Num.add_inf2 oa ob up kb, Num.add_inf up kb]
    · exact (add_best oa ob ka kb up).uniq (add_best ob oa kb ka up) (by decide) (by decide) (by rw [Int.add_comm])

theorem Num.mul_comm {a b : Num} (oa : a.ok) (ob : b.ok) (up : Bool) : Num.mul a b up = Num.mul b a up := by
  have key : a.fair.kind = 2 ∨ b.fair.kind = 2 → Num.mul a b up = Num.mul b a up := by
    intro h
    unfold Num.mul
    by_cases h0 : a.fair.kind = 0 ∨ b.fair.kind = 0
    · have h0' : b.fair.kind = 0 ∨ a.fair.kind = 0 := h0.symm
      rw [if_pos h0]
      exact (if_pos h0').symm
    · have h0' : ¬ (b.fair.kind = 0 ∨ a.fair.kind = 0) := fun k => h0 k.symm
      rw [if_neg h0, if_pos h]
      refine Eq.trans ?_ (Eq.trans (if_pos h.symm).symm (if_neg h0').symm)
      congr 1
      cases a.fair.neg <;> cases b.fair.neg <;> rfl
  by_cases ka : a.fair.kind = 2
  · exact key (.inl ka)
  · by_cases kb : b.fair.kind = 2
    · exact key (.inr kb)
    · exact (mul_best oa ob ka kb up).uniq (mul_best ob oa kb ka up) (pw_pos 0) (pw_pos 0) (by rw [Int.mul_comm a.fair.val])

theorem Best.opp {r : Num} {up : Bool} {t c : Int} (h : Best r up t c) : Best r.opp (!up) (-t) c := by
  have fr := Num.may_fair h.may
  have vr : r.opp.val = -r.val := by rw [Num.opp_val, fr]
  have inj : ∀ b, r.opp = Num.inf b → r = Num.inf (!b) := by
    intro b e
    have := congrArg Num.opp e
    rw [Num.opp_opp, fr, Num.opp_inf] at this
    exact this
  have back : ∀ s : Num, s.may = true → s.ok → ∀ b, s ≠ Num.inf b → s.opp ≠ Num.inf (!b) := by
    intro s ms os b hs e
    have := congrArg Num.opp e
    rw [Num.opp_opp, Num.may_fair ms, Num.opp_inf, Bool.not_not] at this
    exact hs this
  have vs : ∀ s : Num, s.may = true → s.opp.val = -s.val := fun s ms => by rw [Num.opp_val, Num.may_fair ms]
  refine ⟨Num.opp_may r, Num.opp_ok h.ok, fun hu => ?_, fun hu s ms os hs hle => ?_, fun hu s ms os hs hle => ?_, fun hu => ?_⟩
  · have hu' : up = true := by simpa using hu
    obtain ⟨h1, h2⟩ := h.hi hu'
    refine ⟨fun e => h1 (inj _ e), ?_⟩
    rcases h2 with h2 | h2
    · left; rw [h2, Num.opp_inf]; rfl
    · right; rw [vr, Int.neg_mul]; omega
  · have hu' : up = true := by simpa using hu
    have := h.uopt hu' s.opp (Num.opp_may s) (Num.opp_ok os) (back s ms os false hs) (by rw [vs s ms, Int.neg_mul]; omega)
    rw [vs s ms] at this
    rw [vr]; omega
  · have hu' : up = false := by simpa using hu
    have := h.dopt hu' s.opp (Num.opp_may s) (Num.opp_ok os) (back s ms os true hs) (by rw [vs s ms, Int.neg_mul]; omega)
    rw [vs s ms] at this
    rw [vr]; omega
  · have hu' : up = false := by simpa using hu
    obtain ⟨h1, h2⟩ := h.down hu'
    refine ⟨fun e => h1 (inj _ e), ?_⟩
    rcases h2 with h2 | h2
    · left; rw [h2, Num.opp_inf]; rfl
    · right; rw [vr, Int.neg_mul]; omega

theorem Num.opp_fair (n : Num) : n.opp.fair = n.opp := Num.may_fair (Num.opp_may n)
theorem Num.opp_kind (n : Num) : n.opp.kind = n.fair.kind := rfl
theorem Num.opp_of_fair (a : Num) : a.opp = a.fair.opp := by unfold Num.opp; rw [Num.may_fair a.fair_may]
theorem Num.opp_of_inf {a : Num} (oa : a.ok) (k : a.fair.kind = 2) : a.opp = Num.inf (!a.fair.neg) := by
  rw [Num.opp_of_fair, Num.fair_inf oa k, Num.opp_inf]; rfl
theorem Num.add_opp {a b : Num} (oa : a.ok) (ob : b.ok) (up : Bool) : Num.add a.opp b.opp (!up) = (Num.add a b up).opp := by
  have half : ∀ {a b : Num}, a.ok → b.ok → a.fair.kind = 2 → Num.add a.opp b.opp (!up) = (Num.add a b up).opp := by
    intro a b oa ob ka
    rw [Num.add_inf (!up) (by rw [Num.opp_fair, Num.opp_kind]; exact ka), Num.add_inf up ka, Num.opp_fair, Num.opp_fair, Num.opp_kind, Num.opp_of_inf oa ka]
    by_cases kb : b.fair.kind = 2
    · rw [Num.opp_of_inf ob kb]
      by_cases hn : a.fair.neg = b.fair.neg
      · rw [if_neg (by rintro ⟨-, h⟩; exact h (by show (!_) = (!_); rw [hn])), if_neg (fun h => h.2 hn), ← Num.opp_of_fair, Num.opp_of_inf oa ka]
      · rw [if_pos ⟨kb, fun h => hn (by have h' : (!a.fair.neg) = (!b.fair.neg) := h; revert h'; cases a.fair.neg <;> cases b.fair.neg <;> simp)⟩, if_pos ⟨kb, hn⟩, Num.opp_inf]
    · rw [if_neg (fun h => kb h.1), if_neg (fun h => kb h.1), ← Num.opp_of_fair, Num.opp_of_inf oa ka]
  by_cases ka : a.fair.kind = 2
  · exact half oa ob ka
  · by_cases kb : b.fair.kind = 2
    · rw [Num.add_comm (Num.opp_ok oa) (Num.opp_ok ob), Num.add_comm oa ob]
      exact half ob oa kb
    · have h1 := (add_best oa ob ka kb up).opp
      have h2 := add_best (Num.opp_ok oa) (Num.opp_ok ob) (by rw [Num.opp_fair, Num.opp_kind]; exact ka) (by rw [Num.opp_fair, Num.opp_kind]; exact kb) (!up)
      refine h2.uniq h1 (by decide) (by decide) ?_
      rw [Num.opp_fair, Num.opp_fair, Num.opp_val, Num.opp_val]; omega
end Go.Proofs.Ytincnfjihffllaa.Ev

/- The law of rules, all but roots: plain Lean. -/
namespace Go.Proofs.Ytincnfjihffllaa.Ev
open Go

theorem Iv.bad_two (a b : Iv) : Iv.anyBad [a, b] = (a.bad || b.bad) := by simp [Iv.anyBad]
theorem Iv.bad_one (a : Iv) : Iv.anyBad [a] = a.bad := by simp [Iv.anyBad]

theorem Iv.add2_eq {a b : Iv} : Iv.add [a, b] = if (a.bad || b.bad) = true then Iv.none else Iv.make (Num.add a.lo b.lo false) (Num.add a.hi b.hi true) := by
  unfold Iv.add
  rw [Iv.bad_two]
  rfl
theorem Iv.add2_comm {a b : Iv} (ha : a.lo.ok ∧ a.hi.ok) (hb : b.lo.ok ∧ b.hi.ok) : Iv.add [a, b] = Iv.add [b, a] := by
  rw [Iv.add2_eq, Iv.add2_eq, Bool.or_comm, Num.add_comm ha.1 hb.1, Num.add_comm ha.2 hb.2]

theorem Num.least_perm {w x y z : Num} (hw : w.ok) (hx : x.ok) (hy : y.ok) (hz : z.ok) : Num.least [w, x, y, z] = Num.least [w, y, x, z] := by
  have s1 := Num.least_spec [w, x, y, z] (by simp; exact ⟨hw, hx, hy, hz⟩)
  have s2 := Num.least_spec [w, y, x, z] (by simp; exact ⟨hw, hy, hx, hz⟩)
  refine Num.val_inj s1.1 s2.1 s1.2.1 s2.2.1 ?_
  have l1 := s1.2.2.1
  have l2 := s2.2.2.1
  have top1 := (Num.val_le s1.1 s1.2.1).2
  have top2 := (Num.val_le s2.1 s2.2.1).2
  apply Int.le_antisymm
  · rcases s2.2.2.2 with e | ⟨v, hv, e⟩
    · rw [e, Num.val_inf]; simpa using top1
    · have := l1 v (by simp at hv ⊢; rcases hv with h | h | h | h <;> simp [h])
      rw [e]; exact this
  · rcases s1.2.2.2 with e | ⟨v, hv, e⟩
    · rw [e, Num.val_inf]; simpa using top2
    · have := l2 v (by simp at hv ⊢; rcases hv with h | h | h | h <;> simp [h])
      rw [e]; exact this
theorem Num.most_perm {w x y z : Num} (hw : w.ok) (hx : x.ok) (hy : y.ok) (hz : z.ok) : Num.most [w, x, y, z] = Num.most [w, y, x, z] := by
  have s1 := Num.most_spec [w, x, y, z] (by simp; exact ⟨hw, hx, hy, hz⟩)
  have s2 := Num.most_spec [w, y, x, z] (by simp; exact ⟨hw, hy, hx, hz⟩)
  refine Num.val_inj s1.1 s2.1 s1.2.1 s2.2.1 ?_
  have l1 := s1.2.2.1
  have l2 := s2.2.2.1
  have top1 := (Num.val_le s1.1 s1.2.1).1
  have top2 := (Num.val_le s2.1 s2.2.1).1
  apply Int.le_antisymm
  · rcases s1.2.2.2 with e | ⟨v, hv, e⟩
    · rw [e, Num.val_inf]; simpa using top2
    · have := l2 v (by simp at hv ⊢; rcases hv with h | h | h | h <;> simp [h])
      rw [e]; exact this
  · rcases s2.2.2.2 with e | ⟨v, hv, e⟩
    · rw [e, Num.val_inf]; simpa using top1
    · have := l1 v (by simp at hv ⊢; rcases hv with h | h | h | h <;> simp [h])
      rw [e]; exact this

theorem Iv.mul_comm {a b : Iv} (ha : a.lo.ok ∧ a.hi.ok) (hb : b.lo.ok ∧ b.hi.ok) : Iv.mul a b = Iv.mul b a := by
  unfold Iv.mul
  rw [Iv.bad_two, Iv.bad_two, Bool.or_comm]
  unfold Iv.corners
  rw [Num.least_perm (Num.mul_ok ha.1 hb.1 _) (Num.mul_ok ha.1 hb.2 _) (Num.mul_ok ha.2 hb.1 _) (Num.mul_ok ha.2 hb.2 _),
    Num.most_perm (Num.mul_ok ha.1 hb.1 _) (Num.mul_ok ha.1 hb.2 _) (Num.mul_ok ha.2 hb.1 _) (Num.mul_ok ha.2 hb.2 _)]
  rw [Num.mul_comm ha.1 hb.1 false, Num.mul_comm ha.2 hb.1 false, Num.mul_comm ha.1 hb.2 false, Num.mul_comm ha.2 hb.2 false,
    Num.mul_comm ha.1 hb.1 true, Num.mul_comm ha.2 hb.1 true, Num.mul_comm ha.1 hb.2 true, Num.mul_comm ha.2 hb.2 true]

theorem Iv.none_bad : Iv.none.bad = true := by decide
theorem Iv.neg_eq (a : Iv) : Iv.neg a = if a.bad = true then Iv.none else Iv.make a.hi.opp a.lo.opp := by
  unfold Iv.neg; rw [Iv.bad_one]

theorem Iv.Real.neg {x : Iv} (h : x.Real) : (Iv.mk false x.hi.opp x.lo.opp).Real := by
  have vl : x.lo.opp.val = -x.lo.val := by rw [Num.opp_val, Num.may_fair h.lom]
  have vh : x.hi.opp.val = -x.hi.val := by rw [Num.opp_val, Num.may_fair h.him]
  have l := h.lt
  have g := h.gt
  have le := h.le
  exact ⟨rfl, Num.opp_may _, Num.opp_may _, Num.opp_ok h.hio, Num.opp_ok h.loo, by show x.hi.opp.val ≤ x.lo.opp.val; omega, by show x.hi.opp.val < _; omega, by show _ < x.lo.opp.val; omega⟩
theorem Iv.neg_real {x : Iv} (h : x.Real) : Iv.neg x = ⟨false, x.hi.opp, x.lo.opp⟩ := by
  rw [Iv.neg_eq, if_neg (by rw [h.good]; decide)]
  have := Iv.make_real (lo := x.hi.opp) (hi := x.lo.opp) (by rw [Num.opp_fair, Num.opp_fair]; exact h.neg)
  rw [this, Num.opp_fair, Num.opp_fair]
theorem Iv.neg_neg {a : Iv} (m : a.may = true) (ha : a.lo.ok ∧ a.hi.ok) : Iv.neg (Iv.neg a) = a := by
  cases he : a.empty with
  | true =>
    have := Iv.empty_may m he
    rw [this]; decide
  | false =>
    have r := Iv.real_of m he ha.1 ha.2
    rw [Iv.neg_real r, Iv.neg_real r.neg]
    show Iv.mk false a.lo.opp.opp a.hi.opp.opp = a
    rw [Num.opp_opp, Num.opp_opp, Num.may_fair r.lom, Num.may_fair r.him]
    cases a; simp_all

theorem Iv.neg_bad {a : Iv} (ha : a.lo.ok ∧ a.hi.ok) : (Iv.neg a).bad = a.bad := by
  cases h : a.bad with
  | true => rw [Iv.neg_eq, if_pos h]; exact Iv.none_bad
  | false =>
    have r := Iv.real_of_good h ha.1 ha.2
    rw [Iv.neg_real r]
    exact r.neg.good
theorem Iv.make_opp {x y : Num} (ox : x.ok) (oy : y.ok) : Iv.make y.opp x.opp = Iv.neg (Iv.make x y) := by
  rcases Iv.make_cases ox oy with ⟨h1, h2⟩ | ⟨h1, h2⟩
  · rw [h1]
    have e : Iv.neg Iv.none = Iv.none := by decide
    rw [e]
    rcases Iv.make_cases (Num.opp_ok oy) (Num.opp_ok ox) with ⟨k1, k2⟩ | ⟨k1, k2⟩
    · exact k1
    · exfalso
      apply h2
      have := k2.neg
      simp only [Num.opp_fair, Num.opp_opp] at this
      exact this
  · rw [h1, Iv.neg_real h2]
    have r := h2.neg
    have e1 : x.fair.opp = x.opp := (Num.opp_of_fair x).symm
    have e2 : y.fair.opp = y.opp := (Num.opp_of_fair y).symm
    simp only [e1, e2] at r ⊢
    have := Iv.make_real (lo := y.opp) (hi := x.opp) (by rw [Num.opp_fair, Num.opp_fair]; exact r)
    rw [this, Num.opp_fair, Num.opp_fair]

/-- what is left of b taken from a, with the ends written out -/
theorem Iv.sub_ends {a b : Iv} (ha : a.lo.ok ∧ a.hi.ok) (hb : b.lo.ok ∧ b.hi.ok) : Iv.add [a, Iv.neg b] = if (a.bad || b.bad) = true then Iv.none else Iv.make (Num.add a.lo b.hi.opp false) (Num.add a.hi b.lo.opp true) := by
  rw [Iv.add2_eq, Iv.neg_bad hb]
  by_cases h : (a.bad || b.bad) = true
  · rw [if_pos h, if_pos h]
  · rw [if_neg h, if_neg h]
    have hbb : b.bad = false := by revert h; cases a.bad <;> cases b.bad <;> simp
    rw [Iv.neg_real (Iv.real_of_good hbb hb.1 hb.2)]
theorem Iv.sub_neg {a b : Iv} (ha : a.lo.ok ∧ a.hi.ok) (hb : b.lo.ok ∧ b.hi.ok) : Iv.add [a, Iv.neg b] = Iv.neg (Iv.add [b, Iv.neg a]) := by
  rw [Iv.sub_ends ha hb, Iv.sub_ends hb ha, Bool.or_comm]
  by_cases h : (b.bad || a.bad) = true
  · rw [if_pos h, if_pos h]; decide
  · rw [if_neg h, if_neg h, ← Iv.make_opp (Num.add_ok hb.1 (Num.opp_ok ha.2) _) (Num.add_ok hb.2 (Num.opp_ok ha.1) _)]
    have e1 := Num.add_opp hb.2 (Num.opp_ok ha.1) true
    have e2 := Num.add_opp hb.1 (Num.opp_ok ha.2) false
    have hab : a.bad = false ∧ b.bad = false := by revert h; cases a.bad <;> cases b.bad <;> simp
    have ra := Iv.real_of_good hab.1 ha.1 ha.2
    rw [← e1, ← e2, Num.opp_opp, Num.opp_opp, Num.may_fair ra.lom, Num.may_fair ra.him]
    rw [Num.add_comm ha.1 (Num.opp_ok hb.2), Num.add_comm ha.2 (Num.opp_ok hb.1)]
    rfl
end Go.Proofs.Ytincnfjihffllaa.Ev

/- Squares are within products: plain Lean. -/
namespace Go.Proofs.Ytincnfjihffllaa.Ev
open Go

theorem Iv.empty_within (b : Iv) : Iv.none.within b = true := by
  unfold Iv.within
  have : Iv.none.fair.empty = true := by decide
  rw [this]; rfl
theorem Iv.real_within {a b : Iv} (ha : a.Real) (hb : b.Real) (h1 : b.lo.val ≤ a.lo.val) (h2 : a.hi.val ≤ b.hi.val) : a.within b = true := by
  unfold Iv.within
  rw [ha.fair, hb.fair, ha.some, hb.some]
  have e1 : b.lo.cmp a.lo ≤ 0 := (Num.cmp_le hb.loo ha.loo).2 (by rw [Num.may_fair hb.lom, Num.may_fair ha.lom]; exact h1)
  have e2 : a.hi.cmp b.hi ≤ 0 := (Num.cmp_le ha.hio hb.hio).2 (by rw [Num.may_fair ha.him, Num.may_fair hb.him]; exact h2)
  simp [e1, e2]
theorem Iv.make_within {x y u v : Num} (ox : x.ok) (oy : y.ok) (ou : u.ok) (ov : v.ok) (h1 : u.fair.val ≤ x.fair.val) (h2 : y.fair.val ≤ v.fair.val) : (Iv.make x y).within (Iv.make u v) = true := by
  rcases Iv.make_cases ox oy with ⟨e, -⟩ | ⟨e, r⟩
  · rw [e]; exact Iv.empty_within _
  · have l := r.lt
    have g := r.gt
    have le := r.le
    dsimp only at l g le
    have r2 : (Iv.mk false u.fair v.fair).Real := ⟨rfl, u.fair_may, v.fair_may, Num.fair_ok ou, Num.fair_ok ov, by show u.fair.val ≤ v.fair.val; omega, by show u.fair.val < _; omega, by show _ < v.fair.val; omega⟩
    rw [e, Iv.make_real r2]
    exact Iv.real_within r r2 h1 h2

theorem Num.mul_inf {a b : Num} (up : Bool) (h : a.fair.kind = 2 ∨ b.fair.kind = 2) : Num.mul a b up = if a.fair.kind = 0 ∨ b.fair.kind = 0 then Num.zero else Num.inf (a.fair.neg != b.fair.neg) := by
  unfold Num.mul
  by_cases h0 : a.fair.kind = 0 ∨ b.fair.kind = 0
  · rw [if_pos h0, if_pos h0]
  · rw [if_neg h0, if_neg h0, if_pos h]
theorem Num.opp_neg {a : Num} (h : a.fair.kind ≠ 0) : a.opp.neg = !a.fair.neg := by
  show (decide (a.fair.kind ≠ 0) && !a.fair.neg) = _
  simp [h]
theorem Num.mul_opp_opp {a b : Num} (oa : a.ok) (ob : b.ok) (up : Bool) : Num.mul a.opp b.opp up = Num.mul a b up := by
  by_cases h : a.fair.kind = 2 ∨ b.fair.kind = 2
  · rw [Num.mul_inf up h, Num.mul_inf up (by rw [Num.opp_fair, Num.opp_fair, Num.opp_kind, Num.opp_kind]; exact h), Num.opp_fair, Num.opp_fair, Num.opp_kind, Num.opp_kind]
    by_cases h0 : a.fair.kind = 0 ∨ b.fair.kind = 0
    · rw [if_pos h0, if_pos h0]
    · rw [if_neg h0, if_neg h0, Num.opp_neg (fun e => h0 (.inl e)), Num.opp_neg (fun e => h0 (.inr e))]
      congr 1
      cases a.fair.neg <;> cases b.fair.neg <;> rfl
  · have ka : a.fair.kind ≠ 2 := fun e => h (.inl e)
    have kb : b.fair.kind ≠ 2 := fun e => h (.inr e)
    refine (mul_best (Num.opp_ok oa) (Num.opp_ok ob) (by rw [Num.opp_fair, Num.opp_kind]; exact ka) (by rw [Num.opp_fair, Num.opp_kind]; exact kb) up).uniq (mul_best oa ob ka kb up) (pw_pos 0) (pw_pos 0) ?_
    rw [Num.opp_fair, Num.opp_fair, Num.opp_val, Num.opp_val, Int.neg_mul_neg]
theorem Num.mul_may {a b : Num} (oa : a.ok) (ob : b.ok) (up : Bool) : (Num.mul a b up).may = true := by
  by_cases h : a.fair.kind = 2 ∨ b.fair.kind = 2
  · rw [Num.mul_inf up h]; split
    · exact Num.zero_may
    · exact Num.inf_may _
  · exact (mul_best oa ob (fun e => h (.inl e)) (fun e => h (.inr e)) up).may

theorem Num.mul_below {a b : Num} (oa : a.ok) (ob : b.ok) (ha : a.fair.val ≤ 0) (hb : 0 ≤ b.fair.val) : (Num.mul a b false).val ≤ 0 := by
  by_cases h : a.fair.kind = 2 ∨ b.fair.kind = 2
  · rw [Num.mul_inf false h]
    by_cases h0 : a.fair.kind = 0 ∨ b.fair.kind = 0
    · rw [if_pos h0, Num.val_zero]; omega
    · rw [if_neg h0]
      have p := pw_pos 1048640
      have na : a.fair.neg = true := by
        rcases Num.val_of a.fair_may (Num.fair_ok oa) with ⟨h1, h2⟩ | ⟨h1, h2⟩
        · exfalso
          have e : a.fair.val = 0 := by omega
          rcases Num.may3 a.fair_may (Num.fair_ok oa) with k | k | k
          · exact h0 (.inl (by rw [k]; rfl))
          · have := k.lt; omega
          · rw [k, Num.val_inf] at e; split at e <;> omega
        · cases hn : a.fair.neg with
          | true => rfl
          | false => unfold Num.val at h1; rw [hn] at h1; have := W_nn a.fair a.fair_may (Num.fair_ok oa); simp at h1; omega
      have nb : b.fair.neg = false := by
        cases hn : b.fair.neg with
        | false => rfl
        | true =>
          exfalso
          have : b.fair.val = -b.fair.W := by unfold Num.val; rw [hn]; rfl
          rcases Num.may3 b.fair_may (Num.fair_ok ob) with k | k | k
          · exact h0 (.inr (by rw [k]; rfl))
          · have := k.lt; omega
          · rw [k, Num.inf_W] at this; rw [← k] at this; omega
      rw [na, nb, Num.val_inf]
      simp; omega
  · have B := mul_best oa ob (fun e => h (.inl e)) (fun e => h (.inr e)) false
    obtain ⟨h1, h2⟩ := B.down rfl
    have p := pw_pos 1048640
    rcases h2 with h2 | h2
    · rw [h2, Num.val_inf]; simp; omega
    · have h3 : a.fair.val * b.fair.val ≤ 0 := Int.mul_nonpos_of_nonpos_of_nonneg ha hb
      have p0 := pw_pos 0
      rcases Int.lt_or_le 0 (Num.mul a b false).val with h4 | h4
      · have := Int.mul_pos h4 p0; omega
      · exact h4
end Go.Proofs.Ytincnfjihffllaa.Ev

/- A square is within the product with itself: plain Lean. -/
namespace Go.Proofs.Ytincnfjihffllaa.Ev
open Go

theorem Iv.none_sqr : Iv.sqr Iv.none = Iv.none := by decide
theorem Iv.bad_may {a : Iv} (m : a.may = true) : a.bad = a.empty := by unfold Iv.bad; rw [m]; simp

theorem corner_lo {w x y z s : Num} (hw : w.ok) (hx : x.ok) (hy : y.ok) (hz : z.ok) (h : s = w ∨ s = x ∨ s = y ∨ s = z) : (Num.least [w, x, y, z]).fair.val ≤ s.fair.val := by
  have sp := Num.least_spec [w, x, y, z] (by simp; exact ⟨hw, hx, hy, hz⟩)
  rw [Num.may_fair sp.1]
  exact sp.2.2.1 s (by simp; exact h)
theorem corner_hi {w x y z s : Num} (hw : w.ok) (hx : x.ok) (hy : y.ok) (hz : z.ok) (h : s = w ∨ s = x ∨ s = y ∨ s = z) : s.fair.val ≤ (Num.most [w, x, y, z]).fair.val := by
  have sp := Num.most_spec [w, x, y, z] (by simp; exact ⟨hw, hx, hy, hz⟩)
  rw [Num.may_fair sp.1]
  exact sp.2.2.1 s (by simp; exact h)

/-- how far from nought, told by cases -/
theorem Iv.abs_cases {a : Iv} (r : a.Real) : (0 ≤ a.lo.val ∧ Iv.abs a = a) ∨ (a.lo.val < 0 ∧ a.hi.val ≤ 0 ∧ Iv.abs a = ⟨false, a.hi.opp, a.lo.opp⟩) ∨
    (a.lo.val < 0 ∧ 0 < a.hi.val ∧ (Iv.abs a = ⟨false, Num.zero, Num.most [a.hi, a.lo.opp]⟩) ∧ (Num.most [a.hi, a.lo.opp] = a.hi ∨ Num.most [a.hi, a.lo.opp] = a.lo.opp) ∧ a.hi.val ≤ (Num.most [a.hi, a.lo.opp]).val ∧ -a.lo.val ≤ (Num.most [a.hi, a.lo.opp]).val) := by
  have sl := Num.sign_of r.lom r.loo
  have sh := Num.sign_of r.him r.hio
  have ab : Iv.abs a = if 0 ≤ a.lo.sign then a else if a.hi.sign ≤ 0 then Iv.neg a else Iv.make Num.zero (Num.most [a.hi, a.lo.opp]) := by
    unfold Iv.abs
    rw [Iv.bad_one, r.good, if_neg (by decide)]
  by_cases h1 : 0 ≤ a.lo.sign
  · left
    rw [ab, if_pos h1]
    exact ⟨by omega, rfl⟩
  · right
    rw [if_neg h1] at ab
    by_cases h2 : a.hi.sign ≤ 0
    · left
      rw [ab, if_pos h2]
      exact ⟨by omega, by omega, Iv.neg_real r⟩
    · right
      rw [if_neg h2] at ab
      have vo : a.lo.opp.val = -a.lo.val := by rw [Num.opp_val, Num.may_fair r.lom]
      have sp := Num.most_spec [a.hi, a.lo.opp] (by simp; exact ⟨r.hio, Num.opp_ok r.loo⟩)
      have m1 := sp.2.2.1 a.hi (by simp)
      have m2 := sp.2.2.1 a.lo.opp (by simp)
      rw [Num.may_fair r.him] at m1
      rw [Num.opp_fair, vo] at m2
      have hv : 0 < a.hi.val := by omega
      have real : (Iv.mk false Num.zero.fair (Num.most [a.hi, a.lo.opp]).fair).Real := by
        rw [Num.may_fair sp.1, Num.may_fair Num.zero_may]
        have p := pw_pos 1048640
        exact ⟨rfl, Num.zero_may, sp.1, Num.zero_ok, sp.2.1, by show Num.zero.val ≤ _; rw [Num.val_zero]; show 0 ≤ (Num.most [a.hi, a.lo.opp]).val; omega, by show Num.zero.val < _; rw [Num.val_zero]; exact p, by show -pw 1048640 < (Num.most [a.hi, a.lo.opp]).val; omega⟩
      refine ⟨by omega, hv, ?_, ?_, m1, m2⟩
      · rw [ab, Iv.make_real real, Num.may_fair sp.1, Num.may_fair Num.zero_may]
      · rcases sp.2.2.2 with e | ⟨x, hx, e⟩
        · exfalso
          rw [e, Num.val_inf] at m1
          have p := pw_pos 1048640
          simp at m1; omega
        · simp at hx
          rcases hx with rfl | rfl
          · left; rw [e, Num.may_fair r.him]
          · right; rw [e, Num.opp_fair]

theorem Iv.sqr_within {a : Iv} (m : a.may = true) (ha : a.lo.ok ∧ a.hi.ok) : (Iv.sqr a).within (Iv.mul a a) = true := by
  cases he : a.empty with
  | true => rw [Iv.empty_may m he, Iv.none_sqr]; exact Iv.empty_within _
  | false =>
    have r := Iv.real_of m he ha.1 ha.2
    have em : Iv.mul a a = Iv.corners Num.mul a a := by unfold Iv.mul; rw [Iv.bad_two, r.good]; rfl
    have o := fun (x y : Num) (hx : x.ok) (hy : y.ok) (up : Bool) => Num.mul_ok hx hy up
    rw [em]
    have oll := fun up => o a.lo a.lo ha.1 ha.1 up
    have olh := fun up => o a.lo a.hi ha.1 ha.2 up
    have ohl := fun up => o a.hi a.lo ha.2 ha.1 up
    have ohh := fun up => o a.hi a.hi ha.2 ha.2 up
    have key : ∀ x y : Num, x.ok → y.ok → (Num.least [Num.mul a.lo a.lo false, Num.mul a.lo a.hi false, Num.mul a.hi a.lo false, Num.mul a.hi a.hi false]).fair.val ≤ x.fair.val →
        y.fair.val ≤ (Num.most [Num.mul a.lo a.lo true, Num.mul a.lo a.hi true, Num.mul a.hi a.lo true, Num.mul a.hi a.hi true]).fair.val → (Iv.make x y).within (Iv.corners Num.mul a a) = true := by
      intro x y hx hy h1 h2
      exact Iv.make_within hx hy (Num.least_spec _ (by simp; exact ⟨oll _, olh _, ohl _, ohh _⟩)).2.1 (Num.most_spec _ (by simp; exact ⟨oll _, olh _, ohl _, ohh _⟩)).2.1 h1 h2
    rcases Iv.abs_cases r with ⟨-, e⟩ | ⟨-, -, e⟩ | ⟨h1, h2, e, h4, h5, h6⟩
    · have es : Iv.sqr a = Iv.make (Num.mul a.lo a.lo false) (Num.mul a.hi a.hi true) := by unfold Iv.sqr; rw [e, he]; rfl
      rw [es]
      exact key _ _ (oll _) (ohh _) (corner_lo (oll _) (olh _) (ohl _) (ohh _) (.inl rfl)) (corner_hi (oll _) (olh _) (ohl _) (ohh _) (.inr (.inr (.inr rfl))))
    · have es : Iv.sqr a = Iv.make (Num.mul a.hi a.hi false) (Num.mul a.lo a.lo true) := by
        unfold Iv.sqr; rw [e]
        show Iv.make (Num.mul a.hi.opp a.hi.opp false) (Num.mul a.lo.opp a.lo.opp true) = _
        rw [Num.mul_opp_opp ha.2 ha.2, Num.mul_opp_opp ha.1 ha.1]
      rw [es]
      exact key _ _ (ohh _) (oll _) (corner_lo (oll _) (olh _) (ohl _) (ohh _) (.inr (.inr (.inr rfl)))) (corner_hi (oll _) (olh _) (ohl _) (ohh _) (.inl rfl))
    · have es : Iv.sqr a = Iv.make (Num.mul Num.zero Num.zero false) (Num.mul (Num.most [a.hi, a.lo.opp]) (Num.most [a.hi, a.lo.opp]) true) := by unfold Iv.sqr; rw [e]; rfl
      have ez : Num.mul Num.zero Num.zero false = Num.zero := by decide
      have hm : Num.mul (Num.most [a.hi, a.lo.opp]) (Num.most [a.hi, a.lo.opp]) true = Num.mul a.lo a.lo true ∨ Num.mul (Num.most [a.hi, a.lo.opp]) (Num.most [a.hi, a.lo.opp]) true = Num.mul a.hi a.hi true := by
        rcases h4 with h4 | h4 <;> rw [h4]
        · exact .inr rfl
        · exact .inl (Num.mul_opp_opp ha.1 ha.1 true)
      rw [es, ez]
      have om : (Num.mul (Num.most [a.hi, a.lo.opp]) (Num.most [a.hi, a.lo.opp]) true).ok := by
        rcases hm with hm | hm
        · rw [hm]; exact oll _
        · rw [hm]; exact ohh _
      refine key _ _ Num.zero_ok om ?_ (corner_hi (oll _) (olh _) (ohl _) (ohh _) (by rcases hm with hm | hm <;> rw [hm] <;> simp))
      have c := corner_lo (s := Num.mul a.lo a.hi false) (oll false) (olh false) (ohl false) (ohh false) (.inr (.inl rfl))
      have b := Num.mul_below ha.1 ha.2 (by rw [Num.may_fair r.lom]; omega) (by rw [Num.may_fair r.him]; omega)
      rw [Num.may_fair (Num.mul_may ha.1 ha.2 false)] at c
      rw [Num.may_fair Num.zero_may, Num.val_zero]
      omega
end Go.Proofs.Ytincnfjihffllaa.Ev

/- The root of a number: plain Lean. -/
namespace Go.Proofs.Ytincnfjihffllaa.Ev
open Go

theorem sq_le_of {x y : Int} (hy : 0 ≤ y) (h : x * x ≤ y * y) : x ≤ y := by
  rcases Int.lt_or_le y x with h1 | h1
  · exfalso
    have h2 : y * y < x * x := by
      have a1 : y * y ≤ y * x := Int.mul_le_mul_of_nonneg_left (Int.le_of_lt h1) hy
      have a2 : y * x < x * x := Int.mul_lt_mul_of_pos_right h1 (by omega)
      omega
    omega
  · exact h1
theorem sq_lt_of {x y : Int} (hy : 0 ≤ y) (h : x * x < y * y) : x < y := by
  rcases Int.lt_or_le x y with h1 | h1
  · exact h1
  · exfalso
    have a1 : y * y ≤ y * x := Int.mul_le_mul_of_nonneg_left h1 hy
    have a2 : y * x ≤ x * x := Int.mul_le_mul_of_nonneg_right h1 (by omega)
    omega

/-- the square that a root of 64 bits comes from -/
theorem root_scale {m e k : Int} (hk0 : 0 ≤ k) (hk : k ≤ 64) (he : -1048576 ≤ e) (he' : e ≤ 1048576) (hp : (e - k) % 2 = 0) :
    pw ((e - k) / 2) * pw ((e - k) / 2) * 2 ^ k.toNat = pw 0 * pw e := by
  have e1 : pw ((e - k) / 2) * pw ((e - k) / 2) = pw 0 * pw (e - k) := by
    have := pw_mul (e := (e - k) / 2) (f := (e - k) / 2) (by omega) (by omega) (by omega)
    rw [this]; congr 2; omega
  have e2 : pw e = pw (e - k) * 2 ^ k.toNat := by
    have := pw_add (e := e - k) (f := k) (by omega) hk0
    rw [← this]; congr 1; omega
  rw [e1, e2, Int.mul_assoc]

theorem root_range {m : Nat} {k : Nat} (hm : 9223372036854775808 ≤ m) (hm' : m < 18446744073709551616) (hk : k = 64 ∨ k = 63) : 9223372036854775808 ≤ nsqrt (m * 2 ^ k) ∧ nsqrt (m * 2 ^ k) < 18446744073709551616 := by
  refine ⟨?_, nsqrt_word hm' (by rcases hk with rfl | rfl <;> decide)⟩
  have h := (nsqrt_spec (m * 2 ^ k)).2
  have h2 : 9223372036854775808 * 9223372036854775808 ≤ m * 2 ^ k := by
    rcases hk with rfl | rfl
    · have : 9223372036854775808 * 2 ^ 64 ≤ m * 2 ^ 64 := Nat.mul_le_mul_right _ hm
      have : (2 : Nat) ^ 64 = 18446744073709551616 := by decide
      omega
    · have : 9223372036854775808 * 2 ^ 63 ≤ m * 2 ^ 63 := Nat.mul_le_mul_right _ hm
      have : (2 : Nat) ^ 63 = 9223372036854775808 := by decide
      omega
  have := sq_lt (s := 9223372036854775808) (t := nsqrt (m * 2 ^ k) + 1) (by omega)
  omega

/-- what a root is grown from: n pw(e'), of which the square is not above, that of the next one above -/
theorem rootF_form {a : Num} (ha : a.Fin) (up : Bool) : ∃ n e' cut, Num.rootF a up = Num.grow false n e' cut up ∧ 9223372036854775808 ≤ n ∧ n < 18446744073709551616 ∧ -1048576 ≤ e' ∧ e' ≤ 1048575 ∧
    (if cut then n * pw e' * (n * pw e') < a.W * pw 0 else n * pw e' * (n * pw e') = a.W * pw 0) ∧ a.W * pw 0 < (n + 1) * pw e' * ((n + 1) * pw e') := by
  have hlo := ha.lo
  have hhi := ha.hi
  have el := ha.elo
  have eh := ha.ehi
  have hW := ha.W
  have core : ∀ k : Nat, (k = 64 ∨ k = 63) → (a.e - (k : Int)) % 2 = 0 → ∃ n e' cut, Num.grow false (nsqrt (a.m.toNat * 2 ^ k)) ((a.e - (k : Int)) / 2) (!decide (nsqrt (a.m.toNat * 2 ^ k) * nsqrt (a.m.toNat * 2 ^ k) = a.m.toNat * 2 ^ k)) up = Num.grow false n e' cut up ∧
      9223372036854775808 ≤ n ∧ n < 18446744073709551616 ∧ -1048576 ≤ e' ∧ e' ≤ 1048575 ∧ (if cut then n * pw e' * (n * pw e') < a.W * pw 0 else n * pw e' * (n * pw e') = a.W * pw 0) ∧ a.W * pw 0 < (n + 1) * pw e' * ((n + 1) * pw e') := by
    intro k hk hp
    have rg := root_range (m := a.m.toNat) (k := k) (by omega) (by omega) hk
    have sc := root_scale (m := a.m) (e := a.e) (k := k) (by omega) (by omega) el eh hp
    rw [Int.toNat_natCast] at sc
    have sp := nsqrt_spec (a.m.toNat * 2 ^ k)
    generalize hs : nsqrt (a.m.toNat * 2 ^ k) = s at *
    have P0 := pw_pos ((a.e - (k : Int)) / 2)
    obtain ⟨P, hP⟩ : ∃ P, P = pw ((a.e - (k : Int)) / 2) := ⟨_, rfl⟩
    rw [← hP] at sc P0
    have p0 : 0 < P * P := Int.mul_pos P0 P0
    have eT : a.W * pw 0 = ((a.m.toNat * 2 ^ k : Nat) : Int) * (P * P) := by
      rw [hW]
      have em : ((a.m.toNat : Nat) : Int) = a.m := by omega
      have e3 : ((a.m.toNat * 2 ^ k : Nat) : Int) = a.m * 2 ^ k := by push_cast; rw [em]
      rw [e3, Int.mul_assoc a.m, Int.mul_comm (pw a.e), ← sc]
      grind
    refine ⟨s, (a.e - (k : Int)) / 2, _, rfl, by omega, by omega, by omega, by omega, ?_, ?_⟩ <;> rw [← hP]
    · rw [eT]
      have e1 : (s : Int) * P * (s * P) = ((s * s : Nat) : Int) * (P * P) := by push_cast; grind
      rw [e1]
      by_cases h : s * s = a.m.toNat * 2 ^ k
      · rw [h]; simp
      · have hlt : s * s < a.m.toNat * 2 ^ k := by omega
        simp only [h, decide_false, Bool.not_false, if_true]
        exact Int.mul_lt_mul_of_pos_right (by exact_mod_cast hlt) p0
    · rw [eT]
      have e1 : ((s : Int) + 1) * P * ((s + 1) * P) = (((s + 1) * (s + 1) : Nat) : Int) * (P * P) := by push_cast; grind
      rw [e1]
      exact Int.mul_lt_mul_of_pos_right (by exact_mod_cast sp.2) p0
  unfold Num.rootF
  by_cases hp : a.e % 2 = 0
  · rw [if_pos hp]; exact core 64 (.inl rfl) (by omega)
  · rw [if_neg hp]; exact core 63 (.inr rfl) (by omega)
end Go.Proofs.Ytincnfjihffllaa.Ev

/- The root of a number to either side: sound, and the best. Plain Lean. -/
namespace Go.Proofs.Ytincnfjihffllaa.Ev
open Go

theorem grow_dn {n e : Int} {cut : Bool} (h : -1048576 ≤ e) (h' : e ≤ 1048575) : Num.grow false n e cut false = ⟨1, false, n, e⟩ := by
  unfold Num.grow Num.bound
  rw [if_neg (by simp), if_neg (by omega), if_neg (by omega)]
theorem grow_upW {n e : Int} {cut : Bool} (hn : 9223372036854775808 ≤ n) (hn' : n < 18446744073709551616) (h : -1048576 ≤ e) (h' : e ≤ 1048575) :
    (Num.grow false n e cut true).Fin ∧ (Num.grow false n e cut true).neg = false ∧ (Num.grow false n e cut true).W = (if cut then n + 1 else n) * pw e := by
  unfold Num.grow Num.bound
  cases cut with
  | false =>
    rw [if_neg (by simp), if_neg (by omega), if_neg (by omega)]
    exact ⟨⟨rfl, hn, hn', h, by show e ≤ _; omega⟩, rfl, rfl⟩
  | true =>
    rw [if_pos (by rfl)]
    by_cases hw : IntKind.u64.wrap (n + 1) = 0
    · rw [if_pos hw]
      rw [wu64] at hw
      have e1 : n = 18446744073709551615 := by omega
      have e2 : IntKind.i64.wrap (e + 1) = e + 1 := by rw [wi64]; omega
      rw [e2, if_neg (by omega), if_neg (by omega)]
      refine ⟨⟨rfl, (by show (9223372036854775808 : Int) ≤ 9223372036854775808; decide), (by show (9223372036854775808 : Int) < 18446744073709551616; decide), by show _ ≤ e + 1; omega, by show e + 1 ≤ _; omega⟩, rfl, ?_⟩
      show 9223372036854775808 * pw (e + 1) = _
      rw [pw_succ (by omega), e1]
      simp only [if_true]
      omega
    · rw [if_neg hw]
      rw [wu64] at hw
      have e1 : IntKind.u64.wrap (n + 1) = n + 1 := by rw [wu64]; omega
      rw [e1, if_neg (by omega), if_neg (by omega)]
      refine ⟨⟨rfl, by show _ ≤ n + 1; omega, by show n + 1 < _; omega, h, by show e ≤ _; omega⟩, rfl, rfl⟩

theorem rootF_dn {a : Num} (ha : a.Fin) : (Num.rootF a false).Fin ∧ (Num.rootF a false).neg = false ∧ (Num.rootF a false).W * (Num.rootF a false).W ≤ a.W * pw 0 ∧
    ∀ s : Num, s.may = true → s.ok → s.kind ≠ 2 → s.W * s.W ≤ a.W * pw 0 → s.W ≤ (Num.rootF a false).W := by
  obtain ⟨n, e, cut, er, h1, h2, h3, h4, h5, h6⟩ := rootF_form ha false
  have eg := grow_dn (n := n) (cut := cut) h3 h4
  have p := pw_pos e
  refine ⟨?_, ?_, ?_, fun s ms os ks hs => ?_⟩
  · rw [er, eg]; exact ⟨rfl, h1, h2, h3, by show e ≤ _; omega⟩
  · rw [er, eg]
  · rw [er, eg]
    show n * pw e * (n * pw e) ≤ _
    split at h5 <;> omega
  · rw [er]
    exact mag_dn h1 h2 (by omega) ms os ks (sq_lt_of (Int.le_of_lt (Int.mul_pos (by omega) p)) (by omega))
theorem rootF_up {a : Num} (ha : a.Fin) : (Num.rootF a true).Fin ∧ (Num.rootF a true).neg = false ∧ a.W * pw 0 ≤ (Num.rootF a true).W * (Num.rootF a true).W ∧
    ∀ s : Num, s.may = true → s.ok → a.W * pw 0 ≤ s.W * s.W → (Num.rootF a true).W ≤ s.W := by
  obtain ⟨n, e, cut, er, h1, h2, h3, h4, h5, h6⟩ := rootF_form ha true
  obtain ⟨g1, g2, g3⟩ := grow_upW (cut := cut) h1 h2 h3 h4
  have p := pw_pos e
  refine ⟨by rw [er]; exact g1, by rw [er]; exact g2, ?_, fun s ms os hs => ?_⟩
  · rw [er, g3]
    cases cut with
    | false => simp at h5 ⊢; omega
    | true => simp at h5 ⊢; omega
  · rw [er]
    have hs0 := W_nn s ms os
    refine mag_up h1 h2 (by omega) (by omega) ms os ?_
    cases cut with
    | false => simp at h5 ⊢; exact sq_le_of hs0 (by omega)
    | true => simp at h5 ⊢; exact sq_lt_of hs0 (by omega)
end Go.Proofs.Ytincnfjihffllaa.Ev

/- How far from nought an interval is lies within the root of its square: plain Lean. -/
namespace Go.Proofs.Ytincnfjihffllaa.Ev
open Go

theorem Num.nn_cases {x : Num} (m : x.may = true) (o : x.ok) (h : 0 ≤ x.val) : x = Num.zero ∨ (x.Fin ∧ x.neg = false) ∨ x = Num.inf false := by
  rcases Num.may3 m o with k | k | k
  · exact .inl k
  · refine .inr (.inl ⟨k, ?_⟩)
    cases hn : x.neg with
    | false => rfl
    | true => exfalso; have := k.lt; unfold Num.val at h; rw [hn] at h; simp at h; omega
  · refine .inr (.inr ?_)
    have p := pw_pos 1048640
    rw [k] at h ⊢
    rw [Num.val_inf] at h
    cases hn : x.neg with
    | false => rfl
    | true => exfalso; rw [hn] at h; simp at h; omega

theorem Num.root_zero (up : Bool) : (Num.root Num.zero up).1 = Num.zero := by cases up <;> decide
theorem Num.root_inf (up : Bool) : (Num.root (Num.inf false) up).1 = Num.inf false := by cases up <;> decide
theorem Num.root_fin {x : Num} (h : x.Fin) (hn : x.neg = false) (up : Bool) : (Num.root x up).1 = Num.rootF x up := by
  unfold Num.root
  have e : x.fair = x := Num.may_fair h.may
  rw [e, if_neg (by rw [hn]; simp), if_neg (by rw [h.kind]; simp)]
theorem Num.val_nn {x : Num} (hn : x.neg = false) : x.val = x.W := by unfold Num.val; rw [hn]; rfl

/-- the root to below of what is not above a square -/
theorem Num.root_le {x p : Num} (mx : x.may = true) (ox : x.ok) (hx : 0 ≤ x.val) (kx : x ≠ Num.inf false) (hp : 0 ≤ p.val) (h : x.val * pw 0 ≤ p.val * p.val) : (Num.root x false).1.val ≤ p.val := by
  rcases Num.nn_cases mx ox hx with k | ⟨k, hn⟩ | k
  · rw [k, Num.root_zero, Num.val_zero]; exact hp
  · obtain ⟨r1, r2, r3, -⟩ := rootF_dn k
    rw [Num.root_fin k hn, Num.val_nn r2]
    rw [Num.val_nn hn] at h
    exact sq_le_of hp (by omega)
  · exact absurd k kx
/-- the root to above of what is not below a square -/
theorem Num.le_root {x p : Num} (mx : x.may = true) (ox : x.ok) (hx : 0 ≤ x.val) (mp : p.may = true) (op : p.ok) (h : x = Num.inf false ∨ p.val * p.val ≤ x.val * pw 0) : p.val ≤ (Num.root x true).1.val := by
  rcases Num.nn_cases mx ox hx with k | ⟨k, hn⟩ | k
  · rcases h with h | h
    · rw [h] at k; exact absurd k (by decide)
    · rw [k, Num.val_zero] at h
      rw [k, Num.root_zero, Num.val_zero]
      exact sq_le_of (y := 0) (by omega) (by omega)
  · rcases h with h | h
    · have := k.kind; rw [h] at this; exact absurd this (by decide)
    · obtain ⟨r1, r2, r3, -⟩ := rootF_up k
      rw [Num.root_fin k hn, Num.val_nn r2]
      rw [Num.val_nn hn] at h
      have w := r1.lt
      exact sq_le_of (by omega) (by omega)
  · rw [k, Num.root_inf, Num.val_inf]
    have := (Num.val_le mp op).2
    simpa using this
theorem Num.root_may {x : Num} (mx : x.may = true) (ox : x.ok) (hx : 0 ≤ x.val) (up : Bool) : (Num.root x up).1.may = true ∧ 0 ≤ (Num.root x up).1.val := by
  rcases Num.nn_cases mx ox hx with k | ⟨k, hn⟩ | k
  · rw [k, Num.root_zero]; exact ⟨Num.zero_may, by rw [Num.val_zero]; omega⟩
  · rw [Num.root_fin k hn]
    cases up with
    | false => obtain ⟨r1, r2, -, -⟩ := rootF_dn k; have := r1.lt; exact ⟨r1.may, by rw [Num.val_nn r2]; omega⟩
    | true => obtain ⟨r1, r2, -, -⟩ := rootF_up k; have := r1.lt; exact ⟨r1.may, by rw [Num.val_nn r2]; omega⟩
  · rw [k, Num.root_inf]
    exact ⟨Num.inf_may _, by rw [Num.val_inf]; have := pw_pos 1048640; simp; omega⟩

/-- What is not below nought is left by the positive ones. -/
theorem Iv.meet_positive {x : Iv} (r : x.Real) (h : 0 ≤ x.lo.val) : Iv.meet [x, Iv.positive] = x := by
  have ep : Iv.positive = ⟨false, Num.zero, Num.inf false⟩ := by decide
  have fp : Iv.positive.fair = Iv.positive := by decide
  have se := r.some
  have g : Iv.goods [x, Iv.positive] = [x, Iv.positive] := by
    simp only [Iv.goods, r.fair, fp, se]
    rw [if_neg (by decide), if_neg (by decide)]
  have ag : Iv.allGood [x, Iv.positive] = true := by
    simp only [Iv.allGood, List.all_cons, List.all_nil, r.fair, fp, se]; decide
  have m1 := Num.most_spec [x.lo, Num.zero] (by simp; exact ⟨r.loo, Num.zero_ok⟩)
  have m2 := Num.least_spec [x.hi, Num.inf false] (by simp; exact ⟨r.hio, Num.inf_ok _⟩)
  have p := pw_pos 1048640
  have el : Num.most [x.lo, Num.zero] = x.lo := by
    refine Num.val_inj m1.1 r.lom m1.2.1 r.loo ?_
    have a1 := m1.2.2.1 x.lo (by simp)
    rw [Num.may_fair r.lom] at a1
    rcases m1.2.2.2 with e | ⟨y, hy, e⟩
    · rw [e, Num.val_inf] at a1; simp at a1; omega
    · simp at hy
      rcases hy with rfl | rfl
      · rw [e, Num.may_fair r.lom]
      · rw [e, Num.may_fair Num.zero_may, Num.val_zero] at a1 ⊢; omega
  have eh : Num.least [x.hi, Num.inf false] = x.hi := by
    refine Num.val_inj m2.1 r.him m2.2.1 r.hio ?_
    have a1 := m2.2.2.1 x.hi (by simp)
    rw [Num.may_fair r.him] at a1
    have t := (Num.val_le r.him r.hio).2
    rcases m2.2.2.2 with e | ⟨y, hy, e⟩
    · rw [e, Num.val_inf] at a1 ⊢; simp at a1 ⊢; omega
    · simp at hy
      rcases hy with rfl | rfl
      · rw [e, Num.may_fair r.him]
      · rw [e, Num.may_fair (Num.inf_may _), Num.val_inf] at a1 ⊢; simp at a1 ⊢; omega
  unfold Iv.meet
  rw [if_pos ag]
  have l1 : Iv.los [x, Iv.positive] = [x.lo, Num.zero] := by unfold Iv.los; rw [g, ep]; rfl
  have l2 : Iv.his [x, Iv.positive] = [x.hi, Num.inf false] := by unfold Iv.his; rw [g, ep]; rfl
  rw [l1, l2, el, eh]
  have := Iv.make_real (lo := x.lo) (hi := x.hi) (by rw [Num.may_fair r.lom, Num.may_fair r.him]; exact ⟨rfl, r.lom, r.him, r.loo, r.hio, r.le, r.lt, r.gt⟩)
  rw [this, Num.may_fair r.lom, Num.may_fair r.him]
  cases x; simp_all
end Go.Proofs.Ytincnfjihffllaa.Ev
