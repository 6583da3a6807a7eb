/- Texts of the proof, joined: N1 N2 N4 N5 N6 Bn10 Ev28 N7 N8 Bn11 N9 N3 Bn12 N10 N11 C23 Pu24 Pu25 Br7 R24 Br8 R19 Br9 R20 Br10 R21 R25 Br12 R22 R26 R27 C31 Pu26 Pu28a Pu28 Pu29 Pu30 Pu31 -/
import Derived.Test.YtoghalnnmhpfmaaGreatB5
set_option linter.unusedVariables false
set_option linter.unusedSimpArgs false

/- Contracts: limbs cut of their noughts, their copies, which of two is less. Printed by gen.py. -/
namespace Go.Proofs.YtoghalnnmhpfmaaGreat.Ev
open Go Go.Proofs
set_option linter.unusedVariables false
set_option linter.unusedSimpArgs false

attribute [local irreducible] Lb
theorem c_cut (a : List Int) (ha : Lb a) (hb : a.length < 9223372036854775808) : ∃ t : List Int, t = lim (lv a) ∧ CallsA Tryz.prog 124 [.sli .u32 a] (.sli .u32 t) := by
  refine ⟨_, rfl, ?_⟩
  generalize hr : lim (lv a) = r
  refine callsA_of hG hm Tryz.func124 (by kernel_rfl) ?_
  intro E hE lp hl
  cbv
  refine E_loop hE hG hm hl (fun (p : List Int) => (⟨[(0, .sli .u32 p), (2, .s0)], []⟩ : St)) (fun p => p.length) (fun p => ∃ k : Nat, k ≤ a.length ∧ p = a.take k ∧ lv (a.take k) = lv a) ⟨a, ⟨a.length, Nat.le_refl _, by simp, by simp⟩, stLe rfl ?_⟩ ?_
  · (repeat' (first | exact t_nil | apply t_cons | exact u2_sli | exact u2_int | exact u2_bool | exact u2_ms | exact u2_ptr | exact (rfl : sle2 .s0 .s0)))
  rintro p ⟨k, hk, hp, hv⟩
  have hpl : p.length = k := by rw [hp]; simp; omega
  cbv
  repeat' (first
    | (refine E_br hE (fun h => ?_) (fun h => ?_) <;> cbv)
    | (refine E_nm hE (fun v hv => ?_); cbv)
    | (refine E_nilS hE (fun b hb => ?_); cbv)
    | fail)
  case refine_2.refine_1.refine_1.refine_1.refine_1.refine_1.refine_1 =>
    refine ⟨E.sub p 0 (E.bin .sub .i64 (E.len p) 1), ?_, ⟨k - 1, ?_, ?_, ?_⟩, stLe rfl ?_⟩
    rotate_right
    · (repeat' (first | exact t_nil | apply t_cons | exact u2_sli | exact u2_int | exact u2_bool | exact u2_ms | exact u2_ptr | exact (rfl : sle2 .s0 .s0)))
    all_goals (subst hE; simp only [NatCast.natCast, Int.ofNat_eq_natCast, realE, cmp_eql, cmp_neq, cmp_lss, cmp_leq, cmp_gtr, cmp_geq, intBinR, decide_eq_true_eq, decide_eq_false_iff_not, SI.val, SB.val, Num.eta, Iv.eta] at *)
    all_goals (rw [hpl] at *; rw [wi64_pred (by omega) (by omega)] at *)
    all_goals (have e0 : ((k : Int) - 1).toNat = k - 1 := by omega)
    · simp; omega
    · omega
    · rw [e0, hp]; simp [List.take_take]
    · rw [lv_cut_step (by omega) hk ?_, hv]
      rw [← getD_take (k := k) (by omega), ← hp, ← e0]; assumption
  all_goals (subst hE; simp only [NatCast.natCast, Int.ofNat_eq_natCast, realE, cmp_eql, cmp_neq, cmp_lss, cmp_leq, cmp_gtr, cmp_geq, intBinR, decide_eq_true_eq, decide_eq_false_iff_not, SI.val, SB.val, Num.eta, Iv.eta] at *)
  all_goals (rw [hpl] at *)
  all_goals (try (rw [wi64_pred (by omega) (by omega)] at *))
  all_goals (try (exfalso; omega))
  all_goals (rw [← hr, hp])
  · exact cut_end ha hk (.inr (by rw [← getD_take (k := k) (by omega), ← hp]; rw [show ((k : Int) - 1).toNat = k - 1 by omega] at h; exact h)) hv
  · exact cut_end ha hk (.inl (by omega)) hv

theorem c_Clone (a : List Int) (hlb : a.length ≤ 268435456) : ∃ t : List Int, t = a ∧ CallsA Tryz.prog 131 [.sli .u32 a] (.sli .u32 t) := by
  refine ⟨_, rfl, ?_⟩
  generalize hr : a = r
  refine callsA_of hG hm Tryz.func131 (by kernel_rfl) ?_
  intro E hE lp hl
  cbv
  repeat' (first
    | (refine E_br hE (fun h => ?_) (fun h => ?_) <;> cbv)
    | (refine E_nm hE (fun v hv => ?_); cbv)
    | (refine E_nilS hE (fun b hb => ?_); cbv)
    | fail)
  all_goals (subst hE; simp only [NatCast.natCast, Int.ofNat_eq_natCast, realE, cmp_eql, cmp_neq, cmp_lss, cmp_leq, cmp_gtr, cmp_geq, intBinR, decide_eq_true_eq, decide_eq_false_iff_not, SI.val, SB.val, Num.eta, Iv.eta] at *)
  · exact List.length_eq_zero_iff.1 (by have := hb h; omega)
  · simp
  · subst hr; omega

theorem c_natCmp (a b : List Int) (ha : Lb a) (hb : Lb b) (hla : a.length ≤ 268435456) (hlb : b.length ≤ 268435456) : ∃ t : Int, t = (if lv a < lv b then -1 else if lv b < lv a then 1 else 0 : Int) ∧ CallsA Tryz.prog 129 [.sli .u32 a, .sli .u32 b] (.int .i64 (.s t)) := by
  refine ⟨_, rfl, ?_⟩
  generalize hr : (if lv a < lv b then -1 else if lv b < lv a then 1 else 0 : Int) = r
  have hl1 := lim_length_le' ha
  have hl2 := lim_length_le' hb
  have l1 := lim_lb (lv a)
  have l2 := lim_lb (lv b)
  have v1 := lv_lim (lv a)
  have v2 := lv_lim (lv b)
  have k1 : (lim (lv a)).length < (lim (lv b)).length → r = -1 := by
    intro h; rw [← hr, if_pos (lim_len_lt h)]
  have k2 : (lim (lv b)).length < (lim (lv a)).length → r = 1 := by
    intro h; have := lim_len_lt h; rw [← hr, if_neg (by omega), if_pos this]
  have k3 : lv (lim (lv a)) < lv (lim (lv b)) → r = -1 := by
    intro h; rw [v1, v2] at h; rw [← hr, if_pos h]
  have k4 : lv (lim (lv b)) < lv (lim (lv a)) → r = 1 := by
    intro h; rw [v1, v2] at h; rw [← hr, if_neg (by omega), if_pos h]
  have k5 : lim (lv a) = lim (lv b) → r = 0 := by
    intro h; have := lim_inj h; rw [← hr, if_neg (by omega), if_neg (by omega)]
  refine callsA_of hG hm Tryz.func129 (by kernel_rfl) ?_
  intro E hE lp hl
  cbv
  (apply E_callX hE (c_cut a ha (by omega)); (case hf => rfl); (case hc => (cbv <;> trivial)); (case hle => exact ⟨u2_sli, trivial⟩); intro x hx; cbv)
  (apply E_callX hE (c_cut b hb (by omega)); (case hf => rfl); (case hc => (cbv <;> trivial)); (case hle => exact ⟨u2_sli, trivial⟩); intro y hy; cbv)
  repeat' (first
    | (refine E_br hE (fun h => ?_) (fun h => ?_) <;> cbv)
    | (refine E_nm hE (fun v hv => ?_); cbv)
    | (refine E_nilS hE (fun b hb => ?_); cbv)
    | fail)
  case hK.hK.refine_1 => subst hE; simp only [NatCast.natCast, Int.ofNat_eq_natCast, realE, cmp_eql, cmp_neq, cmp_lss, cmp_leq, cmp_gtr, cmp_geq, intBinR, decide_eq_true_eq, decide_eq_false_iff_not, SI.val, SB.val, Num.eta, Iv.eta] at *; rw [k1 (by rw [← hx, ← hy]; omega)]
  case hK.hK.refine_2.refine_1 => subst hE; simp only [NatCast.natCast, Int.ofNat_eq_natCast, realE, cmp_eql, cmp_neq, cmp_lss, cmp_leq, cmp_gtr, cmp_geq, intBinR, decide_eq_true_eq, decide_eq_false_iff_not, SI.val, SB.val, Num.eta, Iv.eta] at *; rw [k2 (by rw [← hx, ← hy]; omega)]
  have hlen : x.length = y.length := by subst hE; simp only [NatCast.natCast, Int.ofNat_eq_natCast, realE, cmp_eql, cmp_neq, cmp_lss, cmp_leq, cmp_gtr, cmp_geq, intBinR, decide_eq_true_eq, decide_eq_false_iff_not, SI.val, SB.val, Num.eta, Iv.eta] at *; omega
  rw [← hx] at k1 k2 k3 k4 k5 hl1 l1
  rw [← hy] at k1 k2 k3 k4 k5 hl2 l2
  obtain ⟨m, em⟩ : ∃ m : Int → Nat, ∀ i, m i = (x.length - i).toNat := ⟨_, fun _ => rfl⟩
  obtain ⟨ok, eok⟩ : ∃ ok : Int → Prop, ∀ i, ok i ↔ 0 ≤ i ∧ i ≤ x.length ∧ x.drop (x.length - i).toNat = y.drop (x.length - i).toNat := ⟨_, fun _ => Iff.rfl⟩
  refine E_loop hE hG hm hl (fun i : Int => (⟨[(0, .sli .u32 x), (1, .sli .u32 y), (24, .int .i64 (.s (E.len x))), (25, .int .i64 (.s i))], []⟩ : St)) m ok ⟨0, (eok 0).2 ⟨by omega, by omega, ?_⟩, stLe rfl ?_⟩ ?_
  · rw [show ((x.length : Int) - 0).toNat = x.length by omega, List.drop_length, List.drop_eq_nil_of_le (by omega)]
  · (repeat' (first | exact t_nil | apply t_cons | exact u2_sli | exact u2_int | exact u2_bool | exact u2_ms | exact u2_ptr | exact (rfl : sle2 .s0 .s0)))
  intro i hok
  obtain ⟨h1, h2, h3⟩ := (eok i).1 hok
  have low : ∀ v : Int, v = x.length - 1 - i → i < x.length → x.getD v.toNat 0 < y.getD v.toNat 0 → -1 = r := by
    intro v hv hi h
    exact (k3 (cmp_step l1 l2 (k := v.toNat) hlen (by omega) (by rw [show v.toNat + 1 = ((x.length : Int) - i).toNat by omega]; exact h3) h)).symm
  have high : ∀ v : Int, v = x.length - 1 - i → i < x.length → y.getD v.toNat 0 < x.getD v.toNat 0 → 1 = r := by
    intro v hv hi h
    exact (k4 (cmp_step l2 l1 (k := v.toNat) hlen.symm (by omega) (by rw [show v.toNat + 1 = ((x.length : Int) - i).toNat by omega]; exact h3.symm) h)).symm
  have same : ∀ v : Int, v = x.length - 1 - i → i < x.length → ¬ y.getD v.toNat 0 < x.getD v.toNat 0 → ¬ x.getD v.toNat 0 < y.getD v.toNat 0 → x.drop (x.length - (i + 1)).toNat = y.drop (x.length - (i + 1)).toNat := by
    intro v hv hi h h'
    rw [show ((x.length : Int) - (i + 1)).toNat = v.toNat by omega]
    exact drop_step hlen (by omega) (by rw [show v.toNat + 1 = ((x.length : Int) - i).toNat by omega]; exact h3) (by omega)
  have done : ¬ i < x.length → 0 = r := by
    intro h
    rw [k5 (by rw [show ((x.length : Int) - i).toNat = 0 by omega] at h3; simpa using h3)]
  clear h3 k1 k2 k3 k4 k5
  cbv
  repeat' (first
    | (refine E_br hE (fun h => ?_) (fun h => ?_) <;> cbv)
    | (refine E_nm hE (fun v hv => ?_); cbv)
    | (refine E_nilS hE (fun b hb => ?_); cbv)
    | fail)
  all_goals (try refine ⟨E.bin .add .i64 i 1, ?_, ?_, stLe rfl ?_⟩)
  all_goals (try ((repeat' (first | exact t_nil | apply t_cons | exact u2_sli | exact u2_int | exact u2_bool | exact u2_ms | exact u2_ptr | exact (rfl : sle2 .s0 .s0))); done))
  all_goals (subst hE; simp only [NatCast.natCast, Int.ofNat_eq_natCast, realE, cmp_eql, cmp_neq, cmp_lss, cmp_leq, cmp_gtr, cmp_geq, intBinR, decide_eq_true_eq, decide_eq_false_iff_not, SI.val, SB.val, Num.eta, Iv.eta] at *)
  all_goals (try exact done ‹_›)
  all_goals (have hi : i < x.length := ‹_›; try rw [wi64_succ h1 hi (by omega)])
  all_goals (have hv : ∀ v w, w = i → v = IntKind.i64.wrap (IntKind.i64.wrap ((x.length : Int) - 1) - w) → v = x.length - 1 - i := by (intro v w h h'; rw [wi64, wi64] at h'; omega))
  all_goals (replace hv := hv _ _ ‹_ = i› ‹_›)
  all_goals (first | omega | (rw [em, em]; omega) | exact low _ hv hi ‹_› | exact high _ hv hi ‹_› | exact (eok _).2 ⟨by omega, by omega, same _ hv hi ‹_› ‹_›⟩)

end Go.Proofs.YtoghalnnmhpfmaaGreat.Ev

/- Contracts: the sum of limbs. Printed by gen.py. -/
namespace Go.Proofs.YtoghalnnmhpfmaaGreat.Ev
open Go Go.Proofs
set_option linter.unusedVariables false
set_option linter.unusedSimpArgs false


attribute [local irreducible] Lb
theorem sub_all {l : List Int} {n : Int} (h : n = l.length) : (l.drop (0 : Int).toNat).take n.toNat = l := by subst h; simp

def addI (E : Env) (x y : List Int) : Int × Int × List Int → St := fun p => ⟨[(0, .sli .u32 x), (1, .sli .u32 y), (5, .ms 0 1 (.l 0) (.s (E.bin .add .i64 (E.len x) 1))), (6, .int .u32 (.s p.2.1)), (21, .int .i64 (.s (E.len x))), (22, .int .i64 (.s p.1))], [.ints true .u32 p.2.2]⟩

theorem c_natAdd (a b : List Int) (ha : Lb a) (hb : Lb b) (hla : a.length < 268435456) (hlb : b.length < 268435456) : ∃ t : List Int, t = lim (lv a + lv b) ∧ CallsA Tryz.prog 128 [.sli .u32 a, .sli .u32 b] (.sli .u32 t) := by
  refine ⟨_, rfl, ?_⟩
  generalize hr : lim (lv a + lv b) = r
  refine callsA_of hG hm Tryz.func128 (by kernel_rfl) ?_
  intro E hE lp hl
  cbv
  refine E_br hE (fun h => ?_) (fun h => ?_)
  · have hsum : lv b + lv a = lv a + lv b := Nat.add_comm _ _
    have hxy : a.length ≤ b.length := by subst hE; simp only [NatCast.natCast, Int.ofNat_eq_natCast, realE, cmp_eql, cmp_neq, cmp_lss, cmp_leq, cmp_gtr, cmp_geq, intBinR, decide_eq_true_eq, decide_eq_false_iff_not, SI.val, SB.val, Num.eta, Iv.eta] at *; omega

    have h32 : IntKind.i64.wrap ((b.length : Int) + 1) = b.length + 1 := wi64_id (by omega) (by omega)
    cbv
    repeat' (first
    | (refine E_br hE (fun h => ?_) (fun h => ?_) <;> cbv)
    | (refine E_nm hE (fun v hv => ?_); cbv)
    | (refine E_nilS hE (fun b hb => ?_); cbv)
    | fail)
    all_goals (try (exfalso; subst hE; simp only [NatCast.natCast, Int.ofNat_eq_natCast, realE, cmp_eql, cmp_neq, cmp_lss, cmp_leq, cmp_gtr, cmp_geq, intBinR, decide_eq_true_eq, decide_eq_false_iff_not, SI.val, SB.val, Num.eta, Iv.eta] at *; rw [h32] at *; omega))
    obtain ⟨m, em⟩ : ∃ m : Int × Int × List Int → Nat, ∀ p, m p = (b.length - p.1).toNat := ⟨_, fun _ => rfl⟩
    obtain ⟨ok, eok⟩ : ∃ ok : Int × Int × List Int → Prop, ∀ p, ok p ↔ 0 ≤ p.1 ∧ p.1 ≤ b.length ∧ AddInv b a p.2.2 p.1.toNat p.2.1 := ⟨_, fun _ => Iff.rfl⟩
    refine E_loop hE hG hm hl (addI E b a) m ok ⟨(0, 0, E.rep (E.bin .add .i64 (E.len b) 1)), (eok _).2 ?_, stLe rfl ?_⟩ ?_
    · refine ⟨by show (0 : Int) ≤ 0; omega, by show (0 : Int) ≤ b.length; omega, ?_⟩
      have := AddInv.start b a
      subst hE; simp only [NatCast.natCast, Int.ofNat_eq_natCast, realE, cmp_eql, cmp_neq, cmp_lss, cmp_leq, cmp_gtr, cmp_geq, intBinR, decide_eq_true_eq, decide_eq_false_iff_not, SI.val, SB.val, Num.eta, Iv.eta] at *; rw [h32]
      exact this
    · (repeat' (first | exact t_nil | apply t_cons | exact u2_sli | exact u2_int | exact u2_bool | exact u2_ms | exact u2_ptr | exact (rfl : sle2 .s0 .s0)))
    rintro ⟨i, c, out⟩ hok
    obtain ⟨h1, h2, inv⟩ := (eok _).1 hok
    dsimp only at h1 h2 inv
    have hgx := hb.getD i.toNat
    have hgy := ha.getD i.toNat
    have hc0 := inv.c0
    have hc1 := inv.c1
    have hol := inv.len
    have next : ∀ (j k c' z : Int) (v : Int × Int), i < b.length → k = i → j = IntKind.i64.wrap (i + 1) → (z = a.getD k.toNat 0 ∨ (¬ k < a.length ∧ z = 0)) →
        v = ((b.getD k.toNat 0 + z + c) % 4294967296, (b.getD k.toNat 0 + z + c) / 4294967296) → c' = v.2 →
        m (j, c', out.set k.toNat v.1) < m (i, c, out) ∧ ok (j, c', out.set k.toNat v.1) := by
      intro j k c' z v h hk hj hz hv hc
      subst hk
      have hz : z = a.getD k.toNat 0 := by
        rcases hz with hz | ⟨hz, h0⟩
        · exact hz
        · rw [h0, getD_past (by omega)]
      have hj : j = k + 1 := by rw [hj, wi64_id (by omega) (by omega)]
      refine ⟨by rw [em, em]; show ((b.length : Int) - j).toNat < ((b.length : Int) - k).toNat; omega, (eok _).2 ⟨by show 0 ≤ j; omega, by show j ≤ (b.length : Int); omega, ?_⟩⟩
      have := inv.step hb ha (by omega)
      rw [← hz] at this
      rw [hc, hv, hj]
      show AddInv b a (out.set k.toNat ((b.getD k.toNat 0 + z + c) % 4294967296)) (k + 1).toNat ((b.getD k.toNat 0 + z + c) / 4294967296)
      rw [show (k + 1).toNat = k.toNat + 1 by omega]
      exact this
    have fin : ¬ i < b.length → Lb (out.set (b.length : Int).toNat c) ∧ lim (lv (out.set (b.length : Int).toNat c)) = r := by
      intro h
      rw [show i.toNat = b.length by omega] at inv
      obtain ⟨k1, k2⟩ := inv.stop hxy
      rw [Int.toNat_natCast]
      exact ⟨k1, by rw [k2, hsum, hr]⟩
    clear inv hok hr
    cbv
    repeat' (first
    | (refine E_br hE (fun h => ?_) (fun h => ?_) <;> cbv)
    | (refine E_nm hE (fun v hv => ?_); cbv)
    | (refine E_nilS hE (fun b hb => ?_); cbv)
    | (apply E_callX hE (c_Add32 _ _ _ ?_ ?_ ?_ ?_ ?_ ?_); (case hf => rfl); (case hc => (cbv <;> trivial)); (case hle => exact u_up); all_goals (first | (intro t ht; cbv) | (subst hE; (try simp only [NatCast.natCast, Int.ofNat_eq_natCast, realE, cmp_eql, cmp_neq, cmp_lss, cmp_leq, cmp_gtr, cmp_geq, intBinR, decide_eq_true_eq, decide_eq_false_iff_not, SI.val, SB.val, Num.eta, Iv.eta] at *); subst_vars; (first | assumption | omega))))
    | (apply E_callX hE (c_cut _ ?_ ?_); (case hf => rfl); (case hc => (cbv <;> trivial)); (case hle => exact u_up); all_goals (first | (intro t ht; cbv) | ((subst hE; simp only [NatCast.natCast, Int.ofNat_eq_natCast, realE, cmp_eql, cmp_neq, cmp_lss, cmp_leq, cmp_gtr, cmp_geq, intBinR, decide_eq_true_eq, decide_eq_false_iff_not, SI.val, SB.val, Num.eta, Iv.eta] at *; rw [h32] at *; rw [sub_all (by rw [List.length_set]; omega)]; first | exact (fin ‹_›).1 | (rw [List.length_set]; omega)))))
    | fail)
    all_goals (try refine ⟨(E.bin .add .i64 i 1, v, E.set out _ t.1), ?_, ?_, stLe rfl ?_⟩)
    all_goals (try ((repeat' (first | exact t_nil | apply t_cons | exact u2_sli | exact u2_int | exact u2_bool | exact u2_ms | exact u2_ptr | exact (rfl : sle2 .s0 .s0))); done))
    all_goals (subst hE; simp only [NatCast.natCast, Int.ofNat_eq_natCast, realE, cmp_eql, cmp_neq, cmp_lss, cmp_leq, cmp_gtr, cmp_geq, intBinR, decide_eq_true_eq, decide_eq_false_iff_not, SI.val, SB.val, Num.eta, Iv.eta] at *)
    all_goals (first | exact (next _ _ _ _ _ ‹_› ‹_› rfl (by first | exact .inl ‹_› | exact .inr ⟨‹_›, rfl⟩) ‹t = _› ‹_›).1 | exact (next _ _ _ _ _ ‹_› ‹_› rfl (by first | exact .inl ‹_› | exact .inr ⟨‹_›, rfl⟩) ‹t = _› ‹_›).2 | (exfalso; clear next fin; rw [h32] at *; omega) | skip)
    rw [‹t = _›, h32, sub_all (by rw [List.length_set]; omega), (fin ‹_›).2]
  · have hsum : lv a + lv b = lv a + lv b := rfl
    have hxy : b.length ≤ a.length := by subst hE; simp only [NatCast.natCast, Int.ofNat_eq_natCast, realE, cmp_eql, cmp_neq, cmp_lss, cmp_leq, cmp_gtr, cmp_geq, intBinR, decide_eq_true_eq, decide_eq_false_iff_not, SI.val, SB.val, Num.eta, Iv.eta] at *; omega

    have h32 : IntKind.i64.wrap ((a.length : Int) + 1) = a.length + 1 := wi64_id (by omega) (by omega)
    cbv
    repeat' (first
    | (refine E_br hE (fun h => ?_) (fun h => ?_) <;> cbv)
    | (refine E_nm hE (fun v hv => ?_); cbv)
    | (refine E_nilS hE (fun b hb => ?_); cbv)
    | fail)
    all_goals (try (exfalso; subst hE; simp only [NatCast.natCast, Int.ofNat_eq_natCast, realE, cmp_eql, cmp_neq, cmp_lss, cmp_leq, cmp_gtr, cmp_geq, intBinR, decide_eq_true_eq, decide_eq_false_iff_not, SI.val, SB.val, Num.eta, Iv.eta] at *; rw [h32] at *; omega))
    obtain ⟨m, em⟩ : ∃ m : Int × Int × List Int → Nat, ∀ p, m p = (a.length - p.1).toNat := ⟨_, fun _ => rfl⟩
    obtain ⟨ok, eok⟩ : ∃ ok : Int × Int × List Int → Prop, ∀ p, ok p ↔ 0 ≤ p.1 ∧ p.1 ≤ a.length ∧ AddInv a b p.2.2 p.1.toNat p.2.1 := ⟨_, fun _ => Iff.rfl⟩
    refine E_loop hE hG hm hl (addI E a b) m ok ⟨(0, 0, E.rep (E.bin .add .i64 (E.len a) 1)), (eok _).2 ?_, stLe rfl ?_⟩ ?_
    · refine ⟨by show (0 : Int) ≤ 0; omega, by show (0 : Int) ≤ a.length; omega, ?_⟩
      have := AddInv.start a b
      subst hE; simp only [NatCast.natCast, Int.ofNat_eq_natCast, realE, cmp_eql, cmp_neq, cmp_lss, cmp_leq, cmp_gtr, cmp_geq, intBinR, decide_eq_true_eq, decide_eq_false_iff_not, SI.val, SB.val, Num.eta, Iv.eta] at *; rw [h32]
      exact this
    · (repeat' (first | exact t_nil | apply t_cons | exact u2_sli | exact u2_int | exact u2_bool | exact u2_ms | exact u2_ptr | exact (rfl : sle2 .s0 .s0)))
    rintro ⟨i, c, out⟩ hok
    obtain ⟨h1, h2, inv⟩ := (eok _).1 hok
    dsimp only at h1 h2 inv
    have hgx := ha.getD i.toNat
    have hgy := hb.getD i.toNat
    have hc0 := inv.c0
    have hc1 := inv.c1
    have hol := inv.len
    have next : ∀ (j k c' z : Int) (v : Int × Int), i < a.length → k = i → j = IntKind.i64.wrap (i + 1) → (z = b.getD k.toNat 0 ∨ (¬ k < b.length ∧ z = 0)) →
        v = ((a.getD k.toNat 0 + z + c) % 4294967296, (a.getD k.toNat 0 + z + c) / 4294967296) → c' = v.2 →
        m (j, c', out.set k.toNat v.1) < m (i, c, out) ∧ ok (j, c', out.set k.toNat v.1) := by
      intro j k c' z v h hk hj hz hv hc
      subst hk
      have hz : z = b.getD k.toNat 0 := by
        rcases hz with hz | ⟨hz, h0⟩
        · exact hz
        · rw [h0, getD_past (by omega)]
      have hj : j = k + 1 := by rw [hj, wi64_id (by omega) (by omega)]
      refine ⟨by rw [em, em]; show ((a.length : Int) - j).toNat < ((a.length : Int) - k).toNat; omega, (eok _).2 ⟨by show 0 ≤ j; omega, by show j ≤ (a.length : Int); omega, ?_⟩⟩
      have := inv.step ha hb (by omega)
      rw [← hz] at this
      rw [hc, hv, hj]
      show AddInv a b (out.set k.toNat ((a.getD k.toNat 0 + z + c) % 4294967296)) (k + 1).toNat ((a.getD k.toNat 0 + z + c) / 4294967296)
      rw [show (k + 1).toNat = k.toNat + 1 by omega]
      exact this
    have fin : ¬ i < a.length → Lb (out.set (a.length : Int).toNat c) ∧ lim (lv (out.set (a.length : Int).toNat c)) = r := by
      intro h
      rw [show i.toNat = a.length by omega] at inv
      obtain ⟨k1, k2⟩ := inv.stop hxy
      rw [Int.toNat_natCast]
      exact ⟨k1, by rw [k2, hsum, hr]⟩
    clear inv hok hr
    cbv
    repeat' (first
    | (refine E_br hE (fun h => ?_) (fun h => ?_) <;> cbv)
    | (refine E_nm hE (fun v hv => ?_); cbv)
    | (refine E_nilS hE (fun b hb => ?_); cbv)
    | (apply E_callX hE (c_Add32 _ _ _ ?_ ?_ ?_ ?_ ?_ ?_); (case hf => rfl); (case hc => (cbv <;> trivial)); (case hle => exact u_up); all_goals (first | (intro t ht; cbv) | (subst hE; (try simp only [NatCast.natCast, Int.ofNat_eq_natCast, realE, cmp_eql, cmp_neq, cmp_lss, cmp_leq, cmp_gtr, cmp_geq, intBinR, decide_eq_true_eq, decide_eq_false_iff_not, SI.val, SB.val, Num.eta, Iv.eta] at *); subst_vars; (first | assumption | omega))))
    | (apply E_callX hE (c_cut _ ?_ ?_); (case hf => rfl); (case hc => (cbv <;> trivial)); (case hle => exact u_up); all_goals (first | (intro t ht; cbv) | ((subst hE; simp only [NatCast.natCast, Int.ofNat_eq_natCast, realE, cmp_eql, cmp_neq, cmp_lss, cmp_leq, cmp_gtr, cmp_geq, intBinR, decide_eq_true_eq, decide_eq_false_iff_not, SI.val, SB.val, Num.eta, Iv.eta] at *; rw [h32] at *; rw [sub_all (by rw [List.length_set]; omega)]; first | exact (fin ‹_›).1 | (rw [List.length_set]; omega)))))
    | fail)
    all_goals (try refine ⟨(E.bin .add .i64 i 1, v, E.set out _ t.1), ?_, ?_, stLe rfl ?_⟩)
    all_goals (try ((repeat' (first | exact t_nil | apply t_cons | exact u2_sli | exact u2_int | exact u2_bool | exact u2_ms | exact u2_ptr | exact (rfl : sle2 .s0 .s0))); done))
    all_goals (subst hE; simp only [NatCast.natCast, Int.ofNat_eq_natCast, realE, cmp_eql, cmp_neq, cmp_lss, cmp_leq, cmp_gtr, cmp_geq, intBinR, decide_eq_true_eq, decide_eq_false_iff_not, SI.val, SB.val, Num.eta, Iv.eta] at *)
    all_goals (first | exact (next _ _ _ _ _ ‹_› ‹_› rfl (by first | exact .inl ‹_› | exact .inr ⟨‹_›, rfl⟩) ‹t = _› ‹_›).1 | exact (next _ _ _ _ _ ‹_› ‹_› rfl (by first | exact .inl ‹_› | exact .inr ⟨‹_›, rfl⟩) ‹t = _› ‹_›).2 | (exfalso; clear next fin; rw [h32] at *; omega) | skip)
    rw [‹t = _›, h32, sub_all (by rw [List.length_set]; omega), (fin ‹_›).2]

end Go.Proofs.YtoghalnnmhpfmaaGreat.Ev

/- Contracts: limbs shifted. Printed by gen.py. -/
namespace Go.Proofs.YtoghalnnmhpfmaaGreat.Ev
open Go Go.Proofs
set_option linter.unusedVariables false
set_option linter.unusedSimpArgs false


attribute [local irreducible] Lb
def shlS (E : Env) (x : List Int) (l r : Int) : Int × List Int → St := fun p => ⟨[(0, .sli .u32 x), (5, .int .i64 (.s l)), (6, .int .i64 (.s r)), (7, .ms 0 1 (.l 0) (.s (E.bin .add .i64 (E.bin .add .i64 (E.len x) l) 1))), (36, .sli .u32 x), (37, .int .i64 (.s (E.len x))), (38, .int .i64 (.s p.1))], [.ints true .u32 p.2]⟩
set_option maxHeartbeats 1000000 in
theorem c_natShl (a : List Int) (n : Int) (ha : Lb a) (hla : a.length < 67108864) : ∃ t : List Int, t = (if n < 1 then lim (lv a) else if 16777216 < n then [] else lim (lv a * 2 ^ n.toNat)) ∧ CallsA Tryz.prog 93 [.sli .u32 a, .int .i64 (.s n)] (.sli .u32 t) := by
  refine ⟨_, rfl, ?_⟩
  generalize hr : (if n < 1 then lim (lv a) else if 16777216 < n then [] else lim (lv a * 2 ^ n.toNat)) = r
  have hlx := lim_length_le' ha
  have hx := lim_lb (lv a)
  have vx := lv_lim (lv a)
  obtain ⟨x, ex⟩ : ∃ x, lim (lv a) = x := ⟨_, rfl⟩
  rw [ex] at hlx hx vx
  obtain ⟨m, em⟩ : ∃ m : Int × List Int → Nat, ∀ p, m p = (x.length - p.1).toNat := ⟨_, fun _ => rfl⟩
  obtain ⟨ok, eok⟩ : ∃ ok : Int × List Int → Prop, ∀ p, ok p ↔ 0 ≤ p.1 ∧ p.1 ≤ x.length ∧ ShlInv x p.2 (n / 32).toNat (n % 32).toNat p.1.toNat := ⟨_, fun _ => Iff.rfl⟩
  have eN : ∀ l : Int, 1 ≤ n → n ≤ 16777216 → l = intBinR .quo .i64 n 32 → IntKind.i64.wrap (IntKind.i64.wrap ((x.length : Int) + l) + 1) = x.length + n / 32 + 1 := by
    intro l n1 n2 el
    have : l = n / 32 := by rw [el]; exact quo32 (by omega) (by omega)
    rw [this, wi64_id (n := (x.length : Int) + n / 32) (by omega) (by omega), wi64_id (by omega) (by omega)]
  refine callsA_of hG hm Tryz.func93 (by kernel_rfl) ?_
  intro E hE lp hl
  cbv
  (apply E_callX hE (c_cut a ha (by omega)); (case hf => rfl); (case hc => (cbv <;> trivial)); (case hle => exact ⟨u2_sli, trivial⟩); intro x' hx'; cbv)
  rw [hx'.trans ex]
  clear hx' x'
  refine E_br hE (fun h => ?_) (fun h => ?_)
  · have e : x = r := by subst hE; rw [← hr, if_pos (lss_t h), ex]
    cbv
    repeat' (first
    | (refine E_br hE (fun h => ?_) (fun h => ?_) <;> cbv)
    | (refine E_nm hE (fun v hv => ?_); cbv)
    | (refine E_nilS hE (fun b hb => ?_); cbv)
    | (apply E_callX hE (c_Clone _ ?_); (case hf => rfl); (case hc => (cbv <;> trivial)); (case hle => exact u_up); all_goals (first | (intro t ht; cbv) | (omega)))
    | fail)
    exact ‹_ = x›.trans e
  have n1 : 1 ≤ n := by subst hE; have := lss_f h; omega
  cbv
  repeat' (first
    | (refine E_br hE (fun h => ?_) (fun h => ?_) <;> cbv)
    | (refine E_nm hE (fun v hv => ?_); cbv)
    | (refine E_nilS hE (fun b hb => ?_); cbv)
    | fail)
  · have n2 : 16777216 < n := by subst hE; exact gtr_t ‹_›
    rw [← hr, if_neg (by omega), if_pos n2]
  · have e0 : x.length = 0 := by subst hE; have := eql_t h; simp only [realE] at this; omega
    have e1 : x = [] := List.length_eq_zero_iff.1 e0
    rw [e1] at vx
    rw [← hr, if_neg (by omega)]
    split
    · rfl
    · rw [← vx]; simp [lv, lim_zero]
  all_goals (have n2 : n ≤ 16777216 := (by subst hE; have := gtr_f ‹(realE Tryz.prog).cmp .gtr n 16777216 = false›; omega))
  all_goals (try (exfalso; have := eN _ n1 n2 (by subst hE; assumption); subst hE; simp only [NatCast.natCast, Int.ofNat_eq_natCast, realE, cmp_eql, cmp_neq, cmp_lss, cmp_leq, cmp_gtr, cmp_geq, intBinR, decide_eq_true_eq, decide_eq_false_iff_not, SI.val, SB.val, Num.eta, Iv.eta] at *; rw [this] at *; omega))
  rename_i l el _ _
  replace eN := eN l n1 n2 (by subst hE; exact el)
  simp only [NatCast.natCast, Int.ofNat_eq_natCast] at eN
  have er := hv
  have l1 : l = n / 32 := by subst hE; rw [el]; exact quo32 (by omega) (by omega)
  have r1 : 0 ≤ v := by
    have : v = n % 32 := by subst hE; rw [hv]; exact rem32 (by omega)
    omega
  clear hv
  refine E_loop hE hG hm hl (shlS E x l v) m ok ⟨(0, E.rep (E.bin .add .i64 (E.bin .add .i64 (E.len x) l) 1)), (eok _).2 ?_, stLe rfl ?_⟩ ?_
  · refine ⟨by show (0 : Int) ≤ 0; omega, by show (0 : Int) ≤ x.length; omega, ?_⟩
    have := ShlInv.start x (n / 32).toNat (n % 32).toNat
    subst hE; simp only [NatCast.natCast, Int.ofNat_eq_natCast, realE, cmp_eql, cmp_neq, cmp_lss, cmp_leq, cmp_gtr, cmp_geq, intBinR, decide_eq_true_eq, decide_eq_false_iff_not, SI.val, SB.val, Num.eta, Iv.eta] at *; rw [eN, show ((x.length : Int) + n / 32 + 1).toNat = x.length + (n / 32).toNat + 1 by omega]
    exact this
  · (repeat' (first | exact t_nil | apply t_cons | exact u2_sli | exact u2_int | exact u2_bool | exact u2_ms | exact u2_ptr | exact (rfl : sle2 .s0 .s0)))
  rintro ⟨i, out⟩ hok
  have h1 : 0 ≤ i := ((eok _).1 hok).1
  have h2 : i ≤ x.length := ((eok _).1 hok).2.1
  have inv : ShlInv x out (n / 32).toNat (n % 32).toNat i.toNat := ((eok _).1 hok).2.2
  have hol := inv.len
  have fin : ¬ i < x.length → Lb out ∧ lim (lv out) = r := by
    intro h
    have inv' := inv
    rw [show i.toNat = x.length by omega] at inv'
    refine ⟨inv.lb, ?_⟩
    rw [inv'.stop, ← hr, if_neg (by omega), if_neg (by omega), vx, show 32 * (n / 32).toNat + (n % 32).toNat = n.toNat by omega]
  have ht : lim (lv a * 2 ^ n.toNat) = r := by rw [← hr, if_neg (by omega), if_neg (by omega)]
  clear hok hr ex
  cbv
  repeat' (first
    | (refine E_br hE (fun h => ?_) (fun h => ?_) <;> cbv)
    | (refine E_nm hE (fun v hv => ?_); cbv)
    | (refine E_nilS hE (fun b hb => ?_); cbv)
    | (apply E_callX hE (c_cut _ ?_ ?_); (case hf => rfl); (case hc => (cbv <;> trivial)); (case hle => exact u_up); all_goals (first | (intro t ht; cbv) | ((subst hE; simp only [NatCast.natCast, Int.ofNat_eq_natCast, realE, cmp_eql, cmp_neq, cmp_lss, cmp_leq, cmp_gtr, cmp_geq, intBinR, decide_eq_true_eq, decide_eq_false_iff_not, SI.val, SB.val, Num.eta, Iv.eta] at *; rw [eN] at *; rw [sub_all (by omega)]; first | exact (fin ‹_›).1 | omega))))
    | fail)
  case hK => subst hE; simp only [NatCast.natCast, Int.ofNat_eq_natCast, realE, cmp_eql, cmp_neq, cmp_lss, cmp_leq, cmp_gtr, cmp_geq, intBinR, decide_eq_true_eq, decide_eq_false_iff_not, SI.val, SB.val, Num.eta, Iv.eta] at *; rw [‹t = _›, eN, sub_all (by omega), (fin ‹_›).2]
  all_goals (try refine ⟨(E.bin .add .i64 i 1, _), ?_, ?_, stLe rfl ?_⟩)
  all_goals (try ((repeat' (first | exact t_nil | apply t_cons | exact u2_sli | exact u2_int | exact u2_bool | exact u2_ms | exact u2_ptr | exact (rfl : sle2 .s0 .s0))); done))
  all_goals (subst hE)
  all_goals (try (first | (rw [em, em]; exact (shl_next hx (by omega) n1 n2 h1 (lss_t ‹_›) inv ‹_› el er ‹_› ‹_› rfl).2.2.1) | (rw [eok]; have q := shl_next hx (by omega) n1 n2 h1 (lss_t ‹_›) inv ‹_› el er ‹_› ‹_› rfl; exact ⟨q.1, q.2.1, q.2.2.2⟩)))
  all_goals (clear inv eok em fin ht er el; simp only [NatCast.natCast, Int.ofNat_eq_natCast, realE, cmp_eql, cmp_neq, cmp_lss, cmp_leq, cmp_gtr, cmp_geq, intBinR, decide_eq_true_eq, decide_eq_false_iff_not, SI.val, SB.val, Num.eta, Iv.eta] at *; (try rw [eN] at *); clear eN; (try simp only [wi64] at *); omega)
def shrS (E : Env) (x : List Int) (l r : Int) : Int × List Int → St := fun p => ⟨[(0, .sli .u32 x), (5, .int .i64 (.s l)), (6, .int .i64 (.s r)), (7, .ms 0 1 (.l 0) (.s (E.bin .sub .i64 (E.len x) l))), (33, .int .i64 (.s (E.bin .sub .i64 (E.len x) l))), (34, .int .i64 (.s p.1))], [.ints true .u32 p.2]⟩
set_option maxHeartbeats 1000000 in
theorem c_natShr (a : List Int) (n : Int) (ha : Lb a) (hla : a.length < 67108864) : ∃ t : List Int, t = lim (lv a / 2 ^ n.toNat) ∧ CallsA Tryz.prog 127 [.sli .u32 a, .int .i64 (.s n)] (.sli .u32 t) := by
  refine ⟨_, rfl, ?_⟩
  generalize hr : lim (lv a / 2 ^ n.toNat) = r
  have hlx := lim_length_le' ha
  have hx := lim_lb (lv a)
  have vx := lv_lim (lv a)
  obtain ⟨x, ex⟩ : ∃ x, lim (lv a) = x := ⟨_, rfl⟩
  rw [ex] at hlx hx vx
  obtain ⟨m, em⟩ : ∃ m : Int × List Int → Nat, ∀ p, m p = (x.length - p.1).toNat := ⟨_, fun _ => rfl⟩
  obtain ⟨ok, eok⟩ : ∃ ok : Int × List Int → Prop, ∀ p, ok p ↔ 0 ≤ p.1 ∧ p.1 ≤ (x.length : Int) - n / 32 ∧ ShrInv x p.2 (n / 32).toNat (n % 32).toNat p.1.toNat := ⟨_, fun _ => Iff.rfl⟩
  have eN : ∀ l : Int, 1 ≤ n → n < 32 * x.length → l = intBinR .quo .i64 n 32 → IntKind.i64.wrap ((x.length : Int) - l) = x.length - n / 32 := by
    intro l n1 n2 el
    have : l = n / 32 := by rw [el]; exact quo32 (by omega) (by omega)
    rw [this, wi64_id (by omega) (by omega)]
  have e32 : IntKind.i64.wrap (32 * (x.length : Int)) = 32 * x.length := wi64_id (by omega) (by omega)
  have big : 32 * (x.length : Int) ≤ n → lv a / 2 ^ n.toNat = 0 := by
    intro h
    have h1 := lv_lt hx
    rw [vx] at h1
    apply Nat.div_eq_of_lt
    have h2 : 4294967296 ^ x.length = 2 ^ (32 * x.length) := by rw [Nat.pow_mul]
    have h3 : 2 ^ (32 * x.length) ≤ 2 ^ n.toNat := Nat.pow_le_pow_right (by omega) (by omega)
    omega
  refine callsA_of hG hm Tryz.func127 (by kernel_rfl) ?_
  intro E hE lp hl
  cbv
  (apply E_callX hE (c_cut a ha (by omega)); (case hf => rfl); (case hc => (cbv <;> trivial)); (case hle => exact ⟨u2_sli, trivial⟩); intro x' hx'; cbv)
  rw [hx'.trans ex]
  clear hx' x'
  refine E_br hE (fun h => ?_) (fun h => ?_)
  · have e : x = r := by subst hE; have := lss_t h; rw [← hr, ← ex, show n.toNat = 0 by omega, Nat.pow_zero, Nat.div_one]
    cbv
    repeat' (first
    | (refine E_br hE (fun h => ?_) (fun h => ?_) <;> cbv)
    | (refine E_nm hE (fun v hv => ?_); cbv)
    | (refine E_nilS hE (fun b hb => ?_); cbv)
    | (apply E_callX hE (c_Clone _ ?_); (case hf => rfl); (case hc => (cbv <;> trivial)); (case hle => exact u_up); all_goals (first | (intro t ht; cbv) | (omega)))
    | fail)
    exact ‹_ = x›.trans e
  have n1 : 1 ≤ n := by subst hE; have := lss_f h; omega
  refine E_br hE (fun h => ?_) (fun h => ?_)
  · have e : [] = r := by
      rw [← hr, big (by subst hE; have := geq_t h; simp only [realE, intBinR, NatCast.natCast, Int.ofNat_eq_natCast] at this e32; rw [e32] at this; omega)]; rfl
    cbv
    exact e.symm
  have n2 : n < 32 * x.length := by subst hE; have := geq_f h; simp only [realE, intBinR, NatCast.natCast, Int.ofNat_eq_natCast] at this e32; rw [e32] at this; omega
  cbv
  repeat' (first
    | (refine E_br hE (fun h => ?_) (fun h => ?_) <;> cbv)
    | (refine E_nm hE (fun v hv => ?_); cbv)
    | (refine E_nilS hE (fun b hb => ?_); cbv)
    | fail)
  all_goals (try (exfalso; have := eN _ n1 n2 (by subst hE; assumption); subst hE; simp only [NatCast.natCast, Int.ofNat_eq_natCast, realE, cmp_eql, cmp_neq, cmp_lss, cmp_leq, cmp_gtr, cmp_geq, intBinR, decide_eq_true_eq, decide_eq_false_iff_not, SI.val, SB.val, Num.eta, Iv.eta] at *; rw [this] at *; omega))
  rename_i l el _ _
  replace n2 : n < 32 * (x.length : Int) := n2
  replace eN := eN l n1 n2 (by subst hE; exact el)
  simp only [NatCast.natCast, Int.ofNat_eq_natCast] at eN
  have er := hv
  have l1 : l = n / 32 := by subst hE; rw [el]; exact quo32 (by omega) (by omega)
  have r1 : 0 ≤ v := by
    have : v = n % 32 := by subst hE; rw [hv]; exact rem32 (by omega)
    omega
  clear hv
  refine E_loop hE hG hm hl (shrS E x l v) m ok ⟨(0, E.rep (E.bin .sub .i64 (E.len x) l)), (eok _).2 ?_, stLe rfl ?_⟩ ?_
  · refine ⟨by show (0 : Int) ≤ 0; omega, by show (0 : Int) ≤ x.length - n / 32; omega, ?_⟩
    have := ShrInv.start x (n / 32).toNat (n % 32).toNat
    subst hE; simp only [NatCast.natCast, Int.ofNat_eq_natCast, realE, cmp_eql, cmp_neq, cmp_lss, cmp_leq, cmp_gtr, cmp_geq, intBinR, decide_eq_true_eq, decide_eq_false_iff_not, SI.val, SB.val, Num.eta, Iv.eta] at *; rw [eN, show ((x.length : Int) - n / 32).toNat = x.length - (n / 32).toNat by omega]
    exact this
  · (repeat' (first | exact t_nil | apply t_cons | exact u2_sli | exact u2_int | exact u2_bool | exact u2_ms | exact u2_ptr | exact (rfl : sle2 .s0 .s0)))
  rintro ⟨i, out⟩ hok
  have h1 : 0 ≤ i := ((eok _).1 hok).1
  have h2 : i ≤ x.length - n / 32 := ((eok _).1 hok).2.1
  have inv : ShrInv x out (n / 32).toNat (n % 32).toNat i.toNat := ((eok _).1 hok).2.2
  have hol := inv.len
  have fin : ¬ i < (x.length : Int) - n / 32 → Lb out ∧ lim (lv out) = r := by
    intro h
    have inv' := inv
    rw [show i.toNat = x.length - (n / 32).toNat by omega] at inv'
    refine ⟨inv.lb, ?_⟩
    rw [inv'.stop hx (by omega), ← hr, vx, show 32 * (n / 32).toNat + (n % 32).toNat = n.toNat by omega]
  clear hok hr ex
  cbv
  repeat' (first
    | (refine E_br hE (fun h => ?_) (fun h => ?_) <;> cbv)
    | (refine E_nm hE (fun v hv => ?_); cbv)
    | (refine E_nilS hE (fun b hb => ?_); cbv)
    | (apply E_callX hE (c_cut _ ?_ ?_); (case hf => rfl); (case hc => (cbv <;> trivial)); (case hle => exact u_up); all_goals (first | (intro t ht; cbv) | ((subst hE; simp only [NatCast.natCast, Int.ofNat_eq_natCast, realE, cmp_eql, cmp_neq, cmp_lss, cmp_leq, cmp_gtr, cmp_geq, intBinR, decide_eq_true_eq, decide_eq_false_iff_not, SI.val, SB.val, Num.eta, Iv.eta] at *; rw [eN] at *; rw [sub_all (by omega)]; first | exact (fin ‹_›).1 | omega))))
    | fail)
  case hK => subst hE; simp only [NatCast.natCast, Int.ofNat_eq_natCast, realE, cmp_eql, cmp_neq, cmp_lss, cmp_leq, cmp_gtr, cmp_geq, intBinR, decide_eq_true_eq, decide_eq_false_iff_not, SI.val, SB.val, Num.eta, Iv.eta] at *; rw [‹t = _›, eN, sub_all (by omega), (fin (by rw [← eN]; assumption)).2]
  all_goals (try refine ⟨(E.bin .add .i64 i 1, _), ?_, ?_, stLe rfl ?_⟩)
  all_goals (try ((repeat' (first | exact t_nil | apply t_cons | exact u2_sli | exact u2_int | exact u2_bool | exact u2_ms | exact u2_ptr | exact (rfl : sle2 .s0 .s0))); done))
  all_goals (subst hE)
  all_goals (try (
    have hi : i < IntKind.i64.wrap ((x.length : Int) - l) := lss_t ‹_›
    rw [eN] at hi
    first
      | (rw [em, em]; exact (shr_next hx (by omega) n1 n2 h1 hi inv ‹_› el er ‹_› (by first | exact .inr ‹_› | exact .inl ⟨lss_f ‹_›, rfl⟩) rfl).2.2.1)
      | (rw [eok]; have q := shr_next hx (by omega) n1 n2 h1 hi inv ‹_› el er ‹_› (by first | exact .inr ‹_› | exact .inl ⟨lss_f ‹_›, rfl⟩) rfl; exact ⟨q.1, q.2.1, q.2.2.2⟩)))
  all_goals (clear inv eok em fin er el e32 big; simp only [NatCast.natCast, Int.ofNat_eq_natCast, realE, cmp_eql, cmp_neq, cmp_lss, cmp_leq, cmp_gtr, cmp_geq, intBinR, decide_eq_true_eq, decide_eq_false_iff_not, SI.val, SB.val, Num.eta, Iv.eta] at *; (try rw [eN] at *); clear eN; (try simp only [wi64] at *); omega)

end Go.Proofs.YtoghalnnmhpfmaaGreat.Ev

/- Contracts: how many bits limbs have; a short division. Printed by gen.py. -/
namespace Go.Proofs.YtoghalnnmhpfmaaGreat.Ev
open Go Go.Proofs
set_option linter.unusedVariables false
set_option linter.unusedSimpArgs false


attribute [local irreducible] Lb
theorem c_natLen (a : List Int) (ha : Lb a) (hla : a.length < 67108864) : ∃ t : Int, t = blen (lv a) ∧ CallsA Tryz.prog 125 [.sli .u32 a] (.int .i64 (.s t)) := by
  refine ⟨_, rfl, ?_⟩
  generalize hr : blen (lv a : Int) = r
  have hlx := lim_length_le' ha
  have hx := lim_lb (lv a)
  have vx := lv_lim (lv a)
  have lx := (lim_cn (lv a)).last
  obtain ⟨x, ex⟩ : ∃ x, lim (lv a) = x := ⟨_, rfl⟩
  rw [ex] at hlx hx vx lx
  have k1 : x.length = 0 → r = 0 := by
    intro h
    have : x = [] := List.length_eq_zero_iff.1 h
    rw [this] at vx
    rw [← hr, ← vx]; rfl
  have k2 : ¬ (x.length : Int) = 0 → ∀ t : Int, t = blen (x.getD (intBinR .sub .i64 x.length 1).toNat 0) → r = intBinR .add .i64 (intBinR .mul .i64 32 (intBinR .sub .i64 x.length 1)) t := by
    intro h t ht
    have hne : x ≠ [] := by intro e; rw [e] at h; simp at h
    have := blen_len hx hne (lx hne)
    have e1 : intBinR .sub .i64 x.length 1 = (x.length : Int) - 1 := by show IntKind.i64.wrap _ = _; rw [wi64_id (by omega) (by omega)]
    rw [e1] at ht ⊢
    have e2 : intBinR .mul .i64 32 ((x.length : Int) - 1) = 32 * ((x.length : Int) - 1) := by show IntKind.i64.wrap _ = _; rw [wi64_id (by omega) (by omega)]
    rw [e2, ← hr, ← vx, this]
    rw [show ((x.length : Int) - 1).toNat = x.length - 1 by omega] at ht
    have hg := hx.getD (x.length - 1)
    have b1 := blen_nonneg (x.getD (x.length - 1) 0)
    have b2 := blen_le 32 (x := x.getD (x.length - 1) 0) (by omega)
    rw [ht]
    show _ = IntKind.i64.wrap _
    rw [wi64_id (by omega) (by omega)]
  refine callsA_of hG hm Tryz.func125 (by kernel_rfl) ?_
  intro E hE lp hl
  cbv
  (apply E_callX hE (c_cut a ha (by omega)); (case hf => rfl); (case hc => (cbv <;> trivial)); (case hle => exact ⟨u2_sli, trivial⟩); intro x' hx'; cbv)
  rw [hx'.trans ex]
  clear hx' x'
  repeat' (first
    | (refine E_br hE (fun h => ?_) (fun h => ?_) <;> cbv)
    | (refine E_nm hE (fun v hv => ?_); cbv)
    | (refine E_nilS hE (fun b hb => ?_); cbv)
    | (apply E_callX hE (c_Len32 _ ?_ ?_); (case hf => rfl); (case hc => (cbv <;> trivial)); (case hle => exact u_up); all_goals (first | (intro t ht; cbv) | ((subst hE; first | exact (hx.getD _).1 | exact (hx.getD _).2))))
    | fail)
  all_goals (try (subst hE; first | exact (k1 (by have := eql_t h; simp only [realE] at this; omega)).symm | exact hv.trans (k2 (eql_f ‹_›) t ht).symm))
  all_goals (clear k1 k2 hr; subst hE; simp only [NatCast.natCast, Int.ofNat_eq_natCast, realE, cmp_eql, cmp_neq, cmp_lss, cmp_leq, cmp_gtr, cmp_geq, intBinR, decide_eq_true_eq, decide_eq_false_iff_not, SI.val, SB.val, Num.eta, Iv.eta] at *; (try simp only [wi64] at *); omega)

theorem short_next {a q : List Int} {d i k left j : Int} (ha : Lb a) (hla : a.length < 67108864) (hd : d < 4294967296) (h1 : 0 ≤ i) (h2 : i < a.length)
    (inv : ShortInv a q d (a.length - i.toNat) left) {i' : Int} (ei : i' = i) (ek : k = intBinR .sub .i64 (intBinR .sub .i64 a.length 1) i') (ej : j = intBinR .add .i64 i 1) {t : Int × Int}
    (et : t = ((left * 4294967296 + a.getD k.toNat 0) / d, (left * 4294967296 + a.getD k.toNat 0) % d)) {t2 : Int} (e2 : t2 = t.2) :
    0 ≤ j ∧ j ≤ a.length ∧ ((a.length : Int) - j).toNat < ((a.length : Int) - i).toNat ∧ ShortInv a (q.set k.toNat t.1) d (a.length - j.toNat) t2 := by
  subst ei
  have ej' : j = i' + 1 := by rw [ej]; show IntKind.i64.wrap (i' + 1) = _; rw [wi64_id (by omega) (by omega)]
  have ek' : k = a.length - 1 - i' := by
    rw [ek]; show IntKind.i64.wrap (IntKind.i64.wrap ((a.length : Int) - 1) - i') = _
    rw [wi64_id (n := (a.length : Int) - 1) (by omega) (by omega), wi64_id (by omega) (by omega)]
  rw [show a.length - i'.toNat = k.toNat + 1 by omega] at inv
  have st := inv.step ha hd (by omega)
  rw [e2, et, show a.length - j.toNat = k.toNat by omega]
  exact ⟨by omega, by omega, by omega, st⟩

def shortS (E : Env) (a : List Int) (d : Int) : Int × Int × List Int → St := fun p => ⟨[(0, .sli .u32 a), (1, .int .u32 (.s d)), (4, .ms 0 1 (.l 0) (.s (E.len a))), (6, .int .u32 (.s p.2.1)), (13, .int .i64 (.s (E.len a))), (14, .int .i64 (.s p.1))], [.ints true .u32 p.2.2]⟩
set_option maxHeartbeats 1000000 in
theorem c_short (a : List Int) (d : Int) (ha : Lb a) (hla : a.length < 67108864) (hd0 : 0 < d) (hd : d < 4294967296) : ∃ t : List Int × List Int, t = (lim (lv a / d.toNat), lim (lv a % d.toNat)) ∧ CallsA Tryz.prog 149 [.sli .u32 a, .int .u32 (.s d)] (.tup [.sli .u32 t.1, .sli .u32 t.2]) := by
  refine ⟨_, rfl, ?_⟩
  generalize hr : (lim (lv a / d.toNat), lim (lv a % d.toNat)) = r
  obtain ⟨m, em⟩ : ∃ m : Int × Int × List Int → Nat, ∀ p, m p = (a.length - p.1).toNat := ⟨_, fun _ => rfl⟩
  obtain ⟨ok, eok⟩ : ∃ ok : Int × Int × List Int → Prop, ∀ p, ok p ↔ 0 ≤ p.1 ∧ p.1 ≤ a.length ∧ ShortInv a p.2.2 d (a.length - p.1.toNat) p.2.1 := ⟨_, fun _ => Iff.rfl⟩
  refine callsA_of hG hm Tryz.func149 (by kernel_rfl) ?_
  intro E hE lp hl
  cbv
  repeat' (first
    | (refine E_br hE (fun h => ?_) (fun h => ?_) <;> cbv)
    | (refine E_nm hE (fun v hv => ?_); cbv)
    | (refine E_nilS hE (fun b hb => ?_); cbv)
    | fail)
  all_goals (try (exfalso; subst hE; simp only [NatCast.natCast, Int.ofNat_eq_natCast, realE, cmp_eql, cmp_neq, cmp_lss, cmp_leq, cmp_gtr, cmp_geq, intBinR, decide_eq_true_eq, decide_eq_false_iff_not, SI.val, SB.val, Num.eta, Iv.eta] at *; omega))
  refine E_loop hE hG hm hl (shortS E a d) m ok ⟨(0, 0, E.rep (E.len a)), (eok _).2 ?_, stLe rfl ?_⟩ ?_
  · refine ⟨by show (0 : Int) ≤ 0; omega, by show (0 : Int) ≤ a.length; omega, ?_⟩
    have := ShortInv.start a hd0
    subst hE; simp only [NatCast.natCast, Int.ofNat_eq_natCast, realE, cmp_eql, cmp_neq, cmp_lss, cmp_leq, cmp_gtr, cmp_geq, intBinR, decide_eq_true_eq, decide_eq_false_iff_not, SI.val, SB.val, Num.eta, Iv.eta] at *
    exact this
  · (repeat' (first | exact t_nil | apply t_cons | exact u2_sli | exact u2_int | exact u2_bool | exact u2_ms | exact u2_ptr | exact (rfl : sle2 .s0 .s0)))
  rintro ⟨i, left, q⟩ hok
  have h1 : 0 ≤ i := ((eok _).1 hok).1
  have h2 : i ≤ a.length := ((eok _).1 hok).2.1
  have inv : ShortInv a q d (a.length - i.toNat) left := ((eok _).1 hok).2.2
  have hol := inv.len
  have l0 := inv.l0
  have l1 := inv.l1
  have lq : Lb q := inv.lb
  have ll : Lb [left] := Lb.cons l0 (by omega) Lb.nil
  have fin : ¬ i < a.length → (lim (lv q), lim (lv [left])) = r := by
    intro h
    rw [show a.length - i.toNat = 0 by omega] at inv
    obtain ⟨f1, f2⟩ := inv.stop
    rw [← hr, f1]
    congr 2
    simp only [lv]
    omega
  clear hok hr
  cbv
  repeat' (first
    | (refine E_br hE (fun h => ?_) (fun h => ?_) <;> cbv)
    | (refine E_nm hE (fun v hv => ?_); cbv)
    | (refine E_nilS hE (fun b hb => ?_); cbv)
    | (apply E_callX hE (c_Div32 _ _ _ ?_ ?_ ?_ ?_ ?_ ?_ ?_); (case hf => rfl); (case hc => (cbv <;> trivial)); (case hle => exact u_up); all_goals (first | (intro t ht; cbv) | (((try simp only [SI.val]); first | omega | (subst hE; first | exact (ha.getD _).1 | exact (ha.getD _).2)))))
    | (apply E_callX hE (c_cut _ ?_ ?_); (case hf => rfl); (case hc => (cbv <;> trivial)); (case hle => exact u_up); all_goals (first | (intro t ht; cbv) | ((subst hE; first | exact ll | (simp only [NatCast.natCast, Int.ofNat_eq_natCast, realE, cmp_eql, cmp_neq, cmp_lss, cmp_leq, cmp_gtr, cmp_geq, intBinR, decide_eq_true_eq, decide_eq_false_iff_not, SI.val, SB.val, Num.eta, Iv.eta] at *; (try rw [sub_all (by omega)]); first | assumption | omega | (simp; done))))))
    | fail)
  all_goals (try refine ⟨(E.bin .add .i64 i 1, v, E.set q _ t.1), ?_, ?_, stLe rfl ?_⟩)
  all_goals (try ((repeat' (first | exact t_nil | apply t_cons | exact u2_sli | exact u2_int | exact u2_bool | exact u2_ms | exact u2_ptr | exact (rfl : sle2 .s0 .s0))); done))
  all_goals (subst hE)
  all_goals (try (first | (rw [em, em]; exact (short_next ha hla hd h1 (lss_t ‹_›) inv ‹_ = i› ‹_› rfl ‹t = _› ‹_›).2.2.1) | (rw [eok]; have q := short_next ha hla hd h1 (lss_t ‹_›) inv ‹_ = i› ‹_› rfl ‹t = _› ‹_›; exact ⟨q.1, q.2.1, q.2.2.2⟩)))
  case refine_1.refine_1.refine_1.refine_3.refine_2.hK.hK => have f := fin (lss_f ‹_›); rename_i q' hq'; rw [← f]; simp only [NatCast.natCast, Int.ofNat_eq_natCast, realE, cmp_eql, cmp_neq, cmp_lss, cmp_leq, cmp_gtr, cmp_geq, intBinR, decide_eq_true_eq, decide_eq_false_iff_not, SI.val, SB.val, Num.eta, Iv.eta] at *; refine ⟨?_, ‹_ = _›, trivial⟩; rw [hq', sub_all (by omega)]
  all_goals (clear inv eok em fin; simp only [NatCast.natCast, Int.ofNat_eq_natCast, realE, cmp_eql, cmp_neq, cmp_lss, cmp_leq, cmp_gtr, cmp_geq, intBinR, decide_eq_true_eq, decide_eq_false_iff_not, SI.val, SB.val, Num.eta, Iv.eta] at *; (try simp only [wi64] at *); omega)

end Go.Proofs.YtoghalnnmhpfmaaGreat.Ev

/- Contracts: the guess of a limb of a quotient. Printed by gen.py. -/
namespace Go.Proofs.YtoghalnnmhpfmaaGreat.Ev
open Go Go.Proofs
set_option linter.unusedVariables false
set_option linter.unusedSimpArgs false


def guessS (r2 r1 r0 d1 d0 t : Int) : Int × Int → St := fun p => ⟨[(0, .int .u32 (.s r2)), (1, .int .u32 (.s r1)), (2, .int .u32 (.s r0)), (3, .int .u32 (.s d1)), (4, .int .u32 (.s d0)), (11, .int .u64 (.s t)), (12, .int .u64 (.s p.1)), (13, .int .u64 (.s p.2))], []⟩
theorem c_guess (r2 r1 r0 d1 d0 : Int) (I : GuessIn r2 r1 r0 d1 d0) : ∃ t : Int, t = guessQ r2 r1 r0 d1 d0 ∧ CallsA Tryz.prog 151 [.int .u32 (.s r2), .int .u32 (.s r1), .int .u32 (.s r0), .int .u32 (.s d1), .int .u32 (.s d0)] (.int .u32 (.s t)) := by
  refine ⟨_, rfl, ?_⟩
  generalize hr : guessQ r2 r1 r0 d1 d0 = r
  obtain ⟨m, em⟩ : ∃ m : Int × Int → Nat, ∀ p, m p = p.1.toNat := ⟨_, fun _ => rfl⟩
  obtain ⟨ok, eok⟩ : ∃ ok : Int × Int → Prop, ∀ p, ok p ↔ GuessInv r2 r1 r0 d1 d0 p.1 p.2 := ⟨_, fun _ => Iff.rfl⟩
  have hd := I.d1b
  refine callsA_of hG hm Tryz.func151 (by kernel_rfl) ?_
  intro E hE lp hl
  cbv
  repeat' (first
    | (refine E_br hE (fun h => ?_) (fun h => ?_) <;> cbv)
    | (refine E_nm hE (fun v hv => ?_); cbv)
    | (refine E_nilS hE (fun b hb => ?_); cbv)
    | fail)
  · subst hE; have h' : IntKind.u64.wrap d1 = 0 := eql_t h; rw [wu64_id (by omega) (by omega)] at h'; omega
  · subst hE; have h' : IntKind.u64.wrap d1 = 0 := eql_t h; rw [wu64_id (by omega) (by omega)] at h'; omega
  rename_i t et _ q eq
  refine E_loop hE hG hm hl (guessS r2 r1 r0 d1 d0 t) m ok ⟨(q, v), (eok _).2 ?_, stLe rfl ?_⟩ ?_
  · subst hE; exact guess_start I et eq hv
  · (repeat' (first | exact t_nil | apply t_cons | exact u2_sli | exact u2_int | exact u2_bool | exact u2_ms | exact u2_ptr | exact (rfl : sle2 .s0 .s0)))
  clear eq hv et
  rintro ⟨q, left⟩ hok
  have inv : GuessInv r2 r1 r0 d1 d0 q left := (eok _).1 hok
  clear hok
  cbv
  repeat' (first
    | (refine E_br hE (fun h => ?_) (fun h => ?_) <;> cbv)
    | (refine E_nm hE (fun v hv => ?_); cbv)
    | (refine E_nilS hE (fun b hb => ?_); cbv)
    | fail)
  all_goals (try (rename_i q' eq'; refine ⟨(q', v), ?_, ?_, stLe rfl ?_⟩))
  all_goals (try ((repeat' (first | exact t_nil | apply t_cons | exact u2_sli | exact u2_int | exact u2_bool | exact u2_ms | exact u2_ptr | exact (rfl : sle2 .s0 .s0))); done))
  all_goals (subst hE)
  all_goals (first
    | (rw [em, em]; exact (guess_step I inv (by first | exact .inl (gtr_t ‹_›) | exact .inr ⟨gtr_f ‹_›, gtr_t ‹_›⟩) ‹_› ‹_› (gtr_f ‹_›)).1)
    | (rw [eok]; exact (guess_step I inv (by first | exact .inl (gtr_t ‹_›) | exact .inr ⟨gtr_f ‹_›, gtr_t ‹_›⟩) ‹_› ‹_› (gtr_f ‹_›)).2)
    | (rw [← hr, hv]; exact guess_brk I inv (by first | exact .inl (gtr_t ‹_›) | exact .inr ⟨gtr_f ‹_›, gtr_t ‹_›⟩) ‹_› ‹_› (gtr_t ‹_›))
    | (rw [← hr, hv]; exact guess_done I inv (gtr_f ‹_›) (gtr_f ‹_›)))

end Go.Proofs.YtoghalnnmhpfmaaGreat.Ev

/- The steps of a long division, as the words of the program reckon them. -/
namespace Go.Proofs.YtoghalnnmhpfmaaGreat.Ev
open Go

theorem less_next {r0 d r : List Int} {q at_ i carry borrow : Int} (hd : Lb d) (hq : 0 ≤ q ∧ q < 4294967296) (hlr : r0.length < 134217728) (h1 : 0 ≤ i) (h2 : i < d.length) (ha : 0 ≤ at_) (hat : at_ + d.length < r0.length)
    (inv : LessInv r0 d q at_.toNat r i.toNat carry borrow) {i' y v b' j : Int} {t : Int × Int} (ei : i' = i) (ey : y = d.getD i.toNat 0)
    (ev : v = intBinR .add .u64 (intBinR .mul .u64 (IntKind.u64.wrap y) (IntKind.u64.wrap q)) carry)
    (et : t = ((r.getD (intBinR .add .i64 at_ i').toNat 0 - IntKind.u32.wrap v - borrow) % 4294967296, if r.getD (intBinR .add .i64 at_ i').toNat 0 < IntKind.u32.wrap v + borrow then 1 else 0))
    (eb : b' = t.2) (ej : j = intBinR .add .i64 i 1) {c' : Int} (ec : c' = intBinR .shr .u64 v 32) :
    0 ≤ j ∧ j ≤ d.length ∧ ((d.length : Int) - j).toNat < ((d.length : Int) - i).toNat ∧ LessInv r0 d q at_.toNat (r.set (intBinR .add .i64 at_ i').toNat t.1) j.toNat c' b' := by
  have hy := hd.getD i.toNat
  subst ei
  have st := inv.step hd hq (by omega)
  rw [← ey] at st hy
  have c0 := inv.c0
  have c1 := inv.c1
  have e := less_digit hy hq ⟨c0, c1⟩
  have eai : (intBinR .add .i64 at_ i').toNat = at_.toNat + i'.toNat := by
    show (IntKind.i64.wrap (at_ + i')).toNat = _
    rw [wi64_id (by omega) (by omega)]; omega
  have ej' : j = i' + 1 := by rw [ej]; show IntKind.i64.wrap (i' + 1) = _; rw [wi64_id (by omega) (by omega)]
  have ev' : v = y * q + carry := by
    rw [ev, wu64_id hy.1 (by omega), wu64_id hq.1 (by omega)]
    have : intBinR .mul .u64 y q = y * q := wu64_id e.1 (by omega)
    rw [this]
    exact wu64_id (by omega) (by omega)
  have ec' : c' = v / 4294967296 := by rw [ec]; exact shr32 v
  rw [eai] at et ⊢
  rw [wu32, ev'] at et
  rw [eb, et, ec', ev', ej', show (i' + 1).toNat = i'.toNat + 1 by omega]
  exact ⟨by omega, by omega, by omega, st⟩

/-- what a guess times the divisor taken away leaves -/
structure LessR (r0 d : List Int) (q : Int) (at_ : Nat) (r : List Int) (b : Bool) : Prop where
  len : r.length = r0.length
  lb : Lb r
  same : ∀ j, at_ + d.length + 1 ≤ j → r.getD j 0 = r0.getD j 0
  val : lv r + 4294967296 ^ at_ * (q.toNat * lv d) = lv r0 + (if b then 4294967296 ^ (at_ + d.length + 1) else 0)

theorem less_stop {r0 d r : List Int} {q at_ i carry borrow : Int} (hlr : r0.length < 134217728) (h2 : i ≤ d.length) (h3 : ¬ i < d.length) (ha : 0 ≤ at_) (hat : at_ + d.length < r0.length)
    (inv : LessInv r0 d q at_.toNat r i.toNat carry borrow) {b' : Int} {b : Bool} {t : Int × Int}
    (et : t = ((r.getD (intBinR .add .i64 at_ d.length).toNat 0 - IntKind.u32.wrap carry - borrow) % 4294967296, if r.getD (intBinR .add .i64 at_ d.length).toNat 0 < IntKind.u32.wrap carry + borrow then 1 else 0))
    (eb : b' = t.2) (e : b = cmpR .neq b' 0) : LessR r0 d q at_.toNat (r.set (intBinR .add .i64 at_ d.length).toNat t.1) b := by
  have c0 := inv.c0
  have c1 := inv.c1
  rw [show i.toNat = d.length by omega] at inv
  obtain ⟨k1, k2, k3, k4⟩ := inv.stop (by omega)
  have eai : (intBinR .add .i64 at_ d.length).toNat = at_.toNat + d.length := by
    show (IntKind.i64.wrap (at_ + d.length)).toNat = _
    rw [wi64_id (by omega) (by omega)]; omega
  rw [eai] at et ⊢
  rw [wu32, Int.emod_eq_of_lt c0 c1] at et
  have e1 : t.1 = (r.getD (at_.toNat + d.length) 0 - carry - borrow) % 4294967296 := by rw [et]
  have e2 : b' = if r.getD (at_.toNat + d.length) 0 < carry + borrow then 1 else 0 := by rw [eb, et]
  rw [e1]
  refine ⟨k1, k2, k3, ?_⟩
  rw [k4]
  congr 1
  rw [e, e2]
  split
  · simp [cmpR]
  · simp [cmpR]

theorem more_next {r0 d r : List Int} {at_ i c : Int} (hd : Lb d) (hlr : r0.length < 134217728) (h1 : 0 ≤ i) (h2 : i < d.length) (ha : 0 ≤ at_) (hat : at_ + d.length < r0.length)
    (inv : MoreInv r0 d at_.toNat r i.toNat c) {i' y c' j : Int} {t : Int × Int} (ei : i' = i) (ey : y = d.getD i.toNat 0)
    (et : t = ((r.getD (intBinR .add .i64 at_ i').toNat 0 + y + c) % 4294967296, (r.getD (intBinR .add .i64 at_ i').toNat 0 + y + c) / 4294967296))
    (ec : c' = t.2) (ej : j = intBinR .add .i64 i 1) :
    0 ≤ j ∧ j ≤ d.length ∧ ((d.length : Int) - j).toNat < ((d.length : Int) - i).toNat ∧ MoreInv r0 d at_.toNat (r.set (intBinR .add .i64 at_ i').toNat t.1) j.toNat c' := by
  subst ei
  have st := inv.step hd (by omega)
  rw [← ey] at st
  have eai : (intBinR .add .i64 at_ i').toNat = at_.toNat + i'.toNat := by
    show (IntKind.i64.wrap (at_ + i')).toNat = _
    rw [wi64_id (by omega) (by omega)]; omega
  have ej' : j = i' + 1 := by rw [ej]; show IntKind.i64.wrap (i' + 1) = _; rw [wi64_id (by omega) (by omega)]
  rw [eai] at et ⊢
  rw [ec, et, ej', show (i' + 1).toNat = i'.toNat + 1 by omega]
  exact ⟨by omega, by omega, by omega, st⟩

structure MoreR (r0 d : List Int) (at_ : Nat) (r : List Int) : Prop where
  len : r.length = r0.length
  lb : Lb r
  same : ∀ j, at_ + d.length + 1 ≤ j → r.getD j 0 = r0.getD j 0
  val : ∃ c : Int, 0 ≤ c ∧ c ≤ 1 ∧ lv r + 4294967296 ^ (at_ + d.length + 1) * c.toNat = lv r0 + 4294967296 ^ at_ * lv d

theorem more_stop {r0 d r : List Int} {at_ i c : Int} (hlr : r0.length < 134217728) (h2 : i ≤ d.length) (h3 : ¬ i < d.length) (ha : 0 ≤ at_) (hat : at_ + d.length < r0.length)
    (inv : MoreInv r0 d at_.toNat r i.toNat c) {v : Int} (ev : v = intBinR .add .u32 (r.getD (intBinR .add .i64 at_ d.length).toNat 0) c) : MoreR r0 d at_.toNat (r.set (intBinR .add .i64 at_ d.length).toNat v) := by
  have c0 := inv.c0
  have c1 := inv.c1
  rw [show i.toNat = d.length by omega] at inv
  have hx := inv.lb.getD (at_.toNat + d.length)
  obtain ⟨k1, k2, k3, k4⟩ := inv.stop (by omega)
  have eai : (intBinR .add .i64 at_ d.length).toNat = at_.toNat + d.length := by
    show (IntKind.i64.wrap (at_ + d.length)).toNat = _
    rw [wi64_id (by omega) (by omega)]; omega
  rw [eai] at ev ⊢
  have ev' : v = (r.getD (at_.toNat + d.length) 0 + c) % 4294967296 := by rw [ev]; exact wu32 _
  rw [ev']
  exact ⟨k1, k2, k3, _, by omega, by omega, k4⟩
end Go.Proofs.YtoghalnnmhpfmaaGreat.Ev

/- Calls that write the caller's memory, or hand back memory that they have made: contracts of them. -/
namespace Go.Proofs.YtoghalnnmhpfmaaGreat.Ev
open Go Go.RowKit
set_option linter.unusedVariables false
set_option linter.unusedSimpArgs false
variable {P : Program} {G : Nat → TI}

/-- A result and the memory behind the call, told under other names; the first n0 blocks keep theirs. -/
def ResLe (n0 : Nat) (ρ : List Nat) (v : AV) (h : List Blk) (r : AV) (h' : List Blk) : Prop :=
  blksM ρ h ρ h' ∧ apartN ρ h' [] = true ∧ idPre ρ n0 = true ∧ n0 ≤ lenB h' ∧ blksIn (lenB h') h' ∧ AVle v (rn3 ρ r) ∧ in3 (lenB h') r = true

theorem callsH_named {f : FuncId} {args : List AV} {h : List Blk} {K K' : AV → List Blk → Prop} (hC : CallsH P f args h K')
    (hK : ∀ v h1, K' v h1 → ∃ ρ r h2, ResLe (lenB h) ρ v h1 r h2 ∧ K r h2) : CallsH P f args h K := by
  intro base O0 μ w vals H hl ha
  refine (hC base O0 μ w vals H hl ha).mono ?_
  rintro e w' ⟨val, v, h1, μ1, rfl, hk, hv, H1, X1, hB⟩
  obtain ⟨ρ, r, h2, ⟨q1, q2, q3, q4, q5, q6, q7⟩, hr⟩ := hK v h1 hk
  have hlen := blksM_len q1
  have N : Named ρ h1 h2 := by
    refine ⟨hlen, fun b x hb hx => ?_, (apartN_at q2 hlen).2, q5⟩
    have := blksM_at q1 hb hx
    exact getBlk_some this (rnB_dead hx)
  refine ⟨val, r, h2, fun b => μ1 (nth0 ρ b), rfl, hr, rel_named N (q6 _ _ hv) q7, H1.named N, ?_, hB⟩
  rw [lenB_eq] at q3
  rw [lenB_eq, lenB_eq] at q4
  refine ⟨fun n hn => N.ok (X1.o n hn), fun b hb => ?_, by simp only [mkX]; omega, fun b hb n hn => ?_, X1.cell, X1.shape⟩
  · have := idPre_at q3 b (by simpa only [mkX] using hb)
    show μ1 (nth0 ρ b) = _
    rw [this]
    exact X1.mu b hb
  · have := idPre_at q3 b (by simpa only [mkX] using hb)
    have hd := N.dim hn
    rw [this] at hd
    exact X1.dim b hb n hd

theorem callsH_mono {f : FuncId} {args : List AV} {h : List Blk} {K K' : AV → List Blk → Prop} (hC : CallsH P f args h K') (hK : ∀ v h1, K' v h1 → K v h1) : CallsH P f args h K := by
  intro base O0 μ w vals H hl ha
  refine (hC base O0 μ w vals H hl ha).mono ?_
  rintro e w' ⟨val, v, h1, μ1, rfl, hk, hr⟩
  exact ⟨val, v, h1, μ1, rfl, hK v h1 hk, hr⟩

/-- A contract of a call over memory, out of a run. -/
theorem callsH_of (hG : GOK P G) (hm : P.follows .mixedOrders = true) {f : FuncId} {fn : Func} (hf : P.funcs[f]? = some fn) {args : List AV} (ho : fnOK fn args.length = true)
    {h : List Blk} {K : AV → List Blk → Prop} (hv : ∀ E, E = realE P → ∀ lp, Loops P fn.ntmps lp → evF E G lp fn args h K) : CallsH P f args h K :=
  E_in rfl hG hm hf ho (fz := none) (fun lp hl => hv _ rfl lp hl)

theorem E_callH {E : Env} (hE : E = realE P) {f : FuncId} {args : List AV} {h : List Blk} {K K' : AV → List Blk → Prop} {fz : Option (List AV × List Blk)} (hC : CallsH P f args h K') (hK : ∀ v h1, K' v h1 → K v h1) : E.call f args h fz K := by
  subst hE; exact callsH_mono hC hK
end Go.Proofs.YtoghalnnmhpfmaaGreat.Ev

/- Contracts: a guess times the divisor taken away, and given back: both write the caller's memory. Printed by gen.py. -/
namespace Go.Proofs.YtoghalnnmhpfmaaGreat.Ev
open Go Go.Proofs
set_option linter.unusedVariables false
set_option linter.unusedSimpArgs false


attribute [local irreducible] Lb
def lessS (E : Env) (d z Q : List Int) (q at_ n : Int) : Int × Int × Int × List Int → St := fun p => ⟨[(0, .ms 2 1 (.l 0) (.s n)), (1, .sli .u32 d), (2, .int .u32 (.s q)), (3, .int .i64 (.s at_)), (9, .int .u32 (.s p.2.2.1)), (10, .int .u64 (.s p.2.1)), (14, .sli .u32 d), (15, .int .i64 (.s (E.len d))), (16, .int .i64 (.s p.1))],
  [.dead, .ints true .u32 z, .ints true .u32 p.2.2.2, .ints true .u32 Q]⟩
set_option maxHeartbeats 2000000 in
theorem h_less (d z R Q : List Int) (q at_ n : Int) (hd : Lb d) (hR : Lb R) (hq : 0 ≤ q ∧ q < 4294967296) (hlr : R.length < 134217728) (ha : 0 ≤ at_) (hat : at_ + d.length < R.length) (hn : at_ + d.length < n) (hn2 : n ≤ R.length) :
    CallsH Tryz.prog 152 [.ms 2 1 (.l 0) (.s n), .sli .u32 d, .int .u32 (.s q), .int .i64 (.s at_)] [.dead, .ints true .u32 z, .ints true .u32 R, .ints true .u32 Q]
      (fun v h => ∃ r b, v = .bool (.s b) ∧ h = [.dead, .ints true .u32 z, .ints true .u32 r, .ints true .u32 Q] ∧ LessR R d q at_.toNat r b) := by
  obtain ⟨m, em⟩ : ∃ m : Int × Int × Int × List Int → Nat, ∀ p, m p = (d.length - p.1).toNat := ⟨_, fun _ => rfl⟩
  obtain ⟨ok, eok⟩ : ∃ ok : Int × Int × Int × List Int → Prop, ∀ p, ok p ↔ 0 ≤ p.1 ∧ p.1 ≤ d.length ∧ LessInv R d q at_.toNat p.2.2.2 p.1.toNat p.2.1 p.2.2.1 := ⟨_, fun _ => Iff.rfl⟩
  refine callsH_of hG hm Tryz.func152 (by kernel_rfl) ?_
  intro E hE lp hl
  cbv
  repeat' (first
    | (refine E_br hE (fun h => ?_) (fun h => ?_) <;> cbv)
    | (refine E_nm hE (fun v hv => ?_); cbv)
    | (refine E_nilS hE (fun b hb => ?_); cbv)
    | fail)
  refine E_loop hE hG hm hl (lessS E d z Q q at_ n) m ok ⟨(0, 0, 0, R), (eok _).2 ⟨by show (0 : Int) ≤ 0; omega, by show (0 : Int) ≤ d.length; omega, LessInv.start d q at_.toNat hR⟩, stLe rfl ?_⟩ ?_
  · (repeat' (first | exact t_nil | apply t_cons | exact u2_sli | exact u2_int | exact u2_bool | exact u2_ms | exact u2_ptr | exact (rfl : sle2 .s0 .s0)))
  rintro ⟨i, carry, borrow, r⟩ hok
  have h1 : 0 ≤ i := ((eok _).1 hok).1
  have h2 : i ≤ d.length := ((eok _).1 hok).2.1
  have inv : LessInv R d q at_.toNat r i.toNat carry borrow := ((eok _).1 hok).2.2
  have lr := inv.lb
  have hol := inv.len
  have b0 := inv.b0
  have b1 := inv.b1
  have w1 : ∀ x : Int, 0 ≤ IntKind.u32.wrap x := fun x => by rw [wu32]; omega
  have w2 : ∀ x : Int, IntKind.u32.wrap x < 4294967296 := fun x => by rw [wu32]; omega
  clear hok
  cbv
  repeat' (first
    | (refine E_br hE (fun h => ?_) (fun h => ?_) <;> cbv)
    | (refine E_nm hE (fun v hv => ?_); cbv)
    | (refine E_nilS hE (fun b hb => ?_); cbv)
    | (apply E_callX hE (c_Sub32 _ _ _ ?_ ?_ ?_ ?_ ?_ ?_); (case hf => rfl); (case hc => (cbv <;> trivial)); (case hle => exact u_up); all_goals (first | (intro t ht; cbv) | (((try simp only [SI.val]); first | omega | (subst hE; first | exact (lr.getD _).1 | exact (lr.getD _).2 | exact w1 _ | exact w2 _)))))
    | fail)
  all_goals (try (rename_i c' ec _ _ _; refine ⟨(E.bin .add .i64 i 1, c', v, E.set r (E.bin .add .i64 at_ _) t.1), ?_, ?_, stLe rfl ?_⟩))
  all_goals (try ((repeat' (first | exact t_nil | apply t_cons | exact u2_sli | exact u2_int | exact u2_bool | exact u2_ms | exact u2_ptr | exact (rfl : sle2 .s0 .s0))); done))
  all_goals (subst hE)
  all_goals (try (first
    | (rw [em, em]; exact (less_next hd hq hlr h1 (lss_t ‹_›) ha hat inv ‹_ = i› ‹_› ‹_› ‹t = _› ‹_› rfl ‹_›).2.2.1)
    | (rw [eok]; have q := less_next hd hq hlr h1 (lss_t ‹_›) ha hat inv ‹_ = i› ‹_› ‹_› ‹t = _› ‹_› rfl ‹_›; exact ⟨q.1, q.2.1, q.2.2.2⟩)
    | exact ⟨_, _, rfl, rfl, less_stop hlr h2 (lss_f ‹_›) ha hat inv ‹t = _› ‹_› rfl⟩))
  all_goals (clear inv eok em w1 w2; simp only [NatCast.natCast, Int.ofNat_eq_natCast, realE, cmp_eql, cmp_neq, cmp_lss, cmp_leq, cmp_gtr, cmp_geq, intBinR, decide_eq_true_eq, decide_eq_false_iff_not, SI.val, SB.val, Num.eta, Iv.eta] at *; (try simp only [wi64] at *); subst_vars; omega)

def moreS (E : Env) (d z Q : List Int) (at_ n : Int) : Int × Int × List Int → St := fun p => ⟨[(0, .ms 2 1 (.l 0) (.s n)), (1, .sli .u32 d), (2, .int .i64 (.s at_)), (6, .int .u32 (.s p.2.1)), (9, .sli .u32 d), (10, .int .i64 (.s (E.len d))), (11, .int .i64 (.s p.1))],
  [.dead, .ints true .u32 z, .ints true .u32 p.2.2, .ints true .u32 Q]⟩
set_option maxHeartbeats 2000000 in
theorem h_more (d z R Q : List Int) (at_ n : Int) (hd : Lb d) (hR : Lb R) (hlr : R.length < 134217728) (ha : 0 ≤ at_) (hat : at_ + d.length < R.length) (hn : at_ + d.length < n) (hn2 : n ≤ R.length) :
    CallsH Tryz.prog 153 [.ms 2 1 (.l 0) (.s n), .sli .u32 d, .int .i64 (.s at_)] [.dead, .ints true .u32 z, .ints true .u32 R, .ints true .u32 Q]
      (fun v h => ∃ r, v = .tup [] ∧ h = [.dead, .ints true .u32 z, .ints true .u32 r, .ints true .u32 Q] ∧ MoreR R d at_.toNat r) := by
  obtain ⟨m, em⟩ : ∃ m : Int × Int × List Int → Nat, ∀ p, m p = (d.length - p.1).toNat := ⟨_, fun _ => rfl⟩
  obtain ⟨ok, eok⟩ : ∃ ok : Int × Int × List Int → Prop, ∀ p, ok p ↔ 0 ≤ p.1 ∧ p.1 ≤ d.length ∧ MoreInv R d at_.toNat p.2.2 p.1.toNat p.2.1 := ⟨_, fun _ => Iff.rfl⟩
  refine callsH_of hG hm Tryz.func153 (by kernel_rfl) ?_
  intro E hE lp hl
  cbv
  repeat' (first
    | (refine E_br hE (fun h => ?_) (fun h => ?_) <;> cbv)
    | (refine E_nm hE (fun v hv => ?_); cbv)
    | (refine E_nilS hE (fun b hb => ?_); cbv)
    | fail)
  refine E_loop hE hG hm hl (moreS E d z Q at_ n) m ok ⟨(0, 0, R), (eok _).2 ⟨by show (0 : Int) ≤ 0; omega, by show (0 : Int) ≤ d.length; omega, MoreInv.start d at_.toNat hR⟩, stLe rfl ?_⟩ ?_
  · (repeat' (first | exact t_nil | apply t_cons | exact u2_sli | exact u2_int | exact u2_bool | exact u2_ms | exact u2_ptr | exact (rfl : sle2 .s0 .s0)))
  rintro ⟨i, c, r⟩ hok
  have h1 : 0 ≤ i := ((eok _).1 hok).1
  have h2 : i ≤ d.length := ((eok _).1 hok).2.1
  have inv : MoreInv R d at_.toNat r i.toNat c := ((eok _).1 hok).2.2
  have lr := inv.lb
  have hol := inv.len
  have c0 := inv.c0
  have c1 := inv.c1
  have g1 : ∀ v, v = E.get d i → 0 ≤ v := by subst hE; intro v e; rw [e]; exact (hd.getD _).1
  have g2 : ∀ v, v = E.get d i → v < 4294967296 := by subst hE; intro v e; rw [e]; exact (hd.getD _).2
  clear hok
  cbv
  repeat' (first
    | (refine E_br hE (fun h => ?_) (fun h => ?_) <;> cbv)
    | (refine E_nm hE (fun v hv => ?_); cbv)
    | (refine E_nilS hE (fun b hb => ?_); cbv)
    | (apply E_callX hE (c_Add32 _ _ _ ?_ ?_ ?_ ?_ ?_ ?_); (case hf => rfl); (case hc => (cbv <;> trivial)); (case hle => exact u_up); all_goals (first | (intro t ht; cbv) | (((try simp only [SI.val]); first | omega | exact g1 _ ‹_› | exact g2 _ ‹_› | (subst hE; first | exact (lr.getD _).1 | exact (lr.getD _).2)))))
    | fail)
  all_goals (try (refine ⟨(E.bin .add .i64 i 1, v, E.set r (E.bin .add .i64 at_ _) t.1), ?_, ?_, stLe rfl ?_⟩))
  all_goals (try ((repeat' (first | exact t_nil | apply t_cons | exact u2_sli | exact u2_int | exact u2_bool | exact u2_ms | exact u2_ptr | exact (rfl : sle2 .s0 .s0))); done))
  all_goals (subst hE)
  all_goals (try (first
    | (rw [em, em]; exact (more_next hd hlr h1 (lss_t ‹_›) ha hat inv ‹_ = i› ‹_› ‹t = _› ‹_› rfl).2.2.1)
    | (rw [eok]; have q := more_next hd hlr h1 (lss_t ‹_›) ha hat inv ‹_ = i› ‹_› ‹t = _› ‹_› rfl; exact ⟨q.1, q.2.1, q.2.2.2⟩)
    | exact ⟨_, rfl, rfl, more_stop hlr h2 (lss_f ‹_›) ha hat inv rfl⟩))
  all_goals (clear inv eok em g1 g2; simp only [NatCast.natCast, Int.ofNat_eq_natCast, realE, cmp_eql, cmp_neq, cmp_lss, cmp_leq, cmp_gtr, cmp_geq, intBinR, decide_eq_true_eq, decide_eq_false_iff_not, SI.val, SB.val, Num.eta, Iv.eta] at *; (try simp only [wi64] at *); subst_vars; omega)
  all_goals trace_state

end Go.Proofs.YtoghalnnmhpfmaaGreat.Ev

/- Contracts: limbs shifted, into memory that the caller writes. Printed by gen.py. -/
namespace Go.Proofs.YtoghalnnmhpfmaaGreat.Ev
open Go Go.Proofs
set_option linter.unusedVariables false
set_option linter.unusedSimpArgs false


attribute [local irreducible] Lb
set_option maxHeartbeats 1000000 in
theorem h_cut (L : List Int) (n : Int) (hL : Lb L) (hl : L.length < 268435456) (hn : n = L.length) :
    CallsH Tryz.prog 124 [.ms 0 1 (.l 0) (.s n)] [.ints true .u32 L] (fun v h => ∃ k : Int, v = .ms 0 1 (.l 0) (.s k) ∧ h = [.ints true .u32 L] ∧ 0 ≤ k ∧ k ≤ L.length ∧ L.take k.toNat = lim (lv L)) := by
  obtain ⟨m, em⟩ : ∃ m : Int → Nat, ∀ p, m p = p.toNat := ⟨_, fun _ => rfl⟩
  obtain ⟨ok, eok⟩ : ∃ ok : Int → Prop, ∀ p, ok p ↔ 0 ≤ p ∧ p ≤ L.length ∧ lv (L.take p.toNat) = lv L := ⟨_, fun _ => Iff.rfl⟩
  have s0 : 0 ≤ n ∧ n ≤ L.length ∧ lv (L.take n.toNat) = lv L := ⟨by omega, by omega, by rw [hn, Int.toNat_natCast, List.take_length]⟩
  refine callsH_of hG hm Tryz.func124 (by kernel_rfl) ?_
  intro E hE lp hl'
  cbv
  refine E_loop hE hG hm hl' (fun p : Int => (⟨[(0, .ms 0 1 (.l 0) (.s p)), (2, .s0)], [.ints true .u32 L]⟩ : St)) m ok ⟨n, (eok _).2 s0, stLe rfl ?_⟩ ?_
  · (repeat' (first | exact t_nil | apply t_cons | exact u2_sli | exact u2_int | exact u2_bool | exact u2_ms | exact u2_ptr | exact (rfl : sle2 .s0 .s0)))
  intro k hok
  have h1 : 0 ≤ k := ((eok _).1 hok).1
  have h2 : k ≤ L.length := ((eok _).1 hok).2.1
  have h3 : lv (L.take k.toNat) = lv L := ((eok _).1 hok).2.2
  have next : ∀ j : Int, 0 < k → j = intBinR .sub .i64 k 1 → L.getD j.toNat 0 = 0 → 0 ≤ j ∧ j ≤ L.length ∧ j.toNat < k.toNat ∧ lv (L.take j.toNat) = lv L := by
    intro j h0 hj hz
    have hj' : j = k - 1 := by rw [hj]; exact wi64_id (by omega) (by omega)
    refine ⟨by omega, by omega, by omega, ?_⟩
    rw [show j.toNat = k.toNat - 1 by omega] at hz ⊢
    rw [lv_cut_step (by omega) (by omega) hz, h3]
  have fin : (k = 0 ∨ L.getD (intBinR .sub .i64 k 1).toNat 0 ≠ 0) → L.take k.toNat = lim (lv L) := by
    intro h
    refine cut_end hL (by omega) ?_ h3
    rcases h with h | h
    · exact .inl (by omega)
    · rcases Int.lt_or_le 0 k with h0 | h0
      · have e : intBinR .sub .i64 k 1 = k - 1 := wi64_id (by omega) (by omega)
        rw [e, show (k - 1).toNat = k.toNat - 1 by omega] at h
        exact .inr h
      · exact .inl (by omega)
  clear hok
  cbv
  repeat' (first
    | (refine E_br hE (fun h => ?_) (fun h => ?_) <;> cbv)
    | (refine E_nm hE (fun v hv => ?_); cbv)
    | (refine E_nilS hE (fun b hb => ?_); cbv)
    | fail)
  all_goals (try (refine ⟨E.bin .sub .i64 k 1, ?_, ?_, stLe rfl ?_⟩))
  all_goals (try ((repeat' (first | exact t_nil | apply t_cons | exact u2_sli | exact u2_int | exact u2_bool | exact u2_ms | exact u2_ptr | exact (rfl : sle2 .s0 .s0))); done))
  all_goals (subst hE)
  all_goals (try (first
    | (rw [em, em]; exact (next _ (gtr_t ‹_›) rfl (eql_t ‹_›)).2.2.1)
    | (rw [eok]; have q := next _ (gtr_t ‹_›) rfl (eql_t ‹_›); exact ⟨q.1, q.2.1, q.2.2.2⟩)
    | exact ⟨k, rfl, rfl, h1, h2, fin (.inr (eql_f ‹_›))⟩
    | exact ⟨k, rfl, rfl, h1, h2, fin (.inl (by have := gtr_f ‹_›; omega))⟩))
  all_goals (clear next fin eok em s0; simp only [NatCast.natCast, Int.ofNat_eq_natCast, realE, cmp_eql, cmp_neq, cmp_lss, cmp_leq, cmp_gtr, cmp_geq, intBinR, decide_eq_true_eq, decide_eq_false_iff_not, SI.val, SB.val, Num.eta, Iv.eta] at *; (try simp only [wi64] at *); omega)

theorem h_Clone (a : List Int) (ha : 0 < a.length) (hl : a.length ≤ 268435456) :
    CallsH Tryz.prog 131 [.sli .u32 a] [] (fun v h => ∃ L k, v = .ms 0 1 (.l 0) (.s k) ∧ h = [.ints true .u32 L] ∧ k = (a.length : Int) ∧ L = a) := by
  refine callsH_named (callsH_of (K := fun v h => ∃ L k, v = .ms 1 1 (.l 0) (.s k) ∧ h = [.dead, .ints true .u32 L] ∧ k = (a.length : Int) ∧ L = a) hG hm Tryz.func131 (by kernel_rfl) ?_) ?_
  · intro E hE lp hl'
    cbv
    repeat' (first
    | (refine E_br hE (fun h => ?_) (fun h => ?_) <;> cbv)
    | (refine E_nm hE (fun v hv => ?_); cbv)
    | (refine E_nilS hE (fun b hb => ?_); cbv)
    | fail)
    all_goals (subst hE)
    · exfalso; have := hb h; simp only [realE] at this; omega
    · exact ⟨_, _, rfl, rfl, rfl, rfl⟩
    · have := leq_f h; simp only [realE] at this; omega
  · rintro v h ⟨L, k, rfl, rfl, hk, hL⟩
    exact ⟨[1], .ms 0 1 (.l 0) (.s k), [.ints true .u32 L], ⟨⟨rfl, trivial⟩, rfl, rfl, Nat.zero_le _, trivial, ms_le rfl rfl, rfl⟩, L, k, rfl, rfl, hk, hL⟩
set_option maxHeartbeats 1000000 in
theorem h_Shl (a : List Int) (n : Int) (ha : Lb a) (hla : a.length < 67108864) (ha0 : 0 < lv a) (hn0 : 0 ≤ n) (hn1 : n ≤ 16777216) :
    CallsH Tryz.prog 93 [.sli .u32 a, .int .i64 (.s n)] [] (fun v h => ∃ L k, v = .ms 0 1 (.l 0) (.s k) ∧ h = [.ints true .u32 L] ∧ 0 ≤ k ∧ k ≤ L.length ∧ L.take k.toNat = lim (lv a * 2 ^ n.toNat) ∧ L.length ≤ 134217728) := by
  generalize hr : lim (lv a * 2 ^ n.toNat) = r
  have hlx := lim_length_le' ha
  have hx := lim_lb (lv a)
  have vx := lv_lim (lv a)
  obtain ⟨x, ex⟩ : ∃ x, lim (lv a) = x := ⟨_, rfl⟩
  rw [ex] at hlx hx vx
  have hx0 : 0 < x.length := by
    rcases Nat.eq_zero_or_pos x.length with h | h
    · rw [List.length_eq_zero_iff.1 h] at vx; simp only [lv] at vx; omega
    · exact h
  obtain ⟨m, em⟩ : ∃ m : Int × List Int → Nat, ∀ p, m p = (x.length - p.1).toNat := ⟨_, fun _ => rfl⟩
  obtain ⟨ok, eok⟩ : ∃ ok : Int × List Int → Prop, ∀ p, ok p ↔ 0 ≤ p.1 ∧ p.1 ≤ x.length ∧ ShlInv x p.2 (n / 32).toNat (n % 32).toNat p.1.toNat := ⟨_, fun _ => Iff.rfl⟩
  have eN : ∀ l : Int, 1 ≤ n → n ≤ 16777216 → l = intBinR .quo .i64 n 32 → IntKind.i64.wrap (IntKind.i64.wrap ((x.length : Int) + l) + 1) = x.length + n / 32 + 1 := by
    intro l n1 n2 el
    have : l = n / 32 := by rw [el]; exact quo32 (by omega) (by omega)
    rw [this, wi64_id (n := (x.length : Int) + n / 32) (by omega) (by omega), wi64_id (by omega) (by omega)]
  refine callsH_of hG hm Tryz.func93 (by kernel_rfl) ?_
  intro E hE lp hl
  cbv
  (apply E_callX hE (c_cut a ha (by omega)); (case hf => rfl); (case hc => (cbv <;> trivial)); (case hle => exact ⟨u2_sli, trivial⟩); intro x' hx'; cbv)
  rw [hx'.trans ex]
  clear hx' x'
  refine E_br hE (fun h => ?_) (fun h => ?_)
  · have e : x = r := by subst hE; have := lss_t h; rw [← hr, show n.toNat = 0 by omega, Nat.pow_zero, Nat.mul_one, ex]
    cbv
    refine E_callH hE (h_Clone x hx0 (by omega)) ?_
    rintro v h1 ⟨L, k, rfl, rfl, hk, hL⟩
    cbv
    exact ⟨L, k, rfl, rfl, by rw [hk]; exact Int.natCast_nonneg _, by rw [hk, hL]; exact Int.le_refl _, by rw [hk, hL, Int.toNat_natCast, List.take_length]; exact e, by rw [hL]; omega⟩
  have n1 : 1 ≤ n := by subst hE; have := lss_f h; omega
  cbv
  repeat' (first
    | (refine E_br hE (fun h => ?_) (fun h => ?_) <;> cbv)
    | (refine E_nm hE (fun v hv => ?_); cbv)
    | (refine E_nilS hE (fun b hb => ?_); cbv)
    | fail)
  · exfalso; subst hE; have := gtr_t ‹_›; omega
  · exfalso
    have e0 : x.length = 0 := by subst hE; have := eql_t h; simp only [realE] at this; omega
    omega
  all_goals (have n2 : n ≤ 16777216 := (by subst hE; have := gtr_f ‹(realE Tryz.prog).cmp .gtr n 16777216 = false›; omega))
  all_goals (try (exfalso; have := eN _ n1 n2 (by subst hE; assumption); subst hE; simp only [NatCast.natCast, Int.ofNat_eq_natCast, realE, cmp_eql, cmp_neq, cmp_lss, cmp_leq, cmp_gtr, cmp_geq, intBinR, decide_eq_true_eq, decide_eq_false_iff_not, SI.val, SB.val, Num.eta, Iv.eta] at *; rw [this] at *; omega))
  rename_i l el _ _
  replace eN := eN l n1 n2 (by subst hE; exact el)
  simp only [NatCast.natCast, Int.ofNat_eq_natCast] at eN
  have er := hv
  have l1 : l = n / 32 := by subst hE; rw [el]; exact quo32 (by omega) (by omega)
  have r1 : 0 ≤ v := by
    have : v = n % 32 := by subst hE; rw [hv]; exact rem32 (by omega)
    omega
  clear hv
  refine E_loop hE hG hm hl (shlS E x l v) m ok ⟨(0, E.rep (E.bin .add .i64 (E.bin .add .i64 (E.len x) l) 1)), (eok _).2 ?_, stLe rfl ?_⟩ ?_
  · refine ⟨by show (0 : Int) ≤ 0; omega, by show (0 : Int) ≤ x.length; omega, ?_⟩
    have := ShlInv.start x (n / 32).toNat (n % 32).toNat
    subst hE; simp only [NatCast.natCast, Int.ofNat_eq_natCast, realE, cmp_eql, cmp_neq, cmp_lss, cmp_leq, cmp_gtr, cmp_geq, intBinR, decide_eq_true_eq, decide_eq_false_iff_not, SI.val, SB.val, Num.eta, Iv.eta] at *; rw [eN, show ((x.length : Int) + n / 32 + 1).toNat = x.length + (n / 32).toNat + 1 by omega]
    exact this
  · (repeat' (first | exact t_nil | apply t_cons | exact u2_sli | exact u2_int | exact u2_bool | exact u2_ms | exact u2_ptr | exact (rfl : sle2 .s0 .s0)))
  rintro ⟨i, out⟩ hok
  have h1 : 0 ≤ i := ((eok _).1 hok).1
  have h2 : i ≤ x.length := ((eok _).1 hok).2.1
  have inv : ShlInv x out (n / 32).toNat (n % 32).toNat i.toNat := ((eok _).1 hok).2.2
  have hol := inv.len
  have fin : ¬ i < x.length → lim (lv out) = r := by
    intro h
    have inv' := inv
    rw [show i.toNat = x.length by omega] at inv'
    rw [inv'.stop, ← hr, vx, show 32 * (n / 32).toNat + (n % 32).toNat = n.toNat by omega]
  have lo := inv.lb
  have hol2 : out.length ≤ 134217728 := by omega
  have eNN : E.bin .add .i64 (E.bin .add .i64 (E.len x) l) 1 = (out.length : Int) := by
    subst hE; show IntKind.i64.wrap (IntKind.i64.wrap ((x.length : Int) + l) + 1) = _; rw [eN]; omega
  clear hok hr ex
  cbv
  repeat' (first
    | (refine E_br hE (fun h => ?_) (fun h => ?_) <;> cbv)
    | (refine E_nm hE (fun v hv => ?_); cbv)
    | (refine E_nilS hE (fun b hb => ?_); cbv)
    | fail)
  all_goals (try (
    refine E_callH hE (h_cut out (E.bin .add .i64 (E.bin .add .i64 (E.len x) l) 1) lo (by omega) eNN) ?_
    rintro v h1 ⟨k, rfl, rfl, k1, k2, k3⟩
    cbv
    exact ⟨out, k, rfl, rfl, k1, k2, k3.trans (fin (by subst hE; exact lss_f ‹_›)), hol2⟩))
  all_goals (try refine ⟨(E.bin .add .i64 i 1, _), ?_, ?_, stLe rfl ?_⟩)
  all_goals (try ((repeat' (first | exact t_nil | apply t_cons | exact u2_sli | exact u2_int | exact u2_bool | exact u2_ms | exact u2_ptr | exact (rfl : sle2 .s0 .s0))); done))
  all_goals (subst hE)
  all_goals (try (first | (rw [em, em]; exact (shl_next hx (by omega) n1 n2 h1 (lss_t ‹_›) inv ‹_› el er ‹_› ‹_› rfl).2.2.1) | (rw [eok]; have q := shl_next hx (by omega) n1 n2 h1 (lss_t ‹_›) inv ‹_› el er ‹_› ‹_› rfl; exact ⟨q.1, q.2.1, q.2.2.2⟩)))
  all_goals (clear inv eok em fin er el; simp only [NatCast.natCast, Int.ofNat_eq_natCast, realE, cmp_eql, cmp_neq, cmp_lss, cmp_leq, cmp_gtr, cmp_geq, intBinR, decide_eq_true_eq, decide_eq_false_iff_not, SI.val, SB.val, Num.eta, Iv.eta] at *; (try rw [eN] at *); clear eN; (try simp only [wi64] at *); omega)
end Go.Proofs.YtoghalnnmhpfmaaGreat.Ev

/- A long division's start, rounds and end, as the words of the program reckon them. -/
namespace Go.Proofs.YtoghalnnmhpfmaaGreat.Ev
open Go

theorem lim_length_ge {n k : Nat} (h : 0 < k) (hk : 4294967296 ^ (k - 1) ≤ n) : k ≤ (lim n).length := by
  have := lim_length_lt hk
  omega

theorem lv_ge_last {a : List Int} (h : Lb a) (hne : a ≠ []) (h0 : a.getD (a.length - 1) 0 ≠ 0) : 4294967296 ^ (a.length - 1) ≤ lv a := by
  have hl : 0 < a.length := List.length_pos_iff.2 hne
  have e := lv_take_succ (a := a) (i := a.length - 1) (by omega)
  rw [show a.length - 1 + 1 = a.length by omega, lv_take_all] at e
  have hg := h.getD (a.length - 1)
  have : 4294967296 ^ (a.length - 1) * 1 ≤ 4294967296 ^ (a.length - 1) * (a.getD (a.length - 1) 0).toNat := Nat.mul_le_mul_left _ (by omega)
  omega

/-- The divisor, moved up as far as its limbs go. -/
theorem norm_len {y : List Int} {by_ : Int} (h : Lb y) (hne : y ≠ []) (h0 : y.getD (y.length - 1) 0 ≠ 0) (e : by_ = 32 - blen (y.getD (y.length - 1) 0)) :
    0 ≤ by_ ∧ by_ < 32 ∧ (lim (lv y * 2 ^ by_.toNat)).length = y.length := by
  have hl : 0 < y.length := List.length_pos_iff.2 hne
  have hg := h.getD (y.length - 1)
  have b1 := blen_le 32 (x := y.getD (y.length - 1) 0) (by omega)
  obtain ⟨n, q1, q2, q3⟩ := blen_pos (x := y.getD (y.length - 1) 0) (by omega)
  have hb : 0 ≤ by_ ∧ by_ < 32 := by omega
  refine ⟨hb.1, hb.2, ?_⟩
  have hL := blen_len h hne h0
  have hN : blen (lv y : Int) = ((32 * (y.length - 1) + n : Nat) : Int) + 1 := by rw [hL, q1]; omega
  obtain ⟨k1, k2⟩ := (blen_nat_iff _).1 hN
  have p : (4294967296 : Nat) ^ y.length = 2 ^ (32 * (y.length - 1) + n + 1) * 2 ^ by_.toNat := by
    rw [← Nat.pow_add, show (4294967296 : Nat) = 2 ^ 32 by rfl, ← Nat.pow_mul]
    congr 1
    omega
  apply Nat.le_antisymm
  · apply lim_length_le
    rw [p]
    exact Nat.mul_lt_mul_of_pos_right k2 (Nat.two_pow_pos _)
  · apply lim_length_ge hl
    have := lv_ge_last h hne h0
    have h2 : lv y * 1 ≤ lv y * 2 ^ by_.toNat := Nat.mul_le_mul_left _ (Nat.two_pow_pos _)
    omega

theorem div_start {x y : List Int} {k : Nat} (hx : Lb x) (hy : Lb y) (hxn : x ≠ []) (hyn : y ≠ []) (hx0 : x.getD (x.length - 1) 0 ≠ 0) (hy0 : y.getD (y.length - 1) 0 ≠ 0) (hle : y.length ≤ x.length) :
    DivInv (lv x * 2 ^ k) (lv y * 2 ^ k) y.length (lim (lv x * 2 ^ k) ++ [0, 0]) (List.replicate (x.length - y.length + 1) 0) (x.length - y.length + 1) := by
  have hyl : 0 < y.length := List.length_pos_iff.2 hyn
  have hxl : 0 < x.length := List.length_pos_iff.2 hxn
  have g1 := lv_ge_last hx hxn hx0
  have g2 := lv_ge_last hy hyn hy0
  have g3 := lv_lt hx
  have e0 : lv (lim (lv x * 2 ^ k) ++ [0, 0]) = lv x * 2 ^ k := by
    rw [lv_append, lv_lim]
    simp [lv]
  refine ⟨?_, (lim_lb _).append (Lb.cons (by omega) (by omega) (Lb.cons (by omega) (by omega) Lb.nil)), Lb.replicate _, fun j _ => getD_replicate0 _ _, ?_, ?_⟩
  · have : x.length ≤ (lim (lv x * 2 ^ k)).length := by
      apply lim_length_ge hxl
      have : lv x * 1 ≤ lv x * 2 ^ k := Nat.mul_le_mul_left _ (Nat.two_pow_pos _)
      omega
    simp only [List.length_replicate, List.length_append, List.length_cons, List.length_nil]
    omega
  · rw [lv_replicate, e0]; omega
  · rw [e0]
    have e1 : lv y * 2 ^ k * 4294967296 ^ (x.length - y.length + 1) = 2 ^ k * (lv y * 4294967296 ^ (x.length - y.length + 1)) := by grind
    have e2 : 4294967296 ^ (y.length - 1) * 4294967296 ^ (x.length - y.length + 1) = 4294967296 ^ x.length := by
      rw [← Nat.pow_add]; congr 1; omega
    have e3 : 4294967296 ^ (y.length - 1) * 4294967296 ^ (x.length - y.length + 1) ≤ lv y * 4294967296 ^ (x.length - y.length + 1) := Nat.mul_le_mul_right _ g2
    rw [e1, Nat.mul_comm (lv x)]
    exact Nat.mul_lt_mul_of_pos_left (by omega) (Nat.two_pow_pos _)

section
variable {A : Nat} {d R Q : List Int} {at_ top i i' : Int}
/-- where a round works -/
theorem div_at (hl : Q.length < 134217728) (h1 : 0 ≤ i) (h2 : i < Q.length) (ei : i' = i) (ea : at_ = intBinR .sub .i64 (intBinR .sub .i64 Q.length 1) i') : at_ = Q.length - 1 - i := by
  subst ei
  rw [ea]
  show IntKind.i64.wrap (IntKind.i64.wrap ((Q.length : Int) - 1) - i') = _
  rw [wi64_id (n := (Q.length : Int) - 1) (by omega) (by omega), wi64_id (by omega) (by omega)]

theorem div_guess (hi : DivInv A (lv d) d.length R Q (at_.toNat + 1)) (hd : Lb d) (hn : 2 ≤ d.length) (h0 : d.getD (d.length - 1) 0 ≠ 0) (hl : R.length < 134217728) (ha : 0 ≤ at_) (hat : at_ < Q.length)
    (et : top = intBinR .add .i64 at_ d.length) :
    GuessIn (R.getD top.toNat 0) (R.getD (intBinR .sub .i64 top 1).toNat 0) (R.getD (intBinR .sub .i64 top 2).toNat 0) (d.getD (intBinR .sub .i64 d.length 1).toNat 0) (d.getD (intBinR .sub .i64 d.length 2).toNat 0) ∧
    (guessQ (R.getD top.toNat 0) (R.getD (intBinR .sub .i64 top 1).toNat 0) (R.getD (intBinR .sub .i64 top 2).toNat 0) (d.getD (intBinR .sub .i64 d.length 1).toNat 0) (d.getD (intBinR .sub .i64 d.length 2).toNat 0)
      = guessQ (R.getD (at_.toNat + d.length) 0) (R.getD (at_.toNat + d.length - 1) 0) (R.getD (at_.toNat + d.length - 2) 0) (d.getD (d.length - 1) 0) (d.getD (d.length - 2) 0)) := by
  have hr := hi.lenr
  have et' : top = at_ + d.length := by rw [et]; exact wi64_id (by omega) (by omega)
  have e1 : (intBinR .sub .i64 top 1).toNat = at_.toNat + d.length - 1 := by
    have : intBinR .sub .i64 top 1 = top - 1 := wi64_id (by omega) (by omega)
    omega
  have e2 : (intBinR .sub .i64 top 2).toNat = at_.toNat + d.length - 2 := by
    have : intBinR .sub .i64 top 2 = top - 2 := wi64_id (by omega) (by omega)
    omega
  have e3 : (intBinR .sub .i64 d.length 1).toNat = d.length - 1 := by
    have : intBinR .sub .i64 (d.length : Int) 1 = d.length - 1 := wi64_id (by omega) (by omega)
    omega
  have e4 : (intBinR .sub .i64 d.length 2).toNat = d.length - 2 := by
    have : intBinR .sub .i64 (d.length : Int) 2 = d.length - 2 := wi64_id (by omega) (by omega)
    omega
  rw [e1, e2, e3, e4, show top.toNat = at_.toNat + d.length by omega]
  exact ⟨hi.in_ hd hn rfl (by omega) h0, rfl⟩

theorem div_same {g : Int} {r : List Int} (hi : DivInv A (lv d) d.length R Q (at_.toNat + 1)) (hd : Lb d) (hn : 2 ≤ d.length) (h0 : d.getD (d.length - 1) 0 ≠ 0) (ha : 0 ≤ at_) (hat : at_ < Q.length)
    (eg : g = guessQ (R.getD (at_.toNat + d.length) 0) (R.getD (at_.toNat + d.length - 1) 0) (R.getD (at_.toNat + d.length - 2) 0) (d.getD (d.length - 1) 0) (d.getD (d.length - 2) 0))
    (hr : LessR R d g at_.toNat r false) : DivInv A (lv d) d.length r (Q.set at_.toNat g) at_.toNat := by
  have ok := guessQ_ok (hi.in_ hd hn rfl (by omega) h0)
  rw [← eg] at ok
  have nr := hi.near hd hn rfl (by omega) h0 ok
  have g2 := lv_ge_last hd (by intro e; rw [e] at hn; simp at hn) h0
  have hD : 0 < lv d := Nat.lt_of_lt_of_le (Nat.pow_pos (by omega)) g2
  have v := hr.val
  have q0 := ok.q0
  have q1 := ok.q1
  exact hi.same (by omega) hD hr.len hr.lb ⟨q0, by omega⟩ nr.1 (by simpa using v)

theorem div_less {g g' : Int} {r1 r : List Int} (hi : DivInv A (lv d) d.length R Q (at_.toNat + 1)) (hd : Lb d) (hn : 2 ≤ d.length) (h0 : d.getD (d.length - 1) 0 ≠ 0) (ha : 0 ≤ at_) (hat : at_ < Q.length)
    (eg : g = guessQ (R.getD (at_.toNat + d.length) 0) (R.getD (at_.toNat + d.length - 1) 0) (R.getD (at_.toNat + d.length - 2) 0) (d.getD (d.length - 1) 0) (d.getD (d.length - 2) 0))
    (hr1 : LessR R d g at_.toNat r1 true) (hr : MoreR r1 d at_.toNat r) (eg' : g' = intBinR .sub .u32 g 1) : DivInv A (lv d) d.length r (Q.set at_.toNat g') at_.toNat := by
  have ok := guessQ_ok (hi.in_ hd hn rfl (by omega) h0)
  rw [← eg] at ok
  have nr := hi.near hd hn rfl (by omega) h0 ok
  have g2 := lv_ge_last hd (by intro e; rw [e] at hn; simp at hn) h0
  have hD : 0 < lv d := Nat.lt_of_lt_of_le (Nat.pow_pos (by omega)) g2
  have v1 := hr1.val
  obtain ⟨c, c0, c1, v⟩ := hr.val
  have q0 := ok.q0
  have q1 := ok.q1
  obtain ⟨p1, p2⟩ := hi.less (by omega) hD (lv_lt hd) (hr.len.trans hr1.len) hr1.lb hr.lb ⟨q0, by omega⟩ nr.2 (fun j hj => (hr.same j hj).trans (hr1.same j hj)) hr1.same ⟨c0, c1⟩ (by simpa using v1) v
  have e : g' = g - 1 := by rw [eg']; show IntKind.u32.wrap (g - 1) = _; rw [wu32]; omega
  rw [e]; exact p2
end

theorem lv_take_of_lt {R : List Int} {n : Nat} (h : n ≤ R.length) (hlt : lv R < 4294967296 ^ n) : lv (R.take n) = lv R := by
  have e := lv_take_drop R n h
  rcases Nat.eq_zero_or_pos (lv (R.drop n)) with h0 | h0
  · rw [h0] at e; omega
  · have : 4294967296 ^ n * 1 ≤ 4294967296 ^ n * lv (R.drop n) := Nat.mul_le_mul_left _ h0
    omega

theorem div_stop {x y R Q : List Int} {k m : Nat} (hy : Lb y) (hyn : y ≠ []) (hy0 : 0 < lv y) (hm : y.length + 1 ≤ m) (hmR : m ≤ R.length) (hlen : (lim (lv y * 2 ^ k)).length = y.length)
    (hi : DivInv (lv x * 2 ^ k) (lv y * 2 ^ k) y.length R Q 0) : lv Q = lv x / lv y ∧ lv (R.take m) / 2 ^ k = lv x % lv y := by
  obtain ⟨s1, s2⟩ := hi.stop
  have p : 0 < 2 ^ k := Nat.two_pow_pos k
  have hlt : lv R < 4294967296 ^ m := by
    have h1 : lv y * 2 ^ k < 4294967296 ^ y.length := by
      have := lv_lt (lim_lb (lv y * 2 ^ k))
      rwa [lv_lim, hlen] at this
    have h2 : (4294967296 : Nat) ^ y.length ≤ 4294967296 ^ m := Nat.pow_le_pow_right (by omega) (by omega)
    have h3 : lv R < lv y * 2 ^ k := by rw [s2]; exact Nat.mod_lt _ (Nat.mul_pos hy0 p)
    omega
  rw [lv_take_of_lt hmR hlt, s1, s2, Nat.mul_div_mul_right _ _ p, Nat.mul_mod_mul_right, Nat.mul_div_cancel _ p]
  exact ⟨rfl, rfl⟩
end Go.Proofs.YtoghalnnmhpfmaaGreat.Ev

/- Contracts: the quotient and the rest of limbs. Printed by gen.py. -/
namespace Go.Proofs.YtoghalnnmhpfmaaGreat.Ev
open Go Go.Proofs
set_option linter.unusedVariables false
set_option linter.unusedSimpArgs false


attribute [local irreducible] Lb
theorem pred_len {y : List Int} (h : 1 ≤ y.length) (h' : y.length < 67108864) : intBinR .sub .i64 (y.length : Int) 1 = y.length - 1 := wi64_id (by omega) (by omega)
def divS (w : Int) (d : List Int) (n1 nq : Int) : Int × List Int × List Int → St := fun p => ⟨[(9, .int .i64 (.s w)), (10, .sli .u32 d), (11, .ms 2 1 (.l 0) (.s n1)), (12, .ms 3 1 (.l 0) (.s nq)), (73, .int .i64 (.s nq)), (74, .int .i64 (.s p.1))],
  [.dead, .ints true .u32 [0, 0], .ints true .u32 p.2.1, .ints true .u32 p.2.2]⟩
structure DivOK (A : Nat) (d : List Int) (qn rn : Nat) (i : Int) (R Q : List Int) : Prop where
  i0 : 0 ≤ i
  i1 : i ≤ qn
  inv : DivInv A (lv d) d.length R Q ((qn : Int) - i).toNat
  ql : Q.length = qn
  rl : R.length = rn
set_option maxHeartbeats 4000000 in
theorem c_natDiv (a b : List Int) (ha : Lb a) (hb : Lb b) (hla : a.length < 33554432) (hlb : b.length < 33554432) : ∃ t : List Int × List Int × Bool, t = (if lv b = 0 then ([], [], false) else (lim (lv a / lv b), lim (lv a % lv b), true)) ∧
    CallsA Tryz.prog 126 [.sli .u32 a, .sli .u32 b] (.tup [.sli .u32 t.1, .sli .u32 t.2.1, .bool (.s t.2.2)]) := by
  refine ⟨_, rfl, ?_⟩
  generalize hr : (if lv b = 0 then ([], [], false) else (lim (lv a / lv b), lim (lv a % lv b), true)) = r
  have hlx := lim_length_le' ha
  have hx := lim_lb (lv a)
  have vx := lv_lim (lv a)
  have lx := (lim_cn (lv a)).last
  have hly := lim_length_le' hb
  have hy := lim_lb (lv b)
  have vy := lv_lim (lv b)
  have ly := (lim_cn (lv b)).last
  obtain ⟨x, ex⟩ : ∃ x, lim (lv a) = x := ⟨_, rfl⟩
  obtain ⟨y, ey⟩ : ∃ y, lim (lv b) = y := ⟨_, rfl⟩
  rw [ex] at hlx hx vx lx
  rw [ey] at hly hy vy ly
  have y0 : y.length = 0 ↔ lv b = 0 := by
    rw [← ey, List.length_eq_zero_iff, lim_eq_nil]
  obtain ⟨m, em⟩ : ∃ m : Int × List Int × List Int → Nat, ∀ p, m p = (x.length + 1 - p.1).toNat := ⟨_, fun _ => rfl⟩
  obtain ⟨ok, eok⟩ : ∃ ok : List Int → Int → Nat → Nat → Int × List Int × List Int → Prop, ∀ d w qn rn p, ok d w qn rn p ↔ DivOK (lv x * 2 ^ w.toNat) d qn rn p.1 p.2.1 p.2.2 := ⟨_, fun _ _ _ _ _ => Iff.rfl⟩
  refine callsA_of hG hm Tryz.func126 (by kernel_rfl) ?_
  intro E hE lp hl
  cbv
  (apply E_callX hE (c_cut a ha (by omega)); (case hf => rfl); (case hc => (cbv <;> trivial)); (case hle => exact ⟨u2_sli, trivial⟩); intro x' hx'; cbv)
  (apply E_callX hE (c_cut b hb (by omega)); (case hf => rfl); (case hc => (cbv <;> trivial)); (case hle => exact ⟨u2_sli, trivial⟩); intro y' hy'; cbv)
  rw [hx'.trans ex, hy'.trans ey]
  clear hx' hy' x' y'
  refine E_br hE (fun h => ?_) (fun h => ?_)
  · have e : lv b = 0 := y0.1 (by subst hE; have := eql_t h; simp only [realE] at this; omega)
    cbv
    rw [← hr, if_pos e]
    exact ⟨rfl, rfl, rfl, trivial⟩
  have hb0 : 0 < lv b := by
    rcases Nat.eq_zero_or_pos (lv b) with e | e
    · exfalso; have := y0.2 e; subst hE; have := eql_f h; simp only [realE] at this; omega
    · exact e
  have ny : y ≠ [] := by intro e; rw [e] at vy; simp only [lv] at vy; omega
  rw [if_neg (by omega)] at hr
  (apply E_callX hE (c_natCmp x y hx hy (by omega) (by omega)); (case hf => rfl); (case hc => (cbv <;> trivial)); (case hle => exact ⟨u2_sli, u2_sli, trivial⟩); intro t ht; cbv)
  rw [vx, vy] at ht
  refine E_br hE (fun h => ?_) (fun h => ?_)
  · have hlt : lv a < lv b := by
      subst hE; have := lss_t h
      rw [ht] at this
      rcases Nat.lt_or_ge (lv a) (lv b) with h1 | h1
      · exact h1
      · rw [if_neg (by omega)] at this; split at this <;> omega
    cbv
    repeat' (first
    | (refine E_br hE (fun h => ?_) (fun h => ?_) <;> cbv)
    | (refine E_nm hE (fun v hv => ?_); cbv)
    | (refine E_nilS hE (fun b hb => ?_); cbv)
    | (apply E_callX hE (c_Clone _ ?_); (case hf => rfl); (case hc => (cbv <;> trivial)); (case hle => exact u_up); all_goals (first | (intro t ht; cbv) | (omega)))
    | fail)
    rw [← hr, Nat.div_eq_of_lt hlt, Nat.mod_eq_of_lt hlt, ex]
    exact ⟨rfl, ‹_›, rfl, trivial⟩
  have hge : lv b ≤ lv a := by
    subst hE; have := lss_f h
    rw [ht] at this
    rcases Nat.lt_or_ge (lv a) (lv b) with h1 | h1
    · rw [if_pos h1] at this; omega
    · exact h1
  refine E_br hE (fun h => ?_) (fun h => ?_)
  · have y1 : y.length = 1 := by subst hE; have := eql_t h; simp only [realE] at this; omega
    have e0 : y = [y.getD 0 0] := by
      obtain ⟨z, hz⟩ := List.length_eq_one_iff.1 y1
      rw [hz]; rfl
    have g0 := hy.getD 0
    have v0 : lv b = (y.getD 0 0).toNat := by
      rw [← vy]
      conv => lhs; rw [e0]
      simp only [lv]; omega
    have p0 : 0 < y.getD 0 0 := by omega
    cbv
    repeat' (first
    | (refine E_br hE (fun h => ?_) (fun h => ?_) <;> cbv)
    | (refine E_nm hE (fun v hv => ?_); cbv)
    | (refine E_nilS hE (fun b hb => ?_); cbv)
    | (apply E_callX hE (c_short x _ hx ?_ ?_ ?_); (case hf => rfl); (case hc => (cbv <;> trivial)); (case hle => exact u_up); all_goals (first | (intro t ht; cbv) | ((subst hE; first | omega | exact p0 | exact g0.2))))
    | fail)
    · subst hE
      have ht' : t = (lim (lv x / (y.getD 0 0).toNat), lim (lv x % (y.getD 0 0).toNat)) := ht
      rw [ht', ← hr, vx, ← v0]; exact ⟨rfl, rfl, rfl, trivial⟩
    · subst hE; have := lss_f h; simp only [realE] at this; omega
  have y2 : 2 ≤ y.length := by
    have h1 : 0 < y.length := List.length_pos_iff.2 ny
    subst hE; have := eql_f h; simp only [realE] at this; omega
  have nx : x ≠ [] := by intro e; rw [e] at vx; simp only [lv] at vx; omega
  have xy : y.length ≤ x.length := by
    rw [← ex, ← ey]
    rcases Nat.lt_or_ge (lim (lv a)).length (lim (lv b)).length with h1 | h1
    · have := lim_len_lt h1; omega
    · exact h1
  have gl := hy.getD (y.length - 1)
  have g1 : E.get y (E.bin .sub .i64 (E.len y) 1) = y.getD (y.length - 1) 0 := by
    subst hE
    show y.getD (intBinR .sub .i64 (y.length : Int) 1).toNat 0 = _
    rw [pred_len (by omega) (by omega), show ((y.length : Int) - 1).toNat = y.length - 1 by omega]
  cbv
  refine E_br hE (fun h => ?_) (fun h => ?_)
  rotate_left
  · exfalso; subst hE; have := leq_f h; change ¬ 0 ≤ intBinR .sub .i64 (y.length : Int) 1 at this; rw [pred_len (by omega) (by omega)] at this; omega
  cbv
  refine E_br hE (fun h => ?_) (fun h => ?_)
  rotate_left
  · exfalso; subst hE; have := lss_f h; change ¬ intBinR .sub .i64 (y.length : Int) 1 < (y.length : Int) at this; rw [pred_len (by omega) (by omega)] at this; omega
  cbv
  (apply E_callX hE (c_LZ32 (E.get y (E.bin .sub .i64 (E.len y) 1)) (by rw [g1]; exact gl.1) (by rw [g1]; exact gl.2)); (case hf => rfl); (case hc => (cbv <;> trivial)); (case hle => exact ⟨u2_int, trivial⟩); intro t1 ht1; cbv)
  refine E_nm hE (fun w hw => ?_)
  have ew : w = 32 - blen (y.getD (y.length - 1) 0) := by rw [hw, ht1, g1]
  have w0 := (norm_len hy ny (ly ny) ew).1
  have w1 := (norm_len hy ny (ly ny) ew).2.1
  have dl := (norm_len hy ny (ly ny) ew).2.2
  clear hw ew ht1
  cbv
  (apply E_callX hE (c_natShl y w hy (by omega)); (case hf => rfl); (case hc => (cbv <;> trivial)); (case hle => exact ⟨u2_sli, u2_int, trivial⟩); intro d hd; cbv)
  have ed : d = lim (lv y * 2 ^ w.toNat) := by
    rw [hd]
    split
    · rw [show w.toNat = 0 by omega, Nat.pow_zero, Nat.mul_one]
    · rw [if_neg (by omega)]
  have ld : Lb d := ed ▸ lim_lb _
  have vd : lv d = lv y * 2 ^ w.toNat := by rw [ed, lv_lim]
  have nd : d.length = y.length := by rw [ed]; exact dl
  have d0 : d.getD (d.length - 1) 0 ≠ 0 := by
    rw [ed]
    refine (lim_cn _).last ?_
    intro e; rw [e] at dl; simp only [List.length_nil] at dl; omega
  have ds := div_start (k := w.toNat) hx hy nx ny (lx nx) (ly ny) xy
  clear lx ly hd
  refine E_callH hE (h_Shl x w hx (by omega) (by omega) w0 (by omega)) ?_
  intro v h1 hv
  obtain ⟨L, k, hv⟩ := hv
  rw [hv.1, hv.2.1]
  have k0 := hv.2.2.1
  have k1 := hv.2.2.2.1
  have k2 := hv.2.2.2.2.1
  have k3 := hv.2.2.2.2.2
  clear hv h1 v
  have kl : k.toNat = (lim (lv x * 2 ^ w.toNat)).length := by
    have := congrArg List.length k2
    rw [List.length_take] at this; omega
  have kx : (x.length : Int) + 1 ≤ k + 2 := by
    have := ds.lenr
    simp only [List.length_replicate, List.length_append, List.length_cons, List.length_nil] at this
    omega
  have kR : k ≤ 134217728 := by omega
  have kb : (lim (lv x * 2 ^ w.toNat)).length ≤ x.length + 1 := by
    apply lim_length_le
    have h1 := lv_lt hx
    have h2 : 2 ^ w.toNat ≤ 4294967296 := two_pow_le (by omega)
    rw [Nat.pow_succ]
    have h3 : lv x * 2 ^ w.toNat ≤ lv x * 4294967296 := Nat.mul_le_mul_left _ h2
    omega
  rw [← vd, ← nd] at ds
  obtain ⟨qn, hqn⟩ : ∃ qn, qn = x.length - d.length + 1 := ⟨_, rfl⟩
  obtain ⟨rn, hrn⟩ : ∃ rn, rn = k.toNat + 2 := ⟨_, rfl⟩
  have start : DivOK (lv x * 2 ^ w.toNat) d qn rn 0 (((L.drop (0 : Int).toNat).take k.toNat) ++ [0, 0]) (List.replicate qn 0) := by
    refine ⟨Int.le_refl _, by omega, ?_, by simp, ?_⟩
    · rw [← hqn] at ds
      rw [show (0 : Int).toNat = 0 by rfl, List.drop_zero, k2, show ((qn : Int) - 0).toNat = qn by omega]
      exact ds
    · rw [show (0 : Int).toNat = 0 by rfl, List.drop_zero, k2, List.length_append, ← kl]
      rw [hrn]; rfl
  have rn1 : x.length + 1 ≤ rn := by omega
  have rn2 : rn < 67108870 := by omega
  have fin : ∀ i R Q, DivOK (lv x * 2 ^ w.toNat) d qn rn i R Q → ¬ i < qn → Lb Q ∧ Q.length = qn ∧ Lb (R.take (x.length + 1)) ∧ (R.take (x.length + 1)).length = x.length + 1 ∧ (lim (lv Q), lim (lv (R.take (x.length + 1)) / 2 ^ w.toNat), true) = r := by
    intro i R Q o hi
    have hi' : ((qn : Int) - i).toNat = 0 := by have := o.i1; omega
    have inv := o.inv
    rw [hi', vd, nd] at inv
    have rl := o.rl
    obtain ⟨f1, f2⟩ := div_stop hy ny (by omega) (m := x.length + 1) (by omega) (by omega) dl inv
    refine ⟨inv.lbq, o.ql, inv.lbr.take _, by rw [List.length_take]; omega, ?_⟩
    rw [f1, f2, vx, vy, hr]
  have nqv : intBinR .add .i64 (intBinR .sub .i64 (x.length : Int) y.length) 1 = qn := by
    have e : intBinR .sub .i64 (x.length : Int) y.length = x.length - y.length := wi64_id (by omega) (by omega)
    have e2 : intBinR .add .i64 ((x.length : Int) - y.length) 1 = x.length - y.length + 1 := wi64_id (by omega) (by omega)
    rw [e, e2, hqn]; omega
  have n1v : intBinR .add .i64 (x.length : Int) 1 = (x.length + 1 : Nat) := by
    have e2 : intBinR .add .i64 (x.length : Int) 1 = x.length + 1 := wi64_id (by omega) (by omega)
    rw [e2]; rfl
  have qn1 : qn < 67108864 := by omega
  have d2 : 2 ≤ d.length := by omega
  have dx : d.length ≤ x.length := by omega
  have xyI : (y.length : Int) ≤ x.length := by omega
  have y2I : (2 : Int) ≤ y.length := by omega
  have xI : (x.length : Int) < 33554432 := by omega
  cbv
  repeat' (first
    | (refine E_br hE (fun h => ?_) (fun h => ?_) <;> cbv)
    | (refine E_nm hE (fun v hv => ?_); cbv)
    | (refine E_nilS hE (fun b hb => ?_); cbv)
    | fail)
  all_goals (try (exfalso; clear start ds dl d0 kl k2 ed vd fin nqv n1v; subst hE; simp only [NatCast.natCast, Int.ofNat_eq_natCast, realE, cmp_eql, cmp_neq, cmp_lss, cmp_leq, cmp_gtr, cmp_geq, intBinR, decide_eq_true_eq, decide_eq_false_iff_not, SI.val, SB.val, Num.eta, Iv.eta] at *; (try simp only [wi64] at *); omega))
  clear ds dl kl k2 ed vd g1 gl k0 k1 k3 kx kR kb
  refine E_loop hE hG hm hl (divS w d (E.bin .add .i64 (E.len x) 1) (E.bin .add .i64 (E.bin .sub .i64 (E.len x) (E.len y)) 1)) m (ok d w qn rn)
    ⟨(0, E.app (E.sub L 0 k) (E.sub [0, 0] 0 (Int.ofNat 2)), E.rep (E.bin .add .i64 (E.bin .sub .i64 (E.len x) (E.len y)) 1)), (eok _ _ _ _ _).2 ?_, stLe rfl ?_⟩ ?_
  · subst hE
    have e : (realE Tryz.prog).bin .add .i64 ((realE Tryz.prog).bin .sub .i64 ((realE Tryz.prog).len x) ((realE Tryz.prog).len y)) 1 = (qn : Int) := nqv
    rw [e]
    exact start
  · (repeat' (first | exact t_nil | apply t_cons | exact u2_sli | exact u2_int | exact u2_bool | exact u2_ms | exact u2_ptr | exact (rfl : sle2 .s0 .s0)))
  clear start
  rintro ⟨i, R, Q⟩ hok
  have o : DivOK (lv x * 2 ^ w.toNat) d qn rn i R Q := (eok _ _ _ _ _).1 hok
  have fin' := fin i R Q o
  have i0 := o.i0
  have i1 := o.i1
  clear hok fin ht
  cbv
  repeat' (first
    | (refine E_br hE (fun h => ?_) (fun h => ?_) <;> cbv)
    | (refine E_nm hE (fun v hv => ?_); cbv)
    | (refine E_nilS hE (fun b hb => ?_); cbv)
    | fail)
  all_goals (try (exfalso; clear fin' em eok o nqv n1v; subst hE; simp only [NatCast.natCast, Int.ofNat_eq_natCast, realE, cmp_eql, cmp_neq, cmp_lss, cmp_leq, cmp_gtr, cmp_geq, intBinR, decide_eq_true_eq, decide_eq_false_iff_not, SI.val, SB.val, Num.eta, Iv.eta] at *; (try simp only [wi64] at *); omega))
  rotate_left
  · simp only [NatCast.natCast, Int.ofNat_eq_natCast] at nqv n1v
    have hge : ¬ i < (qn : Int) := by
      subst hE
      have q : ¬ i < intBinR .add .i64 (intBinR .sub .i64 (x.length : Int) y.length) 1 := lss_f h
      rw [nqv] at q
      exact q
    have f1 := (fin' hge).1
    have f2 := (fin' hge).2.1
    have f3 := (fin' hge).2.2.1
    have f4 := (fin' hge).2.2.2.1
    have f5 := (fin' hge).2.2.2.2
    have e1 : E.sub Q 0 (E.bin .add .i64 (E.bin .sub .i64 (E.len x) (E.len y)) 1) = Q := by
      subst hE
      show (Q.drop (0 : Int).toNat).take (intBinR .add .i64 (intBinR .sub .i64 (x.length : Int) y.length) 1).toNat = Q
      rw [nqv]
      exact sub_all (by rw [f2])
    have e2 : E.sub R 0 (E.bin .add .i64 (E.len x) 1) = R.take (x.length + 1) := by
      subst hE
      show (R.drop (0 : Int).toNat).take (intBinR .add .i64 (x.length : Int) 1).toNat = _
      rw [n1v, Int.toNat_natCast]; rfl
    clear fin' o em eok
    (apply E_callX hE (c_cut (E.sub Q 0 (E.bin .add .i64 (E.bin .sub .i64 (E.len x) (E.len y)) 1)) (by rw [e1]; exact f1) (by rw [e1, f2]; omega)); (case hf => rfl); (case hc => (cbv <;> trivial)); (case hle => exact ⟨u2_sli, trivial⟩); intro q hq; cbv)
    (apply E_callX hE (c_natShr (E.sub R 0 (E.bin .add .i64 (E.len x) 1)) w (by rw [e2]; exact f3) (by rw [e2, f4]; omega)); (case hf => rfl); (case hc => (cbv <;> trivial)); (case hle => exact ⟨u2_sli, u2_int, trivial⟩); intro q2 hq2; cbv)
    rw [← f5]
    rw [e1] at hq
    rw [e2] at hq2
    exact ⟨hq, hq2, rfl, trivial⟩
  rename_i i' ei at_ eat _ _ _ _ _ _ _ _ _
  simp only [NatCast.natCast, Int.ofNat_eq_natCast] at nqv n1v xyI y2I xI
  have hi : i < (qn : Int) := by
    subst hE
    have q : i < intBinR .add .i64 (intBinR .sub .i64 (x.length : Int) y.length) 1 := lss_t ‹(realE Tryz.prog).cmp .lss i _ = true›
    rw [nqv] at q
    exact q
  have nqE : E.bin .add .i64 (E.bin .sub .i64 (E.len x) (E.len y)) 1 = qn := by subst hE; exact nqv
  have n1E : E.bin .add .i64 (E.len x) 1 = (x.length + 1 : Nat) := by subst hE; exact n1v
  have hat : at_ = qn - 1 - i := by
    rw [nqE] at eat
    subst hE
    rw [← o.ql] at eat ⊢
    exact div_at (by rw [o.ql]; omega) o.i0 (by rw [o.ql]; exact hi) ei eat
  have i0 := o.i0
  have a0 : 0 ≤ at_ := by omega
  have a1 : at_ < Q.length := by rw [o.ql]; omega
  have a2 : at_ + d.length < ((x.length + 1 : Nat) : Int) := by omega
  have a3 : ((x.length + 1 : Nat) : Int) ≤ R.length := by rw [o.rl]; omega
  have a4 : R.length < 134217728 := by rw [o.rl]; omega
  have inv : DivInv (lv x * 2 ^ w.toNat) (lv d) d.length R Q (at_.toNat + 1) := by
    have := o.inv
    rwa [show ((qn : Int) - i).toNat = at_.toNat + 1 by omega] at this
  have etop := hv
  have dg : GuessIn (E.get R v) (E.get R (E.bin .sub .i64 v 1)) (E.get R (E.bin .sub .i64 v 2)) (E.get d (E.bin .sub .i64 (E.len d) 1)) (E.get d (E.bin .sub .i64 (E.len d) 2)) ∧
      guessQ (E.get R v) (E.get R (E.bin .sub .i64 v 1)) (E.get R (E.bin .sub .i64 v 2)) (E.get d (E.bin .sub .i64 (E.len d) 1)) (E.get d (E.bin .sub .i64 (E.len d) 2)) =
        guessQ (R.getD (at_.toNat + d.length) 0) (R.getD (at_.toNat + d.length - 1) 0) (R.getD (at_.toNat + d.length - 2) 0) (d.getD (d.length - 1) 0) (d.getD (d.length - 2) 0) := by
    subst hE
    exact div_guess inv ld d2 d0 a4 a0 a1 etop
  have gq := guessQ_ok dg.1
  (apply E_pcallX hE (c_guess _ _ _ _ _ dg.1); (case hm => rfl); (case hle => exact ⟨u2_int, u2_int, u2_int, u2_int, u2_int, trivial⟩); intro g hg)
  have g0 : 0 ≤ g ∧ g < 4294967296 := by rw [hg]; exact ⟨gq.q0, by have := gq.q1; omega⟩
  have eg := hg.trans dg.2
  clear dg gq hg
  have j1 : ∀ j, j = intBinR .add .i64 i 1 → j = i + 1 := fun j e => e.trans (wi64_id (by omega) (by omega))
  have lbR := inv.lbr
  have next : ∀ (j : Int) (r' : List Int) (g' : Int), j = intBinR .add .i64 i 1 → r'.length = R.length → DivInv (lv x * 2 ^ w.toNat) (lv d) d.length r' (Q.set at_.toNat g') at_.toNat →
      m (j, r', Q.set at_.toNat g') < m (i, R, Q) ∧ ok d w qn rn (j, r', Q.set at_.toNat g') := by
    intro j r' g' ej hl hi'
    have ej := j1 j ej
    refine ⟨by rw [em, em]; show ((x.length : Int) + 1 - j).toNat < ((x.length : Int) + 1 - i).toNat; omega, (eok _ _ _ _ _).2 ⟨by show 0 ≤ j; omega, by show j ≤ (qn : Int); omega, ?_, by rw [List.length_set]; exact o.ql, hl.trans o.rl⟩⟩
    show DivInv _ _ _ _ _ ((qn : Int) - j).toNat
    rw [show ((qn : Int) - j).toNat = at_.toNat by omega]
    exact hi'
  have n1a : at_ + d.length < E.bin .add .i64 (E.len x) 1 := by rw [n1E]; exact a2
  have n1b : E.bin .add .i64 (E.len x) 1 ≤ R.length := by rw [n1E]; exact a3
  have a5 : at_ + d.length < R.length := by omega
  have aq : at_ < E.bin .add .i64 (E.bin .sub .i64 (E.len x) (E.len y)) 1 := by rw [nqE]; omega
  cbv
  refine E_nm hE (fun g' hg' => ?_)
  rw [hg']
  clear hg' g'
  cbv
  refine E_callH hE (h_less d [0, 0] R Q g at_ (E.bin .add .i64 (E.len x) 1) ld lbR g0 a4 a0 a5 n1a n1b) ?_
  intro v1 h1 hv1
  obtain ⟨r1, bb, hv1⟩ := hv1
  have lr := hv1.2.2
  rw [hv1.1, hv1.2.1]
  clear hv1 v1 h1
  refine E_br hE (fun hb1 => ?_) (fun hb1 => ?_)
  · have lr1 : LessR R d g at_.toNat r1 true := hb1 ▸ lr
    have l1 := lr1.len
    cbv
    refine E_nm hE (fun g' hg' => ?_)
    cbv
    refine E_callH hE (h_more d [0, 0] r1 Q at_ (E.bin .add .i64 (E.len x) 1) ld lr1.lb (by rw [l1]; exact a4) a0 (by rw [l1]; exact a5) n1a (by rw [l1]; exact n1b)) ?_
    intro v1 h1 hv1
    obtain ⟨r2, hv1⟩ := hv1
    have mr := hv1.2.2
    rw [hv1.1, hv1.2.1]
    clear hv1 v1 h1
    have dn := fun e => div_less inv ld d2 d0 a0 a1 eg lr1 mr (g' := g') e
    have l2 := mr.len.trans l1
    cbv
    repeat' (first
    | (refine E_br hE (fun h => ?_) (fun h => ?_) <;> cbv)
    | (refine E_nm hE (fun v hv => ?_); cbv)
    | (refine E_nilS hE (fun b hb => ?_); cbv)
    | fail)
    all_goals (try refine ⟨(E.bin .add .i64 i 1, r2, E.set Q at_ g'), ?_, ?_, stLe rfl ?_⟩)
    all_goals (try ((repeat' (first | exact t_nil | apply t_cons | exact u2_sli | exact u2_int | exact u2_bool | exact u2_ms | exact u2_ptr | exact (rfl : sle2 .s0 .s0))); done))
    all_goals (subst hE)
    · exact (next _ r2 g' rfl l2 (dn hg')).1
    · exact (next _ r2 g' rfl l2 (dn hg')).2
    all_goals (first | exact absurd a0 (leq_f h) | exact absurd aq (lss_f h))
  · have lr1 : LessR R d g at_.toNat r1 false := hb1 ▸ lr
    have dn := div_same inv ld d2 d0 a0 a1 eg lr1
    have l1 := lr1.len
    cbv
    repeat' (first
    | (refine E_br hE (fun h => ?_) (fun h => ?_) <;> cbv)
    | (refine E_nm hE (fun v hv => ?_); cbv)
    | (refine E_nilS hE (fun b hb => ?_); cbv)
    | fail)
    all_goals (try refine ⟨(E.bin .add .i64 i 1, r1, E.set Q at_ g), ?_, ?_, stLe rfl ?_⟩)
    all_goals (try ((repeat' (first | exact t_nil | apply t_cons | exact u2_sli | exact u2_int | exact u2_bool | exact u2_ms | exact u2_ptr | exact (rfl : sle2 .s0 .s0))); done))
    all_goals (subst hE)
    · exact (next _ r1 g rfl l1 dn).1
    · exact (next _ r1 g rfl l1 dn).2
    all_goals (first | exact absurd a0 (leq_f h) | exact absurd aq (lss_f h))
  all_goals trace_state

end Go.Proofs.YtoghalnnmhpfmaaGreat.Ev

/- Contracts: the product of limbs. Printed by gen.py. -/
namespace Go.Proofs.YtoghalnnmhpfmaaGreat.Ev
open Go Go.Proofs
set_option linter.unusedVariables false
set_option linter.unusedSimpArgs false


attribute [local irreducible] Lb
def mulO (E : Env) (a b : List Int) : Int × List Int → St := fun p => ⟨[(0, .sli .u32 a), (1, .sli .u32 b), (5, .ms 0 1 (.l 0) (.s (E.bin .add .i64 (E.len a) (E.len b)))), (18, .sli .u32 a), (19, .int .i64 (.s (E.len a))), (20, .int .i64 (.s p.1))], [.ints true .u32 p.2]⟩
def mulI (E : Env) (a b : List Int) (i i' x : Int) : Int × Int × List Int → St := fun p => ⟨[(0, .sli .u32 a), (1, .sli .u32 b), (5, .ms 0 1 (.l 0) (.s (E.bin .add .i64 (E.len a) (E.len b)))), (18, .sli .u32 a), (19, .int .i64 (.s (E.len a))), (20, .int .i64 (.s i)),
   (6, .int .i64 (.s i')), (7, .int .u32 (.s x)), (8, .int .u64 (.s p.2.1)), (25, .sli .u32 b), (26, .int .i64 (.s (E.len b))), (27, .int .i64 (.s p.1))], [.ints true .u32 p.2.2]⟩
set_option maxHeartbeats 1000000 in
theorem c_natMul (a b : List Int) (ha : Lb a) (hb : Lb b) (hla : a.length < 134217728) (hlb : b.length < 134217728) : ∃ t : List Int, t = lim (lv a * lv b) ∧ CallsA Tryz.prog 130 [.sli .u32 a, .sli .u32 b] (.sli .u32 t) := by
  refine ⟨_, rfl, ?_⟩
  generalize hr : lim (lv a * lv b) = r
  have h32 : IntKind.i64.wrap ((a.length : Int) + b.length) = a.length + b.length := wi64_id (by omega) (by omega)
  obtain ⟨m, em⟩ : ∃ m : Int × List Int → Nat, ∀ p, m p = (a.length - p.1).toNat := ⟨_, fun _ => rfl⟩
  obtain ⟨ok, eok⟩ : ∃ ok : Int × List Int → Prop, ∀ p, ok p ↔ 0 ≤ p.1 ∧ p.1 ≤ a.length ∧ MulInv a b p.2 p.1.toNat 0 0 := ⟨_, fun _ => Iff.rfl⟩
  obtain ⟨m2, em2⟩ : ∃ m : Int × Int × List Int → Nat, ∀ p, m p = (b.length - p.1).toNat := ⟨_, fun _ => rfl⟩
  obtain ⟨ok2, eok2⟩ : ∃ ok : Int → Int × Int × List Int → Prop, ∀ i p, ok i p ↔ 0 ≤ p.1 ∧ p.1 ≤ b.length ∧ MulInv a b p.2.2 i.toNat p.1.toNat p.2.1 := ⟨_, fun _ _ => Iff.rfl⟩
  refine callsA_of hG hm Tryz.func130 (by kernel_rfl) ?_
  intro E hE lp hl
  cbv
  repeat' (first
    | (refine E_br hE (fun h => ?_) (fun h => ?_) <;> cbv)
    | (refine E_nm hE (fun v hv => ?_); cbv)
    | (refine E_nilS hE (fun b hb => ?_); cbv)
    | fail)
  all_goals (try (exfalso; subst hE; simp only [NatCast.natCast, Int.ofNat_eq_natCast, realE, cmp_eql, cmp_neq, cmp_lss, cmp_leq, cmp_gtr, cmp_geq, intBinR, decide_eq_true_eq, decide_eq_false_iff_not, SI.val, SB.val, Num.eta, Iv.eta] at *; rw [h32] at *; omega))
  refine E_loop hE hG hm hl (mulO E a b) m ok ⟨(0, E.rep (E.bin .add .i64 (E.len a) (E.len b))), (eok _).2 ?_, stLe rfl ?_⟩ ?_
  · refine ⟨by show (0 : Int) ≤ 0; omega, by show (0 : Int) ≤ a.length; omega, ?_⟩
    have := MulInv.start a b
    subst hE; simp only [NatCast.natCast, Int.ofNat_eq_natCast, realE, cmp_eql, cmp_neq, cmp_lss, cmp_leq, cmp_gtr, cmp_geq, intBinR, decide_eq_true_eq, decide_eq_false_iff_not, SI.val, SB.val, Num.eta, Iv.eta] at *; rw [h32]
    exact this
  · (repeat' (first | exact t_nil | apply t_cons | exact u2_sli | exact u2_int | exact u2_bool | exact u2_ms | exact u2_ptr | exact (rfl : sle2 .s0 .s0)))
  rintro ⟨i, out⟩ hok
  obtain ⟨h1, h2, inv⟩ := (eok _).1 hok
  dsimp only at h1 h2 inv
  simp only [NatCast.natCast, Int.ofNat_eq_natCast] at h2 em eok em2 eok2
  have hol := inv.len
  have fin : ¬ i < a.length → Lb out ∧ lim (lv out) = r := by
    intro h
    rw [show i.toNat = a.length by omega] at inv
    exact ⟨inv.lb, by rw [inv.stop, hr]⟩
  clear hr hok
  cbv
  repeat' (first
    | (refine E_br hE (fun h => ?_) (fun h => ?_) <;> cbv)
    | (refine E_nm hE (fun v hv => ?_); cbv)
    | (refine E_nilS hE (fun b hb => ?_); cbv)
    | (apply E_callX hE (c_cut _ ?_ ?_); (case hf => rfl); (case hc => (cbv <;> trivial)); (case hle => exact u_up); all_goals (first | (intro t ht; cbv) | ((subst hE; simp only [NatCast.natCast, Int.ofNat_eq_natCast, realE, cmp_eql, cmp_neq, cmp_lss, cmp_leq, cmp_gtr, cmp_geq, intBinR, decide_eq_true_eq, decide_eq_false_iff_not, SI.val, SB.val, Num.eta, Iv.eta] at *; rw [h32] at *; rw [sub_all (by omega)]; first | exact (fin ‹_›).1 | omega))))
    | fail)
  case hK => subst hE; simp only [NatCast.natCast, Int.ofNat_eq_natCast, realE, cmp_eql, cmp_neq, cmp_lss, cmp_leq, cmp_gtr, cmp_geq, intBinR, decide_eq_true_eq, decide_eq_false_iff_not, SI.val, SB.val, Num.eta, Iv.eta] at *; rw [‹t = _›, h32, sub_all (by omega), (fin ‹_›).2]
  all_goals (try (exfalso; subst hE; simp only [NatCast.natCast, Int.ofNat_eq_natCast, realE, cmp_eql, cmp_neq, cmp_lss, cmp_leq, cmp_gtr, cmp_geq, intBinR, decide_eq_true_eq, decide_eq_false_iff_not, SI.val, SB.val, Num.eta, Iv.eta] at *; clear fin; rw [h32] at *; omega))
  rename_i i' ei
  have ex := hv
  clear hv
  have hilt : i < a.length := by subst hE; exact lss_t ‹_›
  refine E_loop hE hG hm hl (mulI E a b i i' v) m2 (ok2 i) ⟨(0, 0, out), (eok2 _ _).2 ⟨by show (0 : Int) ≤ 0; omega, by show (0 : Int) ≤ b.length; omega, inv⟩, stLe rfl ?_⟩ ?_
  · (repeat' (first | exact t_nil | apply t_cons | exact u2_sli | exact u2_int | exact u2_bool | exact u2_ms | exact u2_ptr | exact (rfl : sle2 .s0 .s0)))
  rintro ⟨k, c, out⟩ hok
  have h3 : 0 ≤ k := ((eok2 _ _).1 hok).1
  have h4 : k ≤ b.length := ((eok2 _ _).1 hok).2.1
  have inv2 : MulInv a b out i.toNat k.toNat c := ((eok2 _ _).1 hok).2.2
  have hol2 := inv2.len
  clear inv hol fin
  cbv
  repeat' (first
    | (refine E_br hE (fun h => ?_) (fun h => ?_) <;> cbv)
    | (refine E_nm hE (fun v hv => ?_); cbv)
    | (refine E_nilS hE (fun b hb => ?_); cbv)
    | fail)
  all_goals (try refine ⟨(E.bin .add .i64 k 1, v, E.set out (E.bin .add .i64 i' _) (E.conv .u32 _)), ?_, ?_, stLe rfl ?_⟩)
  all_goals (try refine ⟨(E.bin .add .i64 i 1, E.set out (E.bin .add .i64 i' (E.len b)) (E.conv .u32 c)), ?_, ?_, stLe rfl ?_⟩)
  all_goals (try ((repeat' (first | exact t_nil | apply t_cons | exact u2_sli | exact u2_int | exact u2_bool | exact u2_ms | exact u2_ptr | exact (rfl : sle2 .s0 .s0))); done))
  all_goals (subst hE)
  all_goals (try (first | (rw [em2, em2]; exact (mul_next ha hb hla hlb h1 hilt h3 (lss_t ‹_›) inv2 ei ‹_› ex ‹_› ‹_› ‹_› rfl).2.2.1) | (rw [eok2]; have q := mul_next ha hb hla hlb h1 hilt h3 (lss_t ‹_›) inv2 ei ‹_› ex ‹_› ‹_› ‹_› rfl; exact ⟨q.1, q.2.1, q.2.2.2⟩) | (rw [em, em]; exact (mul_exit hla hlb h1 hilt h4 (lss_f ‹_›) inv2 ei rfl).2.2.1) | (rw [eok]; have q := mul_exit hla hlb h1 hilt h4 (lss_f ‹_›) inv2 ei rfl; exact ⟨q.1, q.2.1, q.2.2.2⟩)))
  all_goals (clear inv2 hok eok eok2 em em2; simp only [NatCast.natCast, Int.ofNat_eq_natCast, realE, cmp_eql, cmp_neq, cmp_lss, cmp_leq, cmp_gtr, cmp_geq, intBinR, decide_eq_true_eq, decide_eq_false_iff_not, SI.val, SB.val, Num.eta, Iv.eta] at *; (try rw [h32] at *); clear h32; (try simp only [wi64] at *); omega)

end Go.Proofs.YtoghalnnmhpfmaaGreat.Ev

/- The greatest number whose square is not greater, by Newton's steps: sizes. -/
namespace Go.Proofs.YtoghalnnmhpfmaaGreat.Ev
open Go

structure RootOK (a s0 s : Nat) : Prop where
  pos : 0 < s
  up : a < (s + 1) * (s + 1)
  le : s ≤ s0

theorem root_first {x : List Int} (hx : Lb x) (hl : x.length < 524288) (hpos : 0 < lv x) : 1 ≤ (blen (lv x) + 1) / 2 ∧ (blen (lv x) + 1) / 2 ≤ 16777216 ∧ RootOK (lv x) (2 ^ ((blen (lv x) + 1) / 2).toNat) (2 ^ ((blen (lv x) + 1) / 2).toNat) := by
  obtain ⟨n, q1, q2, q3⟩ := blen_pos (x := (lv x : Int)) (by omega)
  have e1 : ((2 ^ n : Nat) : Int) = (2 : Int) ^ n := by push_cast; rfl
  have e2 : ((2 ^ (n + 1) : Nat) : Int) = (2 : Int) ^ (n + 1) := by push_cast; rfl
  rw [← e1] at q2
  rw [← e2] at q3
  have h2 : 2 ^ n ≤ lv x := by omega
  have h3 : lv x < 2 ^ (n + 1) := by omega
  have hn : n < 32 * x.length := by
    rcases Nat.lt_or_ge n (32 * x.length) with h | h
    · exact h
    · exfalso
      have b1 := lv_lt hx
      have b2 : (4294967296 : Nat) ^ x.length = 2 ^ (32 * x.length) := by rw [show (4294967296 : Nat) = 2 ^ 32 by rfl, ← Nat.pow_mul]
      have b3 : 2 ^ (32 * x.length) ≤ 2 ^ n := Nat.pow_le_pow_right (by omega) h
      omega
  rw [q1]
  refine ⟨by omega, by omega, Nat.two_pow_pos _, ?_, Nat.le_refl _⟩
  have e : ((n : Int) + 1 + 1) / 2 = ((n / 2 + 1 : Nat) : Int) := by omega
  rw [e, Int.toNat_natCast]
  have h4 : 2 ^ (n + 1) ≤ 2 ^ (n / 2 + 1) * 2 ^ (n / 2 + 1) := by
    rw [← Nat.pow_add]
    exact Nat.pow_le_pow_right (by omega) (by omega)
  have h5 : 2 ^ (n / 2 + 1) * 2 ^ (n / 2 + 1) ≤ (2 ^ (n / 2 + 1) + 1) * (2 ^ (n / 2 + 1) + 1) := Nat.mul_le_mul (by omega) (by omega)
  omega

theorem lim_len_two {s n M : Nat} (h1 : s ≤ 2 ^ n) (hn : n ≤ 32 * M) : (lim s).length ≤ M + 1 := by
  apply lim_length_le
  have h2 : 2 ^ n ≤ 2 ^ (32 * M) := Nat.pow_le_pow_right (by omega) hn
  have h3 : (2 : Nat) ^ (32 * M) < 2 ^ (32 * (M + 1)) := Nat.pow_lt_pow_right (by omega) (by omega)
  have h4 : (4294967296 : Nat) ^ (M + 1) = 2 ^ (32 * (M + 1)) := by rw [Nat.pow_mul]
  rw [h4]
  omega
theorem RootOK.len {a s0 s : Nat} {n : Nat} (h : RootOK a s0 s) (e : s0 = 2 ^ n) (hn : n ≤ 16777216) : (lim s).length ≤ 524289 :=
  lim_len_two (by rw [← e]; exact h.le) (by omega)

theorem lim_add_len {m n k : Nat} (hm : (lim m).length ≤ k) (hn : (lim n).length ≤ k) : (lim (m + n)).length ≤ k + 1 := by
  have h1 := lv_lt (lim_lb m)
  have h2 := lv_lt (lim_lb n)
  rw [lv_lim] at h1 h2
  have h3 : (4294967296 : Nat) ^ (lim m).length ≤ 4294967296 ^ k := Nat.pow_le_pow_right (by omega) hm
  have h4 : (4294967296 : Nat) ^ (lim n).length ≤ 4294967296 ^ k := Nat.pow_le_pow_right (by omega) hn
  apply lim_length_le
  rw [Nat.pow_succ]
  omega
theorem lim_mono {m n : Nat} (h : m ≤ n) : (lim m).length ≤ (lim n).length := by
  have h1 := lv_lt (lim_lb n)
  rw [lv_lim] at h1
  exact lim_length_le (by omega)
theorem lim_mul_len {m n : Nat} : (lim (m * n)).length ≤ (lim m).length + (lim n).length := by
  have h1 := lv_lt (lim_lb m)
  have h2 := lv_lt (lim_lb n)
  rw [lv_lim] at h1 h2
  apply lim_length_le
  rw [Nat.pow_add]
  exact Nat.mul_lt_mul'' h1 h2

theorem RootOK.next {a s0 s : Nat} (ha : 0 < a) (h : RootOK a s0 s) (hlt : (s + a / s) / 2 < s) : RootOK a s0 ((s + a / s) / 2) :=
  ⟨newton_pos ha h.pos, newton_step h.pos, by have := h.le; omega⟩
theorem RootOK.stop {a s0 s : Nat} (h : RootOK a s0 s) (hlt : ¬ (s + a / s) / 2 < s) : nsqrt a = s :=
  nsqrt_eq (newton_stop h.pos (by omega)) h.up
end Go.Proofs.YtoghalnnmhpfmaaGreat.Ev

/- Contracts: the root of limbs. Printed by gen.py. -/
namespace Go.Proofs.YtoghalnnmhpfmaaGreat.Ev
open Go Go.Proofs
set_option linter.unusedVariables false
set_option linter.unusedSimpArgs false


attribute [local irreducible] Lb
set_option maxHeartbeats 2000000 in
theorem c_natRoot (a : List Int) (ha : Lb a) (hla : a.length < 524288) : ∃ t : List Int × Bool, t = (lim (nsqrt (lv a)), decide (nsqrt (lv a) * nsqrt (lv a) = lv a)) ∧
    CallsA Tryz.prog 92 [.sli .u32 a] (.tup [.sli .u32 t.1, .bool (.s t.2)]) := by
  refine ⟨_, rfl, ?_⟩
  generalize hr : (lim (nsqrt (lv a)), decide (nsqrt (lv a) * nsqrt (lv a) = lv a)) = r
  have hlx := lim_length_le' ha
  have hx := lim_lb (lv a)
  have vx := lv_lim (lv a)
  obtain ⟨x, ex⟩ : ∃ x, lim (lv a) = x := ⟨_, rfl⟩
  rw [ex] at hlx hx vx
  rw [← vx] at hr ex
  have xx : lim (lv x) = x := ex
  have xl : x.length < 524288 := by omega
  obtain ⟨m, em⟩ : ∃ m : Nat → Nat, ∀ s, m s = s := ⟨_, fun _ => rfl⟩
  obtain ⟨ok, eok⟩ : ∃ ok : Nat → Prop, ∀ s, ok s ↔ 0 < lv x ∧ RootOK (lv x) (2 ^ ((blen (lv x) + 1) / 2).toNat) s := ⟨_, fun _ => Iff.rfl⟩
  refine callsA_of hG hm Tryz.func92 (by kernel_rfl) ?_
  intro E hE lp hl
  cbv
  refine E_scope hE hG hm hl 0 rfl (fun s : Nat => (⟨[(0, .sli .u32 x), (5, .sli .u32 (lim s))], [.ints false .u32 [1]]⟩ : St)) m ok ?_ ?_
  · cbv
    (apply E_callX hE (c_cut a ha (by omega)); (case hf => rfl); (case hc => (cbv <;> trivial)); (case hle => exact ⟨u2_sli, trivial⟩); intro x' hx'; cbv)
    have hx2 : x' = x := by rw [hx', ← vx, xx]
    rw [hx2]
    clear hx' hx2 x'
    repeat' (first
    | (refine E_br hE (fun h => ?_) (fun h => ?_) <;> cbv)
    | (refine E_nm hE (fun v hv => ?_); cbv)
    | (refine E_nilS hE (fun b hb => ?_); cbv)
    | fail)
    · have e0 : x = [] := List.length_eq_zero_iff.1 (by subst hE; have := eql_t h; simp only [realE] at this; omega)
      rw [← hr, e0]
      exact ⟨rfl, rfl, trivial⟩
    have apos : 0 < lv x := by
      rcases Nat.eq_zero_or_pos (lv x) with h0 | h0
      · exfalso
        rw [h0] at xx
        have : x.length = 0 := by rw [← xx]; rfl
        subst hE; have := eql_f h; simp only [realE] at this; omega
      · exact h0
    have n1 := (root_first hx xl apos).1
    have n2 := (root_first hx xl apos).2.1
    have o := (root_first hx xl apos).2.2
    have n16 : ((blen (lv x : Int) + 1) / 2).toNat ≤ 16777216 := by omega
    (apply E_callX hE (c_natLen x hx (by omega)); (case hf => rfl); (case hc => (cbv <;> trivial)); (case hle => exact ⟨u2_sli, trivial⟩); intro t ht; cbv)
    simp only [NatCast.natCast, Int.ofNat_eq_natCast] at ht n1 n2
    have en : E.bin .quo .i64 (E.bin .add .i64 t 1) 2 = (blen (lv x : Int) + 1) / 2 := by
      subst hE
      show IntKind.i64.wrap ((IntKind.i64.wrap (t + 1)).tdiv 2) = _
      rw [ht, wi64_id (n := blen (lv x : Int) + 1) (by omega) (by omega), Int.tdiv_eq_ediv_of_nonneg (by omega), wi64_id (by omega) (by omega)]
    have l1 : Lb [1] := Lb.cons (by omega) (by omega) Lb.nil
    have es1 : E.sub [1] 0 (Int.ofNat 1) = [1] := by subst hE; rfl
    (apply E_callX hE (c_natShl (E.sub [1] 0 (Int.ofNat 1)) (E.bin .quo .i64 (E.bin .add .i64 t 1) 2) (by rw [es1]; exact l1) (by rw [es1]; decide)); (case hf => rfl); (case hc => (cbv <;> trivial)); (case hle => exact ⟨u2_sli, u2_int, trivial⟩); intro y hy; cbv)
    obtain ⟨s, es⟩ : ∃ s, s = 2 ^ ((blen (lv x : Int) + 1) / 2).toNat := ⟨_, rfl⟩
    have ey : y = lim s := by
      rw [hy, es1, en, if_neg (by omega), if_neg (by omega), es]
      congr 1
      simp [lv]
    rw [ey]
    clear hy ey y
    have o : RootOK (lv x) (2 ^ ((blen (lv x : Int) + 1) / 2).toNat) s := by rw [es]; exact o
    clear es
    cbv

    (apply E_callX hE (c_natDiv x (lim s) hx (lim_lb s) (by omega) (by have := o.len rfl n16; omega)); (case hf => rfl); (case hc => (cbv <;> trivial)); (case hle => exact ⟨u2_sli, u2_sli, trivial⟩); intro t ht; cbv)
    have e1 : t.1 = lim (lv x / s) := by rw [ht, lv_lim, if_neg (by have := o.pos; omega)]
    have b1 : t.1.length ≤ 524289 := by rw [e1]; have := lim_mono (Nat.div_le_self (lv x) s); rw [xx] at this; omega
    (apply E_callX hE (c_natAdd (lim s) t.1 (lim_lb s) (by rw [e1]; exact lim_lb _) (by have := o.len rfl n16; omega) (by omega)); (case hf => rfl); (case hc => (cbv <;> trivial)); (case hle => exact ⟨u2_sli, u2_sli, trivial⟩); intro u hu; cbv)
    have e2 : u = lim (s + lv x / s) := by rw [hu, e1, lv_lim, lv_lim]
    have b2 : u.length ≤ 524290 := by rw [e2]; exact lim_add_len (o.len rfl n16) (e1 ▸ b1)
    (apply E_callX hE (c_natShr u 1 (by rw [e2]; exact lim_lb _) (by omega)); (case hf => rfl); (case hc => (cbv <;> trivial)); (case hle => exact ⟨u2_sli, u2_int, trivial⟩); intro v hv; cbv)
    have e3 : v = lim ((s + lv x / s) / 2) := by rw [hv, e2, lv_lim]; rfl
    have b3 : v.length ≤ 524290 := by rw [e3]; have := lim_mono (Nat.div_le_self (s + lv x / s) 2); rw [← e2] at this; omega
    (apply E_callX hE (c_natCmp v (lim s) (by rw [e3]; exact lim_lb _) (lim_lb s) (by omega) (by have := o.len rfl n16; omega)); (case hf => rfl); (case hc => (cbv <;> trivial)); (case hle => exact ⟨u2_sli, u2_sli, trivial⟩); intro c hc; cbv)
    have e4 : c < 0 ↔ (s + lv x / s) / 2 < s := by
      rw [hc, e3, lv_lim, lv_lim]
      constructor
      · intro h
        rcases Nat.lt_or_ge ((s + lv x / s) / 2) s with h1 | h1
        · exact h1
        · rw [if_neg (by omega)] at h; split at h <;> omega
      · intro h; rw [if_pos h]; decide
    refine E_br hE (fun h => ?_) (fun h => ?_)
    · have hlt : (s + lv x / s) / 2 < s := e4.1 (by subst hE; exact lss_t h)
      cbv
      exact ⟨(s + lv x / s) / 2, (eok _).2 ⟨apos, o.next apos hlt⟩, by rw [← e3]; exact stLe rfl (by (repeat' (first | exact t_nil | apply t_cons | exact u2_sli | exact u2_int | exact u2_bool | exact u2_ms | exact u2_ptr | exact (rfl : sle2 .s0 .s0))))⟩
    · have hst : nsqrt (lv x) = s := o.stop (fun hlt => by have := e4.2 hlt; subst hE; exact lss_f h this)
      have lm : (lim (s * s)).length ≤ 1048578 := by have := lim_mul_len (m := s) (n := s); have := o.len rfl n16; omega
      cbv
      (apply E_callX hE (c_natMul (lim s) (lim s) (lim_lb s) (lim_lb s) (by have := o.len rfl n16; omega) (by have := o.len rfl n16; omega)); (case hf => rfl); (case hc => (cbv <;> trivial)); (case hle => exact ⟨u2_sli, u2_sli, trivial⟩); intro p hp; cbv)
      have e5 : p = lim (s * s) := by rw [hp, lv_lim]
      (apply E_callX hE (c_natCmp p x (by rw [e5]; exact lim_lb _) hx (by rw [e5]; omega) (by omega)); (case hf => rfl); (case hc => (cbv <;> trivial)); (case hle => exact ⟨u2_sli, u2_sli, trivial⟩); intro c2 hc2; cbv)
      repeat' (first
    | (refine E_br hE (fun h => ?_) (fun h => ?_) <;> cbv)
    | (refine E_nm hE (fun v hv => ?_); cbv)
    | (refine E_nilS hE (fun b hb => ?_); cbv)
    | fail)
      rw [← hr, hst]
      refine ⟨rfl, ?_, trivial⟩
      subst hE
      show decide (c2 = 0) = decide (s * s = lv x)
      rw [hc2, e5, lv_lim]
      apply decide_eq_decide.2
      constructor
      · intro h
        rcases Nat.lt_trichotomy (s * s) (lv x) with h1 | h1 | h1
        · rw [if_pos h1] at h; omega
        · exact h1
        · rw [if_neg (by omega), if_pos h1] at h; omega
      · intro h; rw [if_neg (by omega), if_neg (by omega)]

  · intro s hs
    have apos : 0 < lv x := ((eok s).1 hs).1
    have o := ((eok s).1 hs).2
    have n16 : ((blen (lv x : Int) + 1) / 2).toNat ≤ 16777216 := by have := (root_first hx xl apos).2.1; omega
    cbv

    (apply E_callX hE (c_natDiv x (lim s) hx (lim_lb s) (by omega) (by have := o.len rfl n16; omega)); (case hf => rfl); (case hc => (cbv <;> trivial)); (case hle => exact ⟨u2_sli, u2_sli, trivial⟩); intro t ht; cbv)
    have e1 : t.1 = lim (lv x / s) := by rw [ht, lv_lim, if_neg (by have := o.pos; omega)]
    have b1 : t.1.length ≤ 524289 := by rw [e1]; have := lim_mono (Nat.div_le_self (lv x) s); rw [xx] at this; omega
    (apply E_callX hE (c_natAdd (lim s) t.1 (lim_lb s) (by rw [e1]; exact lim_lb _) (by have := o.len rfl n16; omega) (by omega)); (case hf => rfl); (case hc => (cbv <;> trivial)); (case hle => exact ⟨u2_sli, u2_sli, trivial⟩); intro u hu; cbv)
    have e2 : u = lim (s + lv x / s) := by rw [hu, e1, lv_lim, lv_lim]
    have b2 : u.length ≤ 524290 := by rw [e2]; exact lim_add_len (o.len rfl n16) (e1 ▸ b1)
    (apply E_callX hE (c_natShr u 1 (by rw [e2]; exact lim_lb _) (by omega)); (case hf => rfl); (case hc => (cbv <;> trivial)); (case hle => exact ⟨u2_sli, u2_int, trivial⟩); intro v hv; cbv)
    have e3 : v = lim ((s + lv x / s) / 2) := by rw [hv, e2, lv_lim]; rfl
    have b3 : v.length ≤ 524290 := by rw [e3]; have := lim_mono (Nat.div_le_self (s + lv x / s) 2); rw [← e2] at this; omega
    (apply E_callX hE (c_natCmp v (lim s) (by rw [e3]; exact lim_lb _) (lim_lb s) (by omega) (by have := o.len rfl n16; omega)); (case hf => rfl); (case hc => (cbv <;> trivial)); (case hle => exact ⟨u2_sli, u2_sli, trivial⟩); intro c hc; cbv)
    have e4 : c < 0 ↔ (s + lv x / s) / 2 < s := by
      rw [hc, e3, lv_lim, lv_lim]
      constructor
      · intro h
        rcases Nat.lt_or_ge ((s + lv x / s) / 2) s with h1 | h1
        · exact h1
        · rw [if_neg (by omega)] at h; split at h <;> omega
      · intro h; rw [if_pos h]; decide
    refine E_br hE (fun h => ?_) (fun h => ?_)
    · have hlt : (s + lv x / s) / 2 < s := e4.1 (by subst hE; exact lss_t h)
      cbv
      exact ⟨(s + lv x / s) / 2, by rw [em, em]; exact hlt, (eok _).2 ⟨apos, o.next apos hlt⟩, by rw [← e3]; exact stLe rfl (by (repeat' (first | exact t_nil | apply t_cons | exact u2_sli | exact u2_int | exact u2_bool | exact u2_ms | exact u2_ptr | exact (rfl : sle2 .s0 .s0))))⟩
    · have hst : nsqrt (lv x) = s := o.stop (fun hlt => by have := e4.2 hlt; subst hE; exact lss_f h this)
      have lm : (lim (s * s)).length ≤ 1048578 := by have := lim_mul_len (m := s) (n := s); have := o.len rfl n16; omega
      cbv
      (apply E_callX hE (c_natMul (lim s) (lim s) (lim_lb s) (lim_lb s) (by have := o.len rfl n16; omega) (by have := o.len rfl n16; omega)); (case hf => rfl); (case hc => (cbv <;> trivial)); (case hle => exact ⟨u2_sli, u2_sli, trivial⟩); intro p hp; cbv)
      have e5 : p = lim (s * s) := by rw [hp, lv_lim]
      (apply E_callX hE (c_natCmp p x (by rw [e5]; exact lim_lb _) hx (by rw [e5]; omega) (by omega)); (case hf => rfl); (case hc => (cbv <;> trivial)); (case hle => exact ⟨u2_sli, u2_sli, trivial⟩); intro c2 hc2; cbv)
      repeat' (first
    | (refine E_br hE (fun h => ?_) (fun h => ?_) <;> cbv)
    | (refine E_nm hE (fun v hv => ?_); cbv)
    | (refine E_nilS hE (fun b hb => ?_); cbv)
    | fail)
      rw [← hr, hst]
      refine ⟨rfl, ?_, trivial⟩
      subst hE
      show decide (c2 = 0) = decide (s * s = lv x)
      rw [hc2, e5, lv_lim]
      apply decide_eq_decide.2
      constructor
      · intro h
        rcases Nat.lt_trichotomy (s * s) (lv x) with h1 | h1 | h1
        · rw [if_pos h1] at h; omega
        · exact h1
        · rw [if_neg (by omega), if_pos h1] at h; omega
      · intro h; rw [if_neg (by omega), if_neg (by omega)]


end Go.Proofs.YtoghalnnmhpfmaaGreat.Ev

/- Contracts: words and limbs. Printed by gen.py. -/
namespace Go.Proofs.YtoghalnnmhpfmaaGreat.Ev
open Go Go.Proofs
set_option linter.unusedVariables false
set_option linter.unusedSimpArgs false


attribute [local irreducible] Lb
theorem word_next {a : List Int} {i n : Int} (ha : Lb a) (hl : a.length ≤ 2) (h1 : 0 ≤ i) (h2 : i < a.length) (hn : n = lv (a.take i.toNat)) {i' x v j : Int} (ei : i' = i) (ex : x = a.getD i.toNat 0)
    (ev : v = intBinR .or .u64 n (intBinR .shl .u64 (IntKind.u64.wrap x) (intBinR .mul .i64 32 i'))) (ej : j = intBinR .add .i64 i 1) :
    0 ≤ j ∧ j ≤ a.length ∧ ((a.length : Int) - j).toNat < ((a.length : Int) - i).toNat ∧ v = lv (a.take j.toNat) := by
  subst ei
  have hx := ha.getD i'.toNat
  have ej' : j = i' + 1 := by rw [ej]; show IntKind.i64.wrap (i' + 1) = _; rw [wi64_id (by omega) (by omega)]
  refine ⟨by omega, by omega, by omega, ?_⟩
  rw [ej', show (i' + 1).toNat = i'.toNat + 1 by omega, lv_take_succ (by omega), ← ex]
  rw [← ex] at hx
  rw [wu64_id hx.1 (by omega)] at ev
  rcases (show i' = 0 ∨ i' = 1 by omega) with rfl | rfl
  · have e0 : n = 0 := by rw [hn]; rfl
    have e1 : intBinR .shl .u64 x (intBinR .mul .i64 32 0) = x := by
      show IntKind.u64.wrap (x * 2 ^ min (IntKind.i64.wrap (32 * 0)).toNat IntKind.u64.bits) = _
      rw [show min (IntKind.i64.wrap (32 * 0)).toNat IntKind.u64.bits = 0 by decide, wu64]
      simp only [Int.pow_zero, Int.mul_one]
      omega
    rw [e1, e0] at ev
    have e2 : intBinR .or .u64 0 x = 0 + 2 ^ 0 * x := by
      have := or64 (l := x) (m := 0) hx.1 hx.2 (by omega) (by omega)
      show IntKind.u64.wrap ((BitVec.ofInt 64 0 ||| BitVec.ofInt 64 x).toNat : Int) = _
      rw [BitVec.or_comm]
      simp only [Int.zero_mul] at this
      rw [this]; omega
    rw [ev, e2, show (Int.toNat 0) = 0 by rfl, List.take_zero]
    simp only [lv, Nat.pow_zero]
    omega
  · have hn0 : 0 ≤ n ∧ n < 4294967296 := by
      have := lv_take_lt ha 1 (by omega)
      rw [show (1 : Int).toNat = 1 by rfl] at hn
      omega
    have e1 : intBinR .shl .u64 x (intBinR .mul .i64 32 1) = x * 4294967296 := by
      show IntKind.u64.wrap (x * 2 ^ min (IntKind.i64.wrap (32 * 1)).toNat IntKind.u64.bits) = _
      rw [show min (IntKind.i64.wrap (32 * 1)).toNat IntKind.u64.bits = 32 by decide, wu64]
      have : (2 : Int) ^ 32 = 4294967296 := by decide
      rw [this]; omega
    rw [e1] at ev
    have e2 : intBinR .or .u64 n (x * 4294967296) = n + x * 4294967296 := or64 hn0.1 hn0.2 hx.1 hx.2
    rw [ev, e2, show (Int.toNat 1) = 1 by rfl]
    rw [show (1 : Int).toNat = 1 by rfl] at hn
    rw [hn]
    omega

def wordS (E : Env) (a : List Int) : Int × Int → St := fun p => ⟨[(3, .int .u64 (.s p.2)), (6, .sli .u32 a), (7, .int .i64 (.s (E.len a))), (8, .int .i64 (.s p.1))], []⟩
theorem c_word (a : List Int) (ha : Lb a) (hl : a.length ≤ 2) : ∃ t : Int, t = lv a ∧ CallsA Tryz.prog 95 [.sli .u32 a] (.int .u64 (.s t)) := by
  refine ⟨_, rfl, ?_⟩
  generalize hr : (lv a : Int) = r
  obtain ⟨m, em⟩ : ∃ m : Int × Int → Nat, ∀ p, m p = (a.length - p.1).toNat := ⟨_, fun _ => rfl⟩
  obtain ⟨ok, eok⟩ : ∃ ok : Int × Int → Prop, ∀ p, ok p ↔ 0 ≤ p.1 ∧ p.1 ≤ a.length ∧ p.2 = lv (a.take p.1.toNat) := ⟨_, fun _ => Iff.rfl⟩
  refine callsA_of hG hm Tryz.func95 (by kernel_rfl) ?_
  intro E hE lp hl'
  cbv
  repeat' (first
    | (refine E_br hE (fun h => ?_) (fun h => ?_) <;> cbv)
    | (refine E_nm hE (fun v hv => ?_); cbv)
    | (refine E_nilS hE (fun b hb => ?_); cbv)
    | fail)
  refine E_loop hE hG hm hl' (wordS E a) m ok ⟨(0, 0), (eok _).2 ⟨by show (0 : Int) ≤ 0; omega, by show (0 : Int) ≤ a.length; omega, rfl⟩, stLe rfl ?_⟩ ?_
  · (repeat' (first | exact t_nil | apply t_cons | exact u2_sli | exact u2_int | exact u2_bool | exact u2_ms | exact u2_ptr | exact (rfl : sle2 .s0 .s0)))
  rintro ⟨i, n⟩ hok
  have h1 : 0 ≤ i := ((eok _).1 hok).1
  have h2 : i ≤ a.length := ((eok _).1 hok).2.1
  have hn : n = lv (a.take i.toNat) := ((eok _).1 hok).2.2
  have fin : ¬ i < a.length → n = r := by
    intro h
    rw [hn, show i.toNat = a.length by omega, List.take_length]; exact hr
  clear hok
  cbv
  repeat' (first
    | (refine E_br hE (fun h => ?_) (fun h => ?_) <;> cbv)
    | (refine E_nm hE (fun v hv => ?_); cbv)
    | (refine E_nilS hE (fun b hb => ?_); cbv)
    | fail)
  all_goals (try refine ⟨(E.bin .add .i64 i 1, v), ?_, ?_, stLe rfl ?_⟩)
  all_goals (try ((repeat' (first | exact t_nil | apply t_cons | exact u2_sli | exact u2_int | exact u2_bool | exact u2_ms | exact u2_ptr | exact (rfl : sle2 .s0 .s0))); done))
  all_goals (subst hE)
  all_goals (try (first
    | (rw [em, em]; exact (word_next ha hl h1 (lss_t ‹_›) hn ‹_ = i› ‹_› ‹_› rfl).2.2.1)
    | (rw [eok]; have q := word_next ha hl h1 (lss_t ‹_›) hn ‹_ = i› ‹_› ‹_› rfl; exact ⟨q.1, q.2.1, q.2.2.2⟩)
    | exact fin (lss_f ‹_›)
    | exact ‹_ = n›.trans (fin (lss_f ‹_›))))
  all_goals (clear fin eok em hn; simp only [NatCast.natCast, Int.ofNat_eq_natCast, realE, cmp_eql, cmp_neq, cmp_lss, cmp_leq, cmp_gtr, cmp_geq, intBinR, decide_eq_true_eq, decide_eq_false_iff_not, SI.val, SB.val, Num.eta, Iv.eta] at *; (try simp only [wi64] at *); omega)

theorem c_limbs (m : Int) (h0 : 0 ≤ m) (h1 : m < 18446744073709551616) : ∃ t : List Int, t = [m % 4294967296, m / 4294967296] ∧ CallsA Tryz.prog 94 [.int .u64 (.s m)] (.sli .u32 t) := by
  refine ⟨_, rfl, ?_⟩
  generalize hr : [m % 4294967296, m / 4294967296] = r
  refine callsA_of hG hm Tryz.func94 (by kernel_rfl) ?_
  intro E hE lp hl'
  cbv
  repeat' (first
    | (refine E_br hE (fun h => ?_) (fun h => ?_) <;> cbv)
    | (refine E_nm hE (fun v hv => ?_); cbv)
    | (refine E_nilS hE (fun b hb => ?_); cbv)
    | fail)
  rw [← hr]
  subst hE
  have e1 : intBinR .shr .u64 m 32 = m / 4294967296 := shr32 m
  show [IntKind.u32.wrap m, IntKind.u32.wrap (intBinR .shr .u64 m 32)] = _
  rw [e1, wu32, wu32, Int.emod_eq_of_lt (a := m / 4294967296) (by omega) (by omega)]

theorem limbs_lb {m : Int} (h0 : 0 ≤ m) (h1 : m < 18446744073709551616) : Lb [m % 4294967296, m / 4294967296] :=
  Lb.cons (by omega) (by omega) (Lb.cons (by omega) (by omega) Lb.nil)
theorem limbs_lv {m : Int} (h0 : 0 ≤ m) : lv [m % 4294967296, m / 4294967296] = m.toNat := by
  simp only [lv]; omega

/-- the root of a finite number -/
def Num.rootF (a : Num) (up : Bool) : Num :=
  if a.e % 2 = 0 then Num.grow false (nsqrt (a.m.toNat * 2 ^ 64)) ((a.e - 64) / 2) (!decide (nsqrt (a.m.toNat * 2 ^ 64) * nsqrt (a.m.toNat * 2 ^ 64) = a.m.toNat * 2 ^ 64)) up
  else Num.grow false (nsqrt (a.m.toNat * 2 ^ 63)) ((a.e - 63) / 2) (!decide (nsqrt (a.m.toNat * 2 ^ 63) * nsqrt (a.m.toNat * 2 ^ 63) = a.m.toNat * 2 ^ 63)) up
def Num.root (a : Num) (up : Bool) : Num × Bool :=
  if a.fair.kind ≠ 0 ∧ a.fair.neg = true then (Num.zero, false) else if a.fair.kind ≠ 1 then (a.fair, true) else (Num.rootF a.fair up, true)

theorem root_sh {m n : Int} {l s : List Int} (h0 : 0 ≤ m) (h1 : m < 18446744073709551616) (hl : l = [m % 4294967296, m / 4294967296]) (hn : n = 64 ∨ n = 63)
    (hs : s = if n < 1 then lim (lv l) else if 16777216 < n then [] else lim (lv l * 2 ^ n.toNat)) : Lb s ∧ s.length < 524288 ∧ lv s = m.toNat * 2 ^ n.toNat ∧ Lb (lim (nsqrt (lv s))) ∧ (lim (nsqrt (lv s))).length ≤ 2 := by
  have lvl : lv l = m.toNat := by rw [hl]; exact limbs_lv h0
  rw [if_neg (by omega), if_neg (by omega), lvl] at hs
  have hm : m.toNat < 18446744073709551616 := by omega
  have hp : 2 ^ n.toNat ≤ 18446744073709551616 := by rcases hn with rfl | rfl <;> decide
  have hlt : m.toNat * 2 ^ n.toNat < 4294967296 ^ 4 := by
    have h2 : m.toNat * 2 ^ n.toNat ≤ m.toNat * 18446744073709551616 := Nat.mul_le_mul_left _ hp
    have h3 : (4294967296 : Nat) ^ 4 = 18446744073709551616 * 18446744073709551616 := by decide
    omega
  have hls := lim_length_le hlt
  have lvs : lv s = m.toNat * 2 ^ n.toNat := by rw [hs, lv_lim]
  refine ⟨by rw [hs]; exact lim_lb _, by rw [hs]; omega, lvs, lim_lb _, ?_⟩
  apply lim_length_le
  rw [lvs]
  have q := (nsqrt_spec (m.toNat * 2 ^ n.toNat)).1
  apply sq_lt
  have h3 : (4294967296 : Nat) ^ 4 = 4294967296 ^ 2 * 4294967296 ^ 2 := by decide
  omega
theorem parity (e : Int) : (intBinR .and .i64 e 1 = 0) ↔ e % 2 = 0 := by
  have h : intBinR .and .i64 e 1 = e % 2 := by
    show IntKind.i64.wrap ((BitVec.ofInt 64 e &&& BitVec.ofInt 64 1).toNat : Int) = _
    have h1 : (BitVec.ofInt 64 e &&& BitVec.ofInt 64 1).toNat = (BitVec.ofInt 64 e).toNat % 2 := by
      rw [BitVec.toNat_and, show (BitVec.ofInt 64 1).toNat = 2 ^ 1 - 1 by decide, Nat.and_two_pow_sub_one_eq_mod]
    rw [h1, wi64, BitVec.toNat_ofInt]
    omega
  rw [h]
theorem half_exact {e n : Int} (h0 : -1048576 ≤ e) (h1 : e ≤ 1048576) (hn : n = 64 ∨ n = 63) (hp : (e - n) % 2 = 0) : intBinR .quo .i64 (intBinR .sub .i64 e n) 2 = (e - n) / 2 := by
  have e1 : intBinR .sub .i64 e n = e - n := by show IntKind.i64.wrap (e - n) = _; rw [wi64]; omega
  show IntKind.i64.wrap ((intBinR .sub .i64 e n).tdiv 2) = _
  rw [e1]
  have e2 : (e - n).tdiv 2 = (e - n) / 2 := by
    obtain ⟨k, hk⟩ : ∃ k, e - n = 2 * k := ⟨(e - n) / 2, by omega⟩
    rw [hk, Int.mul_tdiv_cancel_left _ (by decide), Int.mul_ediv_cancel_left _ (by decide)]
  rw [e2, wi64]; omega

set_option maxHeartbeats 2000000 in
theorem c_quRoot (a : Num) (up : Bool) (ha : a.ok) : ∃ t : Num × Bool, t = Num.root a up ∧ CallsA Tryz.prog 53 [a.av, .bool (.s up)] (.tup [(t.1).av, .bool (.s t.2)]) := by
  refine ⟨_, rfl, ?_⟩
  generalize hr : Num.root a up = r
  refine callsA_of hG hm Tryz.func53 (by kernel_rfl) ?_
  intro E hE lp hl
  cbv
  (apply E_callX hE (c_quFair ⟨_, _, _, _⟩); (case hf => rfl); (case hc => (cbv <;> trivial)); (case hle => (repeat' (first | exact u_nil | apply u_cons | apply u2_agg | exact u2_int | exact u1_int | exact u2_bool | exact u1_bool))); intro t ht; cbv)
  replace ht : t = a.fair := ht
  have tok : t.ok := by rw [ht]; exact Num.fair_ok ha
  have neq_t : ∀ x y : Int, E.cmp .neq x y = true → x ≠ y := by subst hE; intro x y h; simpa only [realE, cmp_neq, decide_eq_true_eq] using h
  have neq_f : ∀ x y : Int, E.cmp .neq x y = false → x = y := by subst hE; intro x y h; simpa only [realE, cmp_neq, decide_eq_false_iff_not, ne_eq, Decidable.not_not] using h
  repeat' (first
    | (refine E_br hE (fun h => ?_) (fun h => ?_) <;> cbv)
    | (refine E_nm hE (fun v hv => ?_); cbv)
    | (refine E_nilS hE (fun b hb => ?_); cbv)
    | fail)
  · have h1 := neq_t _ _ ‹E.cmp .neq t.kind 0 = true›
    rw [← hr]; unfold Num.root
    rw [← ht, if_pos ⟨h1, h⟩]
    exact ⟨⟨rfl, rfl, rfl, rfl, trivial⟩, rfl, trivial⟩
  · have h1 := neq_t _ _ h
    rw [← hr]; unfold Num.root
    rw [← ht, if_neg (by rintro ⟨-, k⟩; rw [‹t.neg = false›] at k; cases k), if_pos h1]
    exact ⟨⟨rfl, rfl, rfl, rfl, trivial⟩, rfl, trivial⟩
  ·
    (apply E_callX hE (c_limbs t.m tok.1 tok.2); (case hf => rfl); (case hc => (cbv <;> trivial)); (case hle => exact ⟨u2_int, trivial⟩); intro l hl'; cbv)
    have len : l.length = 2 := by rw [hl']; rfl
    (apply E_callX hE (c_natShl l (63) (by rw [hl']; exact limbs_lb tok.1 tok.2) (by omega)); (case hf => rfl); (case hc => (cbv <;> trivial)); (case hle => exact ⟨u2_sli, u2_int, trivial⟩); intro s hs; cbv)
    have hn : (63 : Int) = 64 ∨ (63 : Int) = 63 := by exact .inr rfl
    have f := root_sh tok.1 tok.2 hl' hn hs
    (apply E_callX hE (c_natRoot s f.1 f.2.1); (case hf => rfl); (case hc => (cbv <;> trivial)); (case hle => exact ⟨u2_sli, trivial⟩); intro q hq; cbv)
    have q1 : q.1 = lim (nsqrt (lv s)) := by rw [hq]
    (apply E_pcallX hE (c_word q.1 (by rw [q1]; exact f.2.2.2.1) (by rw [q1]; exact f.2.2.2.2)); (case hm => rfl); (case hle => exact ⟨u2_sli, trivial⟩); intro w hw; cbv)
    (apply E_pcallX hE (c_Grow _ _ _ _ _); (case hm => rfl); (case hle => exact ⟨u2_bool, u2_int, u2_int, u2_bool, u2_bool, trivial⟩); intro g hg; cbv)
    have k1 : t.kind = 1 := neq_f _ _ ‹E.cmp .neq t.kind 1 = false›
    have fe : -1048576 ≤ t.e ∧ t.e ≤ 1048576 := by
      have := Num.fin_of (n := a) (by rw [← ht, k1]; decide) (by rw [← ht, k1]; decide)
      rw [← ht] at this
      exact this.2.2
    have hp : (t.e - 63) % 2 = 0 := by have p := parity t.e; (have : ¬ t.e % 2 = 0 := fun k => by have q := p.2 k; subst hE; exact neq_t _ _ h q); omega
    have e1 : g = Num.rootF t up := by
      have hg' : g = Num.grow false w (intBinR .quo .i64 (intBinR .sub .i64 t.e 63) 2) (!q.2) up := by subst hE; exact hg
      have wv : w = nsqrt (t.m.toNat * 2 ^ 63) := by rw [hw, q1, lv_lim, f.2.2.1]; rfl
      have q2 : q.2 = decide (nsqrt (t.m.toNat * 2 ^ 63) * nsqrt (t.m.toNat * 2 ^ 63) = t.m.toNat * 2 ^ 63) := by
        rw [hq]; show decide _ = _; rw [f.2.2.1]; rfl
      rw [hg', half_exact fe.1 fe.2 hn hp, wv, q2]
      unfold Num.rootF
      rw [if_neg (by omega)]
    rw [← hr]; unfold Num.root
    rw [← ht, if_neg (by rintro ⟨-, k⟩; rw [‹t.neg = false›] at k; cases k), if_neg (by rw [k1]; decide), e1]
    exact ⟨⟨rfl, rfl, rfl, rfl, trivial⟩, rfl, trivial⟩

  ·
    (apply E_callX hE (c_limbs t.m tok.1 tok.2); (case hf => rfl); (case hc => (cbv <;> trivial)); (case hle => exact ⟨u2_int, trivial⟩); intro l hl'; cbv)
    have len : l.length = 2 := by rw [hl']; rfl
    (apply E_callX hE (c_natShl l (64) (by rw [hl']; exact limbs_lb tok.1 tok.2) (by omega)); (case hf => rfl); (case hc => (cbv <;> trivial)); (case hle => exact ⟨u2_sli, u2_int, trivial⟩); intro s hs; cbv)
    have hn : (64 : Int) = 64 ∨ (64 : Int) = 63 := by exact .inl rfl
    have f := root_sh tok.1 tok.2 hl' hn hs
    (apply E_callX hE (c_natRoot s f.1 f.2.1); (case hf => rfl); (case hc => (cbv <;> trivial)); (case hle => exact ⟨u2_sli, trivial⟩); intro q hq; cbv)
    have q1 : q.1 = lim (nsqrt (lv s)) := by rw [hq]
    (apply E_pcallX hE (c_word q.1 (by rw [q1]; exact f.2.2.2.1) (by rw [q1]; exact f.2.2.2.2)); (case hm => rfl); (case hle => exact ⟨u2_sli, trivial⟩); intro w hw; cbv)
    (apply E_pcallX hE (c_Grow _ _ _ _ _); (case hm => rfl); (case hle => exact ⟨u2_bool, u2_int, u2_int, u2_bool, u2_bool, trivial⟩); intro g hg; cbv)
    have k1 : t.kind = 1 := neq_f _ _ ‹E.cmp .neq t.kind 1 = false›
    have fe : -1048576 ≤ t.e ∧ t.e ≤ 1048576 := by
      have := Num.fin_of (n := a) (by rw [← ht, k1]; decide) (by rw [← ht, k1]; decide)
      rw [← ht] at this
      exact this.2.2
    have hp : (t.e - 64) % 2 = 0 := by (have : t.e % 2 = 0 := (parity t.e).1 (by subst hE; exact neq_f _ _ h)); omega
    have e1 : g = Num.rootF t up := by
      have hg' : g = Num.grow false w (intBinR .quo .i64 (intBinR .sub .i64 t.e 64) 2) (!q.2) up := by subst hE; exact hg
      have wv : w = nsqrt (t.m.toNat * 2 ^ 64) := by rw [hw, q1, lv_lim, f.2.2.1]; rfl
      have q2 : q.2 = decide (nsqrt (t.m.toNat * 2 ^ 64) * nsqrt (t.m.toNat * 2 ^ 64) = t.m.toNat * 2 ^ 64) := by
        rw [hq]; show decide _ = _; rw [f.2.2.1]; rfl
      rw [hg', half_exact fe.1 fe.2 hn hp, wv, q2]
      unfold Num.rootF
      rw [if_pos (by omega)]
    rw [← hr]; unfold Num.root
    rw [← ht, if_neg (by rintro ⟨-, k⟩; rw [‹t.neg = false›] at k; cases k), if_neg (by rw [k1]; decide), e1]
    exact ⟨⟨rfl, rfl, rfl, rfl, trivial⟩, rfl, trivial⟩

  · have k0 := neq_f _ _ ‹E.cmp .neq t.kind 0 = false›
    rw [← hr]; unfold Num.root
    rw [← ht, if_neg (by rintro ⟨k, -⟩; exact k k0), if_pos (by rw [k0]; decide)]
    exact ⟨⟨rfl, rfl, rfl, rfl, trivial⟩, rfl, trivial⟩
  all_goals (exfalso; have k0 := neq_f _ _ ‹E.cmp .neq t.kind 0 = false›; have k1 := neq_f _ _ ‹E.cmp .neq t.kind 1 = false›; omega)

end Go.Proofs.YtoghalnnmhpfmaaGreat.Ev

/- Contracts: the root of an interval. Printed by gen.py out of C23.spec. -/
namespace Go.Proofs.YtoghalnnmhpfmaaGreat.Ev
open Go Go.Proofs
set_option linter.unusedVariables false
set_option linter.unusedSimpArgs false
def Iv.positive : Iv := Iv.make Num.zero (Num.inf false)
theorem Iv.positive_ok : Iv.positive.lo.ok ∧ Iv.positive.hi.ok := Iv.make_ok Num.zero_ok (Num.inf_ok false)
def Iv.root (a : Iv) : Iv := if (Iv.meet [a, Iv.positive]).empty then Iv.meet [a, Iv.positive] else Iv.make (Num.root (Iv.meet [a, Iv.positive]).lo false).1 (Num.root (Iv.meet [a, Iv.positive]).hi true).1
theorem nsqrt_word {m k : Nat} (hm : m < 18446744073709551616) (hk : 2 ^ k ≤ 18446744073709551616) : nsqrt (m * 2 ^ k) < 18446744073709551616 := by
  apply sq_lt
  have h1 := (nsqrt_spec (m * 2 ^ k)).1
  have h2 : m * 2 ^ k ≤ m * 18446744073709551616 := Nat.mul_le_mul_left _ hk
  omega
theorem Num.root_ok {n : Num} (h : n.ok) (up : Bool) : (Num.root n up).1.ok := by
  have ho := Num.fair_ok h
  unfold Num.root
  split
  · exact Num.zero_ok
  · split
    · exact ho
    · show (Num.rootF n.fair up).ok
      have hm : n.fair.m.toNat < 18446744073709551616 := by have := ho.1; have := ho.2; omega
      unfold Num.rootF
      split
      · have := nsqrt_word (k := 64) hm (by decide); exact Num.grow_ok (by omega) (by omega)
      · have := nsqrt_word (k := 63) hm (by decide); exact Num.grow_ok (by omega) (by omega)
theorem Iv.root_ok {a : Iv} (h : a.lo.ok ∧ a.hi.ok) : (Iv.root a).lo.ok ∧ (Iv.root a).hi.ok := by
  have m : (Iv.meet [a, Iv.positive]).lo.ok ∧ (Iv.meet [a, Iv.positive]).hi.ok := Iv.meet_ok (all2 h Iv.positive_ok)
  unfold Iv.root
  split
  · exact m
  · exact Iv.make_ok (Num.root_ok m.1 _) (Num.root_ok m.2 _)
theorem k_quRoot (x : Num) (hx : x.ok) (up : Bool) : ∃ t : Num × Bool, (t = Num.root x up ∧ t.1.ok) ∧ CallsA Tryz.prog 53 [x.av, .bool (.s up)] (.tup [(t.1).av, .bool (.s t.2)]) :=
  withQ (p := fun t : Num × Bool => t.1.ok) (c_quRoot x up hx) (Num.root_ok hx up)

theorem c_positive  : ∃ t, t = Iv.positive ∧ CallsA Tryz.prog 52 [] t.av := by
  refine ⟨_, rfl, ?_⟩
  generalize hr : Iv.positive = r
  refine callsA_of hG hm Tryz.func52 (by kernel_rfl) ?_
  intro E hE lp hl
  cbv
  repeat' (first
    | (apply E_br_t hE; assumption; cbv)
    | (apply E_br_f hE; assumption; cbv)
    | (refine E_br hE (fun h => ?_) (fun h => ?_) <;> cbv)
    | (refine E_nm hE (fun v hv => ?_); cbv)
    | (apply E_callX hE (c_Inf _); (case hf => rfl); (case hc => (cbv <;> trivial)); (case hle => exact u_up); all_goals (first | (intro t ht; cbv) | (assumption)))
    | (apply E_callX hE (c_ivMake ⟨_, _, _, _⟩ ⟨_, _, _, _⟩); (case hf => rfl); (case hc => (cbv <;> trivial)); (case hle => exact u_up); all_goals (first | (intro t ht; cbv) | (assumption)))
    | fail)
  subst_vars
  exact ⟨rfl, rfl, rfl, rfl, rfl, rfl, rfl, rfl, rfl, trivial⟩
theorem k_positive : ∃ t : Iv, (t = Iv.positive ∧ (t.lo.ok ∧ t.hi.ok)) ∧ CallsA Tryz.prog 52 [] t.av :=
  withQ (p := fun t : Iv => t.lo.ok ∧ t.hi.ok) c_positive Iv.positive_ok

set_option maxHeartbeats 2000000 in
theorem c_opRoot (a : Iv) (ha : a.lo.ok ∧ a.hi.ok) : ∃ t, t = Iv.root a ∧ CallsA Tryz.prog 22 [a.av] t.av := by
  refine ⟨_, rfl, ?_⟩
  generalize hr : Iv.root a = r
  refine callsA_of hG hm Tryz.func22 (by kernel_rfl) ?_
  intro E hE lp hl
  cbv
  repeat' (first
    | (apply E_br_t hE; assumption; cbv)
    | (apply E_br_f hE; assumption; cbv)
    | (refine E_br hE (fun h => ?_) (fun h => ?_) <;> cbv)
    | (refine E_nm hE (fun v hv => ?_); cbv)
    | (apply E_pcallX hE (k_positive); (case hm => rfl); (case hle => exact u_up); all_goals (first | (rintro t ⟨ht, ho⟩; cbv) | (assumption)))
    | (apply E_pcallX hE (k_meet2 ⟨_, ⟨_, _, _, _⟩, ⟨_, _, _, _⟩⟩ ?_ ⟨_, ⟨_, _, _, _⟩, ⟨_, _, _, _⟩⟩ ?_); (case hm => rfl); (case hle => exact ⟨slcG2, trivial⟩); all_goals (first | (rintro t ⟨ht, ho⟩; cbv) | (assumption)))
    | (apply E_callX hE (k_quRoot ⟨_, _, _, _⟩ ?_ _); (case hf => rfl); (case hc => (cbv <;> trivial)); (case hle => exact u_up); all_goals (first | (rintro t ⟨ht, ho⟩; cbv) | (first | exact ho.1 | exact ho.2 | exact (show _ ∧ _ by assumption).1 | exact (show _ ∧ _ by assumption).2)))
    | (apply E_callX hE (c_ivMake ⟨_, _, _, _⟩ ⟨_, _, _, _⟩); (case hf => rfl); (case hc => (cbv <;> trivial)); (case hle => exact u_up); all_goals (first | (intro t ht; cbv) | (assumption)))
    | fail)
  · have e : Iv.root a = t := by subst_vars; exact if_pos h
    rw [← hr, e]
    exact ⟨rfl, rfl, rfl, rfl, rfl, rfl, rfl, rfl, rfl, trivial⟩
  · have e : Iv.root a = t := by
      subst_vars
      exact if_neg (by intro k; exact absurd (h.symm.trans k) (by decide))
    rw [← hr, e]
    exact ⟨rfl, rfl, rfl, rfl, rfl, rfl, rfl, rfl, rfl, trivial⟩
theorem k_opRoot (a : Iv) (ha : a.lo.ok ∧ a.hi.ok) : ∃ t : Iv, (t = Iv.root a ∧ (t.lo.ok ∧ t.hi.ok)) ∧ CallsA Tryz.prog 22 [a.av] t.av :=
  withQ (p := fun t : Iv => t.lo.ok ∧ t.hi.ok) (c_opRoot a ha) (Iv.root_ok ha)

end Go.Proofs.YtoghalnnmhpfmaaGreat.Ev

/- The root of a number: plain Lean. -/
namespace Go.Proofs.YtoghalnnmhpfmaaGreat.Ev
open Go

theorem sq_lt_of {x y : Int} (hy : 0 ≤ y) (h : x * x < y * y) : x < y := by
  rcases Int.lt_or_le x y with h1 | h1
  · exact h1
  · exfalso
    have a1 : y * y ≤ y * x := Int.mul_le_mul_of_nonneg_left h1 hy
    have a2 : y * x ≤ x * x := Int.mul_le_mul_of_nonneg_right h1 (by omega)
    omega

/-- the square that a root of 64 bits comes from -/
theorem root_scale {m e k : Int} (hk0 : 0 ≤ k) (hk : k ≤ 64) (he : -1048576 ≤ e) (he' : e ≤ 1048576) (hp : (e - k) % 2 = 0) :
    pw ((e - k) / 2) * pw ((e - k) / 2) * 2 ^ k.toNat = pw 0 * pw e := by
  have e1 : pw ((e - k) / 2) * pw ((e - k) / 2) = pw 0 * pw (e - k) := by
    have := pw_mul (e := (e - k) / 2) (f := (e - k) / 2) (by omega) (by omega) (by omega)
    rw [this]; congr 2; omega
  have e2 : pw e = pw (e - k) * 2 ^ k.toNat := by
    have := pw_add (e := e - k) (f := k) (by omega) hk0
    rw [← this]; congr 1; omega
  rw [e1, e2, Int.mul_assoc]

theorem root_range {m : Nat} {k : Nat} (hm : 9223372036854775808 ≤ m) (hm' : m < 18446744073709551616) (hk : k = 64 ∨ k = 63) : 9223372036854775808 ≤ nsqrt (m * 2 ^ k) ∧ nsqrt (m * 2 ^ k) < 18446744073709551616 := by
  refine ⟨?_, nsqrt_word hm' (by rcases hk with rfl | rfl <;> decide)⟩
  have h := (nsqrt_spec (m * 2 ^ k)).2
  have h2 : 9223372036854775808 * 9223372036854775808 ≤ m * 2 ^ k := by
    rcases hk with rfl | rfl
    · have : 9223372036854775808 * 2 ^ 64 ≤ m * 2 ^ 64 := Nat.mul_le_mul_right _ hm
      have : (2 : Nat) ^ 64 = 18446744073709551616 := by decide
      omega
    · have : 9223372036854775808 * 2 ^ 63 ≤ m * 2 ^ 63 := Nat.mul_le_mul_right _ hm
      have : (2 : Nat) ^ 63 = 9223372036854775808 := by decide
      omega
  have := sq_lt (s := 9223372036854775808) (t := nsqrt (m * 2 ^ k) + 1) (by omega)
  omega

/-- what a root is grown from: n pw(e'), of which the square is not above, that of the next one above -/
theorem rootF_form {a : Num} (ha : a.Fin) (up : Bool) : ∃ n e' cut, Num.rootF a up = Num.grow false n e' cut up ∧ 9223372036854775808 ≤ n ∧ n < 18446744073709551616 ∧ -1048576 ≤ e' ∧ e' ≤ 1048575 ∧
    (if cut then n * pw e' * (n * pw e') < a.W * pw 0 else n * pw e' * (n * pw e') = a.W * pw 0) ∧ a.W * pw 0 < (n + 1) * pw e' * ((n + 1) * pw e') := by
  have hlo := ha.lo
  have hhi := ha.hi
  have el := ha.elo
  have eh := ha.ehi
  have hW := ha.W
  have core : ∀ k : Nat, (k = 64 ∨ k = 63) → (a.e - (k : Int)) % 2 = 0 → ∃ n e' cut, Num.grow false (nsqrt (a.m.toNat * 2 ^ k)) ((a.e - (k : Int)) / 2) (!decide (nsqrt (a.m.toNat * 2 ^ k) * nsqrt (a.m.toNat * 2 ^ k) = a.m.toNat * 2 ^ k)) up = Num.grow false n e' cut up ∧
      9223372036854775808 ≤ n ∧ n < 18446744073709551616 ∧ -1048576 ≤ e' ∧ e' ≤ 1048575 ∧ (if cut then n * pw e' * (n * pw e') < a.W * pw 0 else n * pw e' * (n * pw e') = a.W * pw 0) ∧ a.W * pw 0 < (n + 1) * pw e' * ((n + 1) * pw e') := by
    intro k hk hp
    have rg := root_range (m := a.m.toNat) (k := k) (by omega) (by omega) hk
    have sc := root_scale (m := a.m) (e := a.e) (k := k) (by omega) (by omega) el eh hp
    rw [Int.toNat_natCast] at sc
    have sp := nsqrt_spec (a.m.toNat * 2 ^ k)
    generalize hs : nsqrt (a.m.toNat * 2 ^ k) = s at *
    have P0 := pw_pos ((a.e - (k : Int)) / 2)
    obtain ⟨P, hP⟩ : ∃ P, P = pw ((a.e - (k : Int)) / 2) := ⟨_, rfl⟩
    rw [← hP] at sc P0
    have p0 : 0 < P * P := Int.mul_pos P0 P0
    have eT : a.W * pw 0 = ((a.m.toNat * 2 ^ k : Nat) : Int) * (P * P) := by
      rw [hW]
      have em : ((a.m.toNat : Nat) : Int) = a.m := by omega
      have e3 : ((a.m.toNat * 2 ^ k : Nat) : Int) = a.m * 2 ^ k := by push_cast; rw [em]
      rw [e3, Int.mul_assoc a.m, Int.mul_comm (pw a.e), ← sc]
      grind
    refine ⟨s, (a.e - (k : Int)) / 2, _, rfl, by omega, by omega, by omega, by omega, ?_, ?_⟩ <;> rw [← hP]
    · rw [eT]
      have e1 : (s : Int) * P * (s * P) = ((s * s : Nat) : Int) * (P * P) := by push_cast; grind
      rw [e1]
      by_cases h : s * s = a.m.toNat * 2 ^ k
      · rw [h]; simp
      · have hlt : s * s < a.m.toNat * 2 ^ k := by omega
        simp only [h, decide_false, Bool.not_false, if_true]
        exact Int.mul_lt_mul_of_pos_right (by exact_mod_cast hlt) p0
    · rw [eT]
      have e1 : ((s : Int) + 1) * P * ((s + 1) * P) = (((s + 1) * (s + 1) : Nat) : Int) * (P * P) := by push_cast; grind
      rw [e1]
      exact Int.mul_lt_mul_of_pos_right (by exact_mod_cast sp.2) p0
  unfold Num.rootF
  by_cases hp : a.e % 2 = 0
  · rw [if_pos hp]; exact core 64 (.inl rfl) (by omega)
  · rw [if_neg hp]; exact core 63 (.inr rfl) (by omega)
end Go.Proofs.YtoghalnnmhpfmaaGreat.Ev

/- The root of a number to either side: sound, and the best. Plain Lean. -/
namespace Go.Proofs.YtoghalnnmhpfmaaGreat.Ev
open Go

end Go.Proofs.YtoghalnnmhpfmaaGreat.Ev

/- The reference's roots are the program's: plain Lean. -/
namespace Go.Proofs.YtoghalnnmhpfmaaGreat.Ev
open Go

theorem norm_uniq {n m e f T : Int} (n1 : 9223372036854775808 ≤ n) (n2 : n < 18446744073709551616) (m1 : 9223372036854775808 ≤ m) (m2 : m < 18446744073709551616) (he : -4194303 ≤ e) (hf : -4194303 ≤ f)
    (a1 : n * pw e * (n * pw e) ≤ T) (a2 : T < (n + 1) * pw e * ((n + 1) * pw e)) (b1 : m * pw f * (m * pw f) ≤ T) (b2 : T < (m + 1) * pw f * ((m + 1) * pw f)) : n = m ∧ e = f := by
  have p := pw_pos e
  have q := pw_pos f
  have x1 : n * pw e < (m + 1) * pw f := sq_lt_of (Int.le_of_lt (Int.mul_pos (by omega) q)) (by omega)
  have x2 : m * pw f < (n + 1) * pw e := sq_lt_of (Int.le_of_lt (Int.mul_pos (by omega) p)) (by omega)
  have far : ∀ {n m e f : Int}, n < 18446744073709551616 → 9223372036854775808 ≤ m → -4194303 ≤ e → e < f → 0 < pw e → 0 < pw f → (n + 1) * pw e ≤ m * pw f := by
    intro n m e f h1 h2 h3 h4 p q
    have l := pw_lt (e := e) (f := f) (by omega) h4
    have y1 : (n + 1) * pw e ≤ 18446744073709551616 * pw e := Int.mul_le_mul_of_nonneg_right (by omega) (Int.le_of_lt p)
    have y2 : 9223372036854775808 * pw f ≤ m * pw f := Int.mul_le_mul_of_nonneg_right h2 (Int.le_of_lt q)
    omega
  rcases Int.lt_trichotomy e f with h | h | h
  · have := far n2 m1 he h p q; omega
  · subst h
    have z1 := Int.lt_of_mul_lt_mul_right x1 (Int.le_of_lt p)
    have z2 := Int.lt_of_mul_lt_mul_right x2 (Int.le_of_lt p)
    exact ⟨by omega, rfl⟩
  · have := far m2 n1 hf h q p; omega

theorem sq_lt_sq {x y : Int} (hx : 0 ≤ x) (h : x < y) : x * x < y * y := by
  have a1 : x * x ≤ x * y := Int.mul_le_mul_of_nonneg_left (Int.le_of_lt h) hx
  have a2 : x * y < y * y := Int.mul_lt_mul_of_pos_right h (by omega)
  omega
theorem sq_le_sq {x y : Int} (hx : 0 ≤ x) (h : x ≤ y) : x * x ≤ y * y := Int.mul_le_mul h h hx (by omega)

def rootBy (e : Int) : Nat := if e % 2 = 0 then 140 else 141
def rootM (K : Nat) : Nat := 2 * nsqrt K + (if nsqrt K * nsqrt K = K then 0 else 1)
def Num.rrootF (a : Num) (up : Bool) : Num :=
  dyRound (dyMake false (rootM (a.unit.exact.1.2.1 * 2 ^ rootBy (a.unit.exact.1.2.2 + a.e))) ((a.unit.exact.1.2.2 + a.e - rootBy (a.unit.exact.1.2.2 + a.e)) / 2 - 1)) up

theorem rrootF_eq {a : Num} (h : a.Fin) (up : Bool) : Num.rrootF a up = Num.rootF a up := by
  obtain ⟨n, e', cut, er, n1, n2, e1, e2, c1, c2⟩ := rootF_form h up
  obtain ⟨x1, x2, x3, x4, x5, x6, x7, x8, x9⟩ := unit_fin h
  have elo := h.elo
  have ehi := h.ehi
  unfold Num.rrootF
  generalize a.unit.exact.1 = X at *
  obtain ⟨e, he⟩ : ∃ e, X.2.2 + a.e = e := ⟨_, rfl⟩
  rw [show a.e + X.2.2 = e by omega] at x7
  rw [he]
  obtain ⟨b, hb⟩ : ∃ b, rootBy e = b := ⟨_, rfl⟩
  have bb : 140 ≤ b ∧ b ≤ 141 ∧ (e - (b : Int)) % 2 = 0 := by
    unfold rootBy at hb
    split at hb <;> omega
  rw [hb]
  obtain ⟨F, hF⟩ : ∃ F, (e - (b : Int)) / 2 = F := ⟨_, rfl⟩
  rw [hF]
  obtain ⟨K, hK⟩ : ∃ K, X.2.1 * 2 ^ b = K := ⟨_, rfl⟩
  rw [hK]
  have sp := nsqrt_spec K
  have Klo : 2 ^ 140 ≤ K := by
    rw [← hK]
    have a1 : (2 : Nat) ^ 140 ≤ 2 ^ b := Nat.pow_le_pow_right (by decide) bb.1
    have a2 : 1 * 2 ^ b ≤ X.2.1 * 2 ^ b := Nat.mul_le_mul_right _ x3
    omega
  have Khi : K < 2 ^ 205 := by
    rw [← hK]
    have a1 : (2 : Nat) ^ b ≤ 2 ^ 141 := Nat.pow_le_pow_right (by decide) bb.2.1
    have a2 : X.2.1 * 2 ^ b ≤ X.2.1 * 2 ^ 141 := Nat.mul_le_mul_left _ a1
    have a3 : X.2.1 * 2 ^ 141 < 18446744073709551616 * 2 ^ 141 := Nat.mul_lt_mul_of_pos_right x4 (by decide)
    have : 18446744073709551616 * 2 ^ 141 = (2 : Nat) ^ 205 := by decide
    omega
  unfold rootM
  obtain ⟨S, hS⟩ : ∃ S, nsqrt K = S := ⟨_, rfl⟩
  rw [hS] at sp ⊢
  have Slo : 2 ^ 70 ≤ S := by
    rcases Nat.lt_or_ge S (2 ^ 70) with g | g
    · exfalso
      have : (S + 1) * (S + 1) ≤ 2 ^ 70 * 2 ^ 70 := Nat.mul_le_mul g g
      have : (2 : Nat) ^ 70 * 2 ^ 70 = 2 ^ 140 := by decide
      omega
    · exact g
  have Shi : S < 2 ^ 103 := by
    rcases Nat.lt_or_ge S (2 ^ 103) with g | g
    · exact g
    · exfalso
      have : 2 ^ 103 * 2 ^ 103 ≤ S * S := Nat.mul_le_mul g g
      have : (2 : Nat) ^ 103 * 2 ^ 103 = 2 ^ 206 := by decide
      have : (2 : Nat) ^ 205 < 2 ^ 206 := by decide
      omega
  have bhi : ∀ M : Nat, 0 < M → M ≤ 2 * S + 1 → blen (M : Int) ≤ 104 := by
    intro M _ hM
    refine blen_le 104 ?_
    have : M < 2 ^ 104 := by have : (2 : Nat) ^ 104 = 2 * 2 ^ 103 := by decide
                             omega
    exact_mod_cast this
  -- the square
  have P0 := pw_pos F
  have eP : pw F * pw F * 2 ^ b = pw 0 * pw e := by
    have f1 : pw F * pw F = pw 0 * pw (e - b) := by
      have := pw_mul (e := F) (f := F) (by omega) (by omega) (by omega)
      rw [this]; congr 2; omega
    have f2 : pw e = pw (e - b) * 2 ^ b := by
      have := pw_add (e := e - b) (f := b) (by omega) (by omega)
      rw [Int.toNat_natCast] at this
      rw [← this]; congr 1; omega
    rw [f1, f2, Int.mul_assoc]
  have eT : a.W * pw 0 = (K : Int) * (pw F * pw F) := by
    rw [← x7, ← hK]
    have : (X.2.1 : Int) * pw e * pw 0 = X.2.1 * (pw 0 * pw e) := by grind
    rw [this, ← eP]; push_cast; grind
  have eF : pw F = pw (F - 1) * 2 := by
    have := pw_succ (e := F - 1) (by omega)
    rw [show F - 1 + 1 = F by omega] at this
    exact this
  have sq0 : (S : Int) * pw F * (S * pw F) = ((S * S : Nat) : Int) * (pw F * pw F) := by push_cast; grind
  have sq1 : ((S : Int) + 1) * pw F * ((S + 1) * pw F) = (((S + 1) * (S + 1) : Nat) : Int) * (pw F * pw F) := by push_cast; grind
  have PP : 0 < pw F * pw F := Int.mul_pos P0 P0
  have top : a.W * pw 0 < ((S : Int) + 1) * pw F * ((S + 1) * pw F) := by
    rw [sq1, eT]; exact Int.mul_lt_mul_of_pos_right (by exact_mod_cast sp.2) PP
  have form : ∃ (m f : Int) (cut' : Bool), dyRound (dyMake false (2 * S + if S * S = K then 0 else 1) (F - 1)) up = Num.grow false m f cut' up ∧ 9223372036854775808 ≤ m ∧ m < 18446744073709551616 ∧ -4194303 ≤ f ∧
      (if cut' then m * pw f * (m * pw f) < a.W * pw 0 else m * pw f * (m * pw f) = a.W * pw 0) ∧ a.W * pw 0 < (m + 1) * pw f * ((m + 1) * pw f) := by
    by_cases hx : S * S = K
    · rw [if_pos hx]
      have v := v2_blen (k := 2 * S + 0) (by omega)
      have bl := bhi (2 * S + 0) (by omega) (by omega)
      obtain ⟨d1, d2, d3, d4, d5, d6⟩ := dyMake_val (ng := false) (k := 2 * S + 0) (e := F - 1) (by omega) (by omega) (by omega)
      generalize dyMake false (2 * S + 0) (F - 1) = P at *
      unfold dyRound
      rw [dyNorm_odd d1 (by omega) (by omega), d2]
      have bn := blen_nonneg (P.2.1 : Int)
      obtain ⟨m, f, cut', r1, r2, r3, r4, r5, r6⟩ := rnd_form (ng := false) (e := P.2.2) up d1 (by omega)
      have eV : (P.2.1 : Int) * pw P.2.2 = S * pw F := by rw [d5, eF]; push_cast; grind
      rw [eV] at r5 r6
      have eq : (S : Int) * pw F * (S * pw F) = a.W * pw 0 := by rw [sq0, eT, hx]
      have p1 := pw_pos f
      have m0 : 0 ≤ m * pw f := Int.le_of_lt (Int.mul_pos (by omega) p1)
      have S0 : 0 ≤ (S : Int) * pw F := Int.mul_nonneg (by omega) (Int.le_of_lt P0)
      refine ⟨m, f, cut', by rw [r1]; cases up <;> rfl, r2, r3, by omega, ?_, ?_⟩
      · cases cut' with
        | true => rw [if_pos rfl] at r5 ⊢; rw [← eq]; exact sq_lt_sq m0 r5
        | false => rw [if_neg (by decide)] at r5 ⊢; rw [← eq, r5]
      · rw [← eq]; exact sq_lt_sq S0 r6
    · rw [if_neg hx]
      have od : (2 * S + 1) % 2 = 1 := by omega
      have bl2 := bhi (2 * S + 1) (by omega) (by omega)
      have bl : 64 < blen ((2 * S + 1 : Nat) : Int) := by
        obtain ⟨n, k1, k2, k3⟩ := blen_rng (k := 2 * S + 1) (by omega)
        rcases Nat.lt_or_ge 64 (n + 1) with z | z
        · omega
        · exfalso
          have : 2 ^ (n + 1) ≤ 2 ^ 70 := Nat.pow_le_pow_right (by decide) (by omega)
          omega
      rw [dyMake_odd od (by omega) (by omega)]
      unfold dyRound
      rw [dyNorm_odd (p := (false, 2 * S + 1, F - 1)) od (by show _ ≤ F - 1; omega) (by show F - 1 ≤ _; omega)]
      show ∃ (m f : Int) (cut' : Bool), rnd false (2 * S + 1) (F - 1) up = _ ∧ _
      obtain ⟨s, s1, s2, s3, s4, s5, s6, s7⟩ := rnd_cut (ng := false) (e := F - 1) up od bl
      refine ⟨_, _, true, by rw [s3]; cases up <;> rfl, by omega, by omega, by omega, ?_, ?_⟩
      all_goals
        have e2 := pw_add (e := F - 1) (f := s) (by omega) (by omega)
        rw [Int.toNat_natCast] at e2
        rw [e2]
        obtain ⟨m, hm⟩ : ∃ m, (2 * S + 1) / 2 ^ s = m := ⟨_, rfl⟩
        rw [hm] at s4 s5 s6 s7 ⊢
        have pf := pw_pos (F - 1)
      · rw [if_pos rfl]
        have a1 : (m : Int) * (pw (F - 1) * 2 ^ s) = ((2 ^ s * m : Nat) : Int) * pw (F - 1) := by push_cast; grind
        have a2 : ((2 ^ s * m : Nat) : Int) * pw (F - 1) ≤ S * pw F := by
          have : ((2 ^ s * m : Nat) : Int) * pw (F - 1) ≤ ((2 * S : Nat) : Int) * pw (F - 1) := Int.mul_le_mul_of_nonneg_right (by omega) (Int.le_of_lt pf)
          rw [eF]
          have : ((2 * S : Nat) : Int) * pw (F - 1) = S * (pw (F - 1) * 2) := by push_cast; grind
          omega
        rw [a1]
        refine Int.lt_of_le_of_lt (sq_le_sq (Int.mul_nonneg (by omega) (Int.le_of_lt pf)) a2) ?_
        rw [sq0, eT]
        have : S * S < K := by omega
        exact Int.mul_lt_mul_of_pos_right (by exact_mod_cast this) PP
      · have a1 : ((m : Int) + 1) * (pw (F - 1) * 2 ^ s) = ((2 ^ s * m + 2 ^ s : Nat) : Int) * pw (F - 1) := by push_cast; grind
        have a2 : ((S : Int) + 1) * pw F ≤ ((2 ^ s * m + 2 ^ s : Nat) : Int) * pw (F - 1) := by
          have : ((2 * S + 2 : Nat) : Int) * pw (F - 1) ≤ ((2 ^ s * m + 2 ^ s : Nat) : Int) * pw (F - 1) := Int.mul_le_mul_of_nonneg_right (by omega) (Int.le_of_lt pf)
          rw [eF]
          have : ((2 * S + 2 : Nat) : Int) * pw (F - 1) = (S + 1) * (pw (F - 1) * 2) := by push_cast; grind
          omega
        rw [a1]
        exact Int.lt_of_lt_of_le top (sq_le_sq (Int.mul_nonneg (by omega) (Int.le_of_lt P0)) a2)
  obtain ⟨m, f, cut', r1, r2, r3, r4, r5, r6⟩ := form
  have u := norm_uniq (T := a.W * pw 0) n1 n2 r2 r3 (by omega) r4 (by split at c1 <;> omega) c2 (by split at r5 <;> omega) r6
  rw [r1, er, ← u.1, ← u.2]
  rw [← u.1, ← u.2] at r5
  have : cut' = cut := by cases cut <;> cases cut' <;> simp at c1 r5 ⊢ <;> omega
  rw [this]

def Num.rroot (x : Num) (up : Bool) : Num × Bool :=
  if x.fair.kind = 0 ∨ (x.fair.kind = 2 ∧ x.fair.neg = false) then (x.fair, true) else if x.fair.neg = true then (Num.zero, false) else (Num.rrootF x.fair up, true)
theorem rroot_eq {x : Num} (ox : x.ok) (up : Bool) : Num.rroot x up = Num.root x up := by
  unfold Num.rroot Num.root
  rcases Num.may3 x.fair_may (Num.fair_ok ox) with h | h | h
  · have k : x.fair.kind = 0 := by rw [h]; rfl
    rw [if_pos (.inl k), if_neg (fun q => q.1 k), if_pos (by omega)]
  · have k := h.kind
    rw [if_neg (by omega)]
    cases hn : x.fair.neg
    · rw [if_neg (by decide), if_neg (by simp), if_neg (by omega), rrootF_eq h]
    · rw [if_pos rfl, if_pos ⟨by omega, rfl⟩]
  · have k : x.fair.kind = 2 := by rw [h]; rfl
    cases hn : x.fair.neg
    · rw [if_pos (.inr ⟨k, rfl⟩), if_neg (by simp), if_pos (by omega)]
    · rw [if_neg (by simp; omega), if_pos rfl, if_pos ⟨by omega, rfl⟩]
/-- the root's cases -/
structure RootC (a : Num) (up : Bool) (r : Num × Bool) : Prop where
  k0 : a.kind = 0 → r = (a, true)
  pinf : a.kind = 2 → a.neg = false → r = (a, true)
  ng : ¬ a.kind = 0 → a.neg = true → r = (Num.zero, false)
  fin : ¬ a.kind = 0 → ¬ a.kind = 2 → a.neg = false → a.Fin ∧ r = (Num.rrootF a up, true)
theorem rroot_c {x : Num} (ox : x.ok) {up : Bool} {r : Num × Bool} (h : Num.rroot x up = r) : RootC x.fair up r := by
  constructor
  · intro k; rw [← h]; unfold Num.rroot; rw [if_pos (.inl k)]
  · intro k g; rw [← h]; unfold Num.rroot; rw [if_pos (.inr ⟨k, g⟩)]
  · intro k g; rw [← h]; unfold Num.rroot; rw [if_neg (by rintro (q | q); exact k q; rw [g] at q; cases q.2), if_pos g]
  · intro k k2 g
    refine ⟨Num.fair_fin ox k k2, ?_⟩
    rw [← h]; unfold Num.rroot; rw [if_neg (by rintro (q | q); exact k q; exact k2 q.1), if_neg (by rw [g]; decide)]
end Go.Proofs.YtoghalnnmhpfmaaGreat.Ev

/- Contracts of the reference: the root of a number. Printed by gen.py. -/
namespace Go.Proofs.YtoghalnnmhpfmaaGreat.Ev
open Go Go.Proofs
set_option linter.unusedVariables false
set_option linter.unusedSimpArgs false

attribute [local irreducible] Lb
theorem neq_t {a b : Int} (h : (realE Tryz.prog).cmp .neq a b = true) : a ≠ b := by simpa only [realE, cmp_neq, decide_eq_true_eq] using h
theorem neq_f {a b : Int} (h : (realE Tryz.prog).cmp .neq a b = false) : ¬ a ≠ b := by simpa only [realE, cmp_neq, decide_eq_false_iff_not] using h
theorem rootBy_is {a : Num} {X : Bool × Nat × Int} {e r : Int} (h : e = X.2.2 + a.e ∧ -1048576 ≤ e ∧ e ≤ 1048640) (hr : r = e.tmod 2) : rootBy e = if r ≠ 0 then 141 else 140 := by
  unfold rootBy
  have : r = 0 ↔ e % 2 = 0 := by
    rw [hr]
    rcases Int.le_total 0 e with h0 | h0
    · rw [Int.tmod_eq_emod_of_nonneg h0]
    · have q := Int.neg_tmod (-e) 2
      rw [Int.neg_neg] at q
      rw [q, Int.tmod_eq_emod_of_nonneg (by omega)]; omega
  by_cases k : e % 2 = 0
  · rw [if_pos k, if_neg (by simpa using this.2 k)]
  · rw [if_neg k, if_pos (fun q => k (this.1 q))]
theorem rr_e {a : Num} {p : (Bool × List Int × Int) × Bool} {e : Int} (F : a.Fin) (hn : a.neg = false) (hp : p = (dyL (Num.mk 1 false a.m 0).exact.1, (Num.mk 1 false a.m 0).exact.2)) (he : e = IntKind.i64.wrap (p.1.2.2 + a.e)) :
    Lb p.1.2.1 ∧ p.1.2.1.length ≤ 2 ∧ lv p.1.2.1 = a.unit.exact.1.2.1 ∧ a.Fin ∧ (e = a.unit.exact.1.2.2 + a.e ∧ -1048576 ≤ e ∧ e ≤ 1048640) ∧ 0 < a.unit.exact.1.2.1 := by
  have u : Num.mk 1 false a.m 0 = a.unit := by unfold Num.unit; rw [hn]
  rw [u] at hp
  have la := (exact_len (n := a.unit) ⟨F.ok.1, F.ok.2⟩).1
  obtain ⟨x1, x2, x3, x4, x5, x6, x7, x8, _⟩ := unit_fin F
  have := F.elo; have := F.ehi
  have p2 : p.1.2.2 = a.unit.exact.1.2.2 := by rw [hp]; rfl
  have p1 : p.1.2.1 = lim a.unit.exact.1.2.1 := by rw [hp]; rfl
  have e' : e = a.unit.exact.1.2.2 + a.e := by rw [he, p2, wi64]; omega
  exact ⟨by rw [p1]; exact lim_lb _, by rw [p1]; exact la, by rw [p1]; exact lv_lim _, F, ⟨e', by omega, by omega⟩, x3⟩
theorem rr_shl {l s : List Int} {b : Nat} (h : Lb l) (hl : l.length ≤ 2) (hb : 1 ≤ b ∧ b ≤ 1000) (hs : s = if (b : Int) < 1 then lim (lv l) else if 16777216 < (b : Int) then [] else lim (lv l * 2 ^ (b : Int).toNat)) :
    Lb s ∧ s.length ≤ 3000 ∧ lv s = lv l * 2 ^ b := by
  rw [if_neg (by omega), if_neg (by omega), Int.toNat_natCast] at hs
  rw [hs]
  exact ⟨lim_lb _, ratio_len h (by omega : l.length ≤ 1000) (by omega : b ≤ 33000) (Nat.le_refl _), lv_lim _⟩
theorem sqrt_le (n : Nat) : nsqrt n ≤ n := by
  have h := (nsqrt_spec n).1
  rcases Nat.eq_zero_or_pos (nsqrt n) with k | k
  · omega
  · have := Nat.mul_le_mul_left (nsqrt n) k
    omega
theorem rr_D {s : List Int} {d : List Int × Bool} (h : Lb s) (hl : s.length ≤ 3000) (hd : d = (lim (nsqrt (lv s)), decide (nsqrt (lv s) * nsqrt (lv s) = lv s))) : Lb d.1 ∧ d.1.length ≤ 3000 := by
  rw [hd]
  exact ⟨lim_lb _, Nat.le_trans (lim_len_of h (sqrt_le _)) hl⟩
theorem rr_M {s m : List Int} {d : List Int × Bool} {c : Bool} (h : Lb s) (hl : s.length ≤ 3000) (hd : d = (lim (nsqrt (lv s)), decide (nsqrt (lv s) * nsqrt (lv s) = lv s))) (hc : c = !d.2) (hm' : m = lim (2 * lv d.1 + (if c = true then 1 else 0))) :
    Lb m ∧ m.length ≤ 3001 ∧ lv m = rootM (lv s) := by
  have D := rr_D h hl hd
  have e : lv m = rootM (lv s) := by
    rw [hm', lv_lim, hc, hd]
    unfold rootM
    show 2 * lv (lim (nsqrt (lv s))) + _ = _
    rw [lv_lim]
    by_cases z : nsqrt (lv s) * nsqrt (lv s) = lv s
    · rw [if_pos z, if_neg (by simp [z])]
    · rw [if_neg z, if_pos (by simp [z])]
  refine ⟨by rw [hm']; exact lim_lb _, ?_, e⟩
  have k := D.2
  have l := lv_lt D.1
  rw [hm']
  obtain ⟨n, hn⟩ : ∃ n, n = 3000 := ⟨_, rfl⟩
  rw [← hn] at k
  have p : (4294967296 : Nat) ^ d.1.length ≤ 4294967296 ^ n := Nat.pow_le_pow_right (by decide) k
  have : 2 * lv d.1 + (if c = true then 1 else 0) < 4294967296 ^ (n + 1) := by
    rw [Nat.pow_succ]
    generalize (4294967296 : Nat) ^ n = q at p ⊢
    split <;> omega
  have := lim_length_le this
  omega
theorem rr_P {a : Num} {l s m : List Int} {b : Nat} {e f : Int} {up : Bool} {w : Bool × List Int} (A : lv l = a.unit.exact.1.2.1 ∧ a.Fin ∧ (e = a.unit.exact.1.2.2 + a.e ∧ -1048576 ≤ e ∧ e ≤ 1048640) ∧ 0 < a.unit.exact.1.2.1)
    (Y : rootBy e = b) (S : lv s = lv l * 2 ^ b) (M : Lb m ∧ m.length ≤ 3001 ∧ lv m = rootM (lv s)) (hw : w = (false && decide (lv m ≠ 0), lim (lv m))) (hf : f = IntKind.i64.wrap (IntKind.i64.wrap ((IntKind.i64.wrap (e - b)).tdiv 2) - 1)) :
    Lb w.2 ∧ w.2.length ≤ 3001 ∧ (-9223372036854775808 ≤ f ∧ f < 9223372036854775808) ∧
      (lim (dyMake w.1 (lv w.2) f).2.1).length ≤ 62500 ∧ (-9223372036854775808 ≤ (dyMake w.1 (lv w.2) f).2.2 ∧ (dyMake w.1 (lv w.2) f).2.2 < 9223372036854775808) ∧ dyRound (dyMake w.1 (lv w.2) f) up = Num.rrootF a up := by
  have bb : 140 ≤ b ∧ b ≤ 141 ∧ (e - (b : Int)) % 2 = 0 := by
    unfold rootBy at Y
    split at Y <;> omega
  have hf' : f = (e - b) / 2 - 1 := by
    have w1 : IntKind.i64.wrap (e - b) = e - b := by rw [wi64]; omega
    have d : (e - (b : Int)).tdiv 2 = (e - b) / 2 := by
      have q : e - (b : Int) = 2 * ((e - b) / 2) := by omega
      have q2 := Int.mul_tdiv_cancel_left ((e - (b : Int)) / 2) (show (2 : Int) ≠ 0 by decide)
      rw [← q] at q2; exact q2
    have w2 : IntKind.i64.wrap ((e - (b : Int)) / 2) = (e - b) / 2 := by rw [wi64]; omega
    rw [hf, w1, d, w2, wi64]; omega
  have hl : (lim (lv m)).length ≤ 3001 := Nat.le_trans (lim_len_of M.1 (Nat.le_refl _)) M.2.1
  have w2 : w.2 = lim (lv m) := by rw [hw]
  have w1 : w.1 = false := by rw [hw]; rfl
  have r := dyMake_rng w.1 (lv w.2) f
  refine ⟨by rw [w2]; exact lim_lb _, by rw [w2]; exact hl, by omega, ?_, by omega, ?_⟩
  · rw [w2, lv_lim] at r ⊢
    have := lim_len_of M.1 (k := (dyMake w.1 (lv m) f).2.1) r.2.2
    have := M.2.1
    omega
  · unfold Num.rrootF
    rw [w2, lv_lim, w1, M.2.2, hf', S, A.1, ← A.2.2.1.1, Y]
set_option maxRecDepth 10000 in
theorem c_r7Root (x : Num) (up : Bool) (ox : x.ok) : ∃ t : Num × Bool, t = Num.root x up ∧ CallsA Tryz.prog 54 [x.av, .bool (.s up)] (.tup [(t.1).av, .bool (.s t.2)]) := by
  rw [← rroot_eq ox]
  refine ⟨_, rfl, ?_⟩
  generalize hr : Num.rroot x up = r
  have C := rroot_c ox hr
  clear hr
  refine callsA_of hG hm Tryz.func54 (by kernel_rfl) ?_
  intro E hE lp hl'
  cbv
  (apply E_callX hE (c_r6Fair ⟨_, _, _, _⟩); (case hf => rfl); (case hc => (cbv <;> trivial)); (case hle => exact u_up); all_goals (first | (intro a ha; cbv) | (assumption)))
  replace ha : a = x.fair := ha
  rw [← ha] at C
  refine E_br hE (fun g1 => ?_) (fun g1 => ?_) <;> cbv
  · rw [C.k0 (by subst hE; exact eql_t g1)]; exact ⟨⟨rfl, rfl, rfl, rfl, trivial⟩, rfl, trivial⟩
  have k0 : ¬ a.kind = 0 := by subst hE; exact eql_f g1
  refine E_br hE (fun g2 => ?_) (fun g2 => ?_) <;> cbv
  · have k2 : a.kind = 2 := by subst hE; exact eql_t g2
    refine E_br hE (fun g3 => ?_) (fun g3 => ?_) <;> cbv
    · rw [C.pinf k2 (by subst hE; have k : (!a.neg) = true := g3; simpa using k)]; exact ⟨⟨rfl, rfl, rfl, rfl, trivial⟩, rfl, trivial⟩
    · have nt : a.neg = true := by subst hE; have k : (!a.neg) = false := g3; simpa using k
      refine E_br_t hE nt ?_
      cbv
      rw [C.ng k0 nt]; exact ⟨⟨rfl, rfl, rfl, rfl, trivial⟩, rfl, trivial⟩
  have k2 : ¬ a.kind = 2 := by subst hE; exact eql_f g2
  refine E_br hE (fun g3 => ?_) (fun g3 => ?_) <;> cbv
  · rw [C.ng k0 g3]; exact ⟨⟨rfl, rfl, rfl, rfl, trivial⟩, rfl, trivial⟩
  have F := C.fin k0 k2 g3
  clear C
  (apply E_callX hE (c_rExact ⟨_, false, _, _⟩ ?_); (case hf => rfl); (case hc => (cbv <;> trivial)); (case hle => exact u_up); all_goals (first | (intro p hp; cbv) | (exact ⟨F.1.ok.1, F.1.ok.2⟩)))
  refine E_nm hE (fun e he => ?_)
  have A := rr_e F.1 g3 hp (by subst hE; exact he)
  clear hp he
  cbv
  refine E_br hE (fun g5 => ?_) (fun g5 => ?_) <;> cbv
  · have Y : rootBy e = 141 := by rw [rootBy_is A.2.2.2.2.1 (by subst hE; rfl), if_pos (by subst hE; exact neq_t g5)]
    (apply E_callX hE (c_rShl _ 141 A.1 ?_); (case hf => rfl); (case hc => (cbv <;> trivial)); (case hle => exact u_up); all_goals (first | (intro s hs; cbv) | (exact Nat.lt_of_le_of_lt A.2.1 (by decide))))
    have S := rr_shl (b := 141) A.1 A.2.1 (by decide) hs
    clear hs
    (apply E_callX hE (c_rRoot _ S.1 ?_); (case hf => rfl); (case hc => (cbv <;> trivial)); (case hle => exact u_up); all_goals (first | (intro d hd; cbv) | (exact Nat.le_trans S.2.1 (by decide))))
    have D := rr_D S.1 S.2.1 hd
    (apply E_callX hE (c_r7sticky _ _ D.1 ?_); (case hf => rfl); (case hc => (cbv <;> trivial)); (case hle => exact u_up); all_goals (first | (intro m hm_; cbv) | (exact Nat.le_trans D.2 (by decide))))
    have M := rr_M (c := E.bnot d.2) S.1 S.2.1 hd (by subst hE; rfl) hm_
    clear hm_ hd D
    (apply E_callX hE (c_r2Make false _ M.1 ?_); (case hf => rfl); (case hc => (cbv <;> trivial)); (case hle => exact u_up); all_goals (first | (intro w hw; cbv) | (exact Nat.le_trans M.2.1 (by decide))))
    have P := rr_P (up := up) (f := E.bin .sub .i64 (E.bin .quo .i64 (E.bin .sub .i64 e 141) 2) 1) A.2.2 Y S.2.2 M hw (by subst hE; rfl)
    clear hw
    (apply E_callX hE (k_r3Make _ _ _ P.1 ?_ ?_); (case hf => rfl); (case hc => (cbv <;> trivial)); (case hle => exact u_up); all_goals (first | (intro y hy; cbv) | (first | exact Nat.le_trans P.2.1 (by decide) | exact P.2.2.1)))
    (apply E_callX hE (k_rRound (dyMake w.1 (lv w.2) (E.bin .sub .i64 (E.bin .quo .i64 (E.bin .sub .i64 e 141) 2) 1)) up P.2.2.2.1 P.2.2.2.2.1 ⟨_, _, _⟩ ?_); (case hf => rfl); (case hc => (cbv <;> trivial)); (case hle => exact u_up); all_goals (first | (intro t ht; cbv) | (exact hy)))
    have T : (t, true) = r := by rw [show t = Num.rrootF a up from ht.trans P.2.2.2.2.2]; exact F.2.symm
    rw [← T]; exact ⟨⟨rfl, rfl, rfl, rfl, trivial⟩, rfl, trivial⟩
  · have Y : rootBy e = 140 := by rw [rootBy_is A.2.2.2.2.1 (by subst hE; rfl), if_neg (by subst hE; exact neq_f g5)]
    (apply E_callX hE (c_rShl _ 140 A.1 ?_); (case hf => rfl); (case hc => (cbv <;> trivial)); (case hle => exact u_up); all_goals (first | (intro s hs; cbv) | (exact Nat.lt_of_le_of_lt A.2.1 (by decide))))
    have S := rr_shl (b := 140) A.1 A.2.1 (by decide) hs
    clear hs
    (apply E_callX hE (c_rRoot _ S.1 ?_); (case hf => rfl); (case hc => (cbv <;> trivial)); (case hle => exact u_up); all_goals (first | (intro d hd; cbv) | (exact Nat.le_trans S.2.1 (by decide))))
    have D := rr_D S.1 S.2.1 hd
    (apply E_callX hE (c_r7sticky _ _ D.1 ?_); (case hf => rfl); (case hc => (cbv <;> trivial)); (case hle => exact u_up); all_goals (first | (intro m hm_; cbv) | (exact Nat.le_trans D.2 (by decide))))
    have M := rr_M (c := E.bnot d.2) S.1 S.2.1 hd (by subst hE; rfl) hm_
    clear hm_ hd D
    (apply E_callX hE (c_r2Make false _ M.1 ?_); (case hf => rfl); (case hc => (cbv <;> trivial)); (case hle => exact u_up); all_goals (first | (intro w hw; cbv) | (exact Nat.le_trans M.2.1 (by decide))))
    have P := rr_P (up := up) (f := E.bin .sub .i64 (E.bin .quo .i64 (E.bin .sub .i64 e 140) 2) 1) A.2.2 Y S.2.2 M hw (by subst hE; rfl)
    clear hw
    (apply E_callX hE (k_r3Make _ _ _ P.1 ?_ ?_); (case hf => rfl); (case hc => (cbv <;> trivial)); (case hle => exact u_up); all_goals (first | (intro y hy; cbv) | (first | exact Nat.le_trans P.2.1 (by decide) | exact P.2.2.1)))
    (apply E_callX hE (k_rRound (dyMake w.1 (lv w.2) (E.bin .sub .i64 (E.bin .quo .i64 (E.bin .sub .i64 e 140) 2) 1)) up P.2.2.2.1 P.2.2.2.2.1 ⟨_, _, _⟩ ?_); (case hf => rfl); (case hc => (cbv <;> trivial)); (case hle => exact u_up); all_goals (first | (intro t ht; cbv) | (exact hy)))
    have T : (t, true) = r := by rw [show t = Num.rrootF a up from ht.trans P.2.2.2.2.2]; exact F.2.symm
    rw [← T]; exact ⟨⟨rfl, rfl, rfl, rfl, trivial⟩, rfl, trivial⟩


end Go.Proofs.YtoghalnnmhpfmaaGreat.Ev

/- The reference's sums are the program's: plain Lean. -/
namespace Go.Proofs.YtoghalnnmhpfmaaGreat.Ev
open Go

end Go.Proofs.YtoghalnnmhpfmaaGreat.Ev

/- Contracts of the reference: the quotient of two numbers. Printed by gen.py. -/
namespace Go.Proofs.YtoghalnnmhpfmaaGreat.Ev
open Go Go.Proofs
set_option linter.unusedVariables false
set_option linter.unusedSimpArgs false

attribute [local irreducible] Lb
end Go.Proofs.YtoghalnnmhpfmaaGreat.Ev

/- The reference's order of numbers is the program's: plain Lean. -/
namespace Go.Proofs.YtoghalnnmhpfmaaGreat.Ev
open Go

def Num.rcmp (x y : Num) : Int :=
  if x.fair.sign ≠ y.fair.sign then (if x.fair.sign < y.fair.sign then -1 else 1)
  else if x.fair.sign = 0 ∨ x.fair = y.fair then 0
  else if x.fair.kind = 2 ∨ (y.fair.kind ≠ 2 ∧ (y.fair.e < x.fair.e ∨ (x.fair.e = y.fair.e ∧ y.fair.m < x.fair.m))) then x.fair.sign else IntKind.i64.wrap (0 - x.fair.sign)
theorem more_iff {A B : Num} (mA : A.may = true) (mB : B.may = true) (oA : A.ok) (oB : B.ok) (kA : A.kind ≠ 0) (kB : B.kind ≠ 0) (hn : A.neg = B.neg) (hne : A ≠ B) :
    (A.kind = 2 ∨ (B.kind ≠ 2 ∧ (B.e < A.e ∨ (A.e = B.e ∧ B.m < A.m)))) ↔ B.W < A.W := by
  rw [← Num.farther_iff mA mB oA oB]
  unfold Num.farther
  rcases Num.may3 mA oA with h | h | h
  · rw [h] at kA; exact absurd rfl kA
  · have a1 := h.kind
    rcases Num.may3 mB oB with k | k | k
    · rw [k] at kB; exact absurd rfl kB
    · have b1 := k.kind
      rw [if_neg (by rw [a1, b1]; decide)]
      split
      · rw [decide_eq_true_eq]; omega
      · rw [decide_eq_true_eq]; omega
    · have b1 : B.kind = 2 := by rw [k]; rfl
      rw [if_pos (by omega), decide_eq_true_eq]; omega
  · have a1 : A.kind = 2 := by rw [h]; rfl
    rcases Num.may3 mB oB with k | k | k
    · rw [k] at kB; exact absurd rfl kB
    · have b1 := k.kind
      rw [if_pos (by omega), decide_eq_true_eq]; omega
    · exact absurd (by rw [h, k, hn]) hne
theorem rcmp_eq {x y : Num} (ox : x.ok) (oy : y.ok) : Num.rcmp x y = Num.cmp x y := by
  have S := Num.cmp_spec ox oy
  have mA := x.fair_may
  have mB := y.fair_may
  have oA := Num.fair_ok ox
  have oB := Num.fair_ok oy
  unfold Num.rcmp
  generalize Num.cmp x y = c at *
  generalize x.fair = A at *
  generalize y.fair = B at *
  have sA := Num.sign_of mA oA
  have sB := Num.sign_of mB oB
  have w1 : IntKind.i64.wrap (0 - 1) = -1 := by decide
  have w2 : IntKind.i64.wrap (0 - -1) = 1 := by decide
  by_cases h : A.sign = B.sign
  · rw [if_neg (by omega)]
    by_cases h0 : A.sign = 0 ∨ A = B
    · rw [if_pos h0]
      rcases h0 with h0 | h0
      · omega
      · rw [h0] at S; omega
    · rw [if_neg h0]
      have hne : A ≠ B := fun e => h0 (.inr e)
      have vne : A.val ≠ B.val := fun e => hne (Num.val_inj mA mB oA oB e)
      rcases sA with sA | sA | sA
      · omega
      · rcases sB with sB | sB | sB
        · omega
        · have M := more_iff mA mB oA oB sA.2.2.2.2 sB.2.2.2.2 (by rw [sA.2.2.2.1, sB.2.2.2.1]) hne
          rw [sA.1, w1]
          split
          · rename_i q; have := M.1 q; omega
          · rename_i q
            have : ¬ B.W < A.W := fun k => q (M.2 k)
            omega
        · omega
      · rcases sB with sB | sB | sB
        · omega
        · omega
        · have M := more_iff mA mB oA oB sA.2.2.2.2 sB.2.2.2.2 (by rw [sA.2.2.2.1, sB.2.2.2.1]) hne
          rw [sA.1, w2]
          split
          · rename_i q; have := M.1 q; omega
          · rename_i q
            have : ¬ B.W < A.W := fun k => q (M.2 k)
            omega
  · rw [if_pos h]
    split <;> omega
end Go.Proofs.YtoghalnnmhpfmaaGreat.Ev

/- Contracts of the reference: the order of numbers, the least and the greatest. Printed by gen.py. -/
namespace Go.Proofs.YtoghalnnmhpfmaaGreat.Ev
open Go Go.Proofs
set_option linter.unusedVariables false
set_option linter.unusedSimpArgs false
theorem k_r6Mul (x y : Num) (up : Bool) (ox : x.ok) (oy : y.ok) : ∃ t : Num, t = Num.mul x y up ∧ CallsA Tryz.prog 51 [x.av, y.av, .bool (.s up)] t.av := by
  obtain ⟨t, ht, hC⟩ := c_r6Mul x y up ox oy
  exact ⟨t, ht.trans (rmul_eq ox oy up), hC⟩

theorem c_r0Cmp (x : Num) (y : Num)  : ∃ t : Int, t = Num.rcmp x y ∧ CallsA Tryz.prog 104 [x.av, y.av] (.int .i64 (.s t)) := by
  refine ⟨_, rfl, ?_⟩
  generalize hr : Num.rcmp x y = r
  refine callsA_of hG hm Tryz.func104 (by kernel_rfl) ?_
  intro E hE lp hl
  cbv
  repeat' (first
    | (apply E_br_t hE; assumption; cbv)
    | (apply E_br_f hE; assumption; cbv)
    | (refine E_br hE (fun h => ?_) (fun h => ?_) <;> cbv)
    | (refine E_nm hE (fun v hv => ?_); cbv)
    | (apply E_callX hE (c_rFair ⟨_, _, _, _⟩); (case hf => rfl); (case hc => (cbv <;> trivial)); (case hle => exact u_up); intro t ht; cbv)
    | (apply E_callX hE (c_rSign ⟨_, _, _, _⟩); (case hf => rfl); (case hc => (cbv <;> trivial)); (case hle => exact u_up); intro t ht; cbv)
    | fail)
  all_goals (subst hE; subst hr)
  all_goals (try simp only [realE, cmp_eql, cmp_neq, cmp_lss, cmp_leq, cmp_gtr, cmp_geq, intBinR, decide_eq_true_eq, decide_eq_false_iff_not, SI.val, SB.val, Num.eta, Iv.eta] at *)
  all_goals (simp only [Num.rcmp])
  all_goals (try subst_vars)
  all_goals (try simp_all [Num.eq_iff])
  all_goals (try (intros; omega))
  all_goals (rw [if_neg (fun k => ‹x.fair.kind = y.fair.kind → x.fair.neg = y.fair.neg → ¬ x.fair.m = y.fair.m› k.1 k.2.1 k.2.2), if_neg (by omega)])

theorem c_r5Cmp (x y : Num) (ox : x.ok) (oy : y.ok) : ∃ t : Int, t = Num.cmp x y ∧ CallsA Tryz.prog 104 [x.av, y.av] (.int .i64 (.s t)) := by
  obtain ⟨t, ht, hC⟩ := c_r0Cmp x y
  exact ⟨t, ht.trans (rcmp_eq ox oy), hC⟩

theorem c_rLeast (l : List Num) (n : Int) (hn : n = l.length) (hb : n < 9223372036854775808) (hl_ : ∀ x ∈ l, x.ok) : ∃ t, t = Num.least l ∧ CallsA Tryz.prog 74 [.slc 4 (.s n) (fun i => Num.cells (l.getD i Num.zero))] (Num.av t) := by
  refine ⟨_, rfl, ?_⟩
  generalize hr : Num.least l = r
  obtain ⟨z, hz⟩ : ∃ z, z = Num.zero := ⟨_, rfl⟩
  rw [← hz]
  have ok0 : ∀ i : Nat, (l.getD i z).ok := by
    intro i
    rw [hz]
    rcases Nat.lt_or_ge i l.length with h | h
    · have e : l.getD i Num.zero = l[i] := by simp [List.getD, List.getElem?_eq_getElem h]
      rw [e]; exact hl_ _ (List.getElem_mem h)
    · have e : l.getD i Num.zero = Num.zero := by simp [List.getD, List.getElem?_eq_none h]
      rw [e]; exact Num.zero_ok
  have okl : ∀ i : Int, (Num.leastTo l i).ok := by
    intro i
    unfold Num.leastTo
    exact (Num.least_spec _ (fun x hx => hl_ x (List.mem_of_mem_take hx))).2.1
  clear hl_
  refine callsA_of hG hm Tryz.func74 (by kernel_rfl) ?_
  intro E hE lp hl
  cbv
  (apply E_callX hE (c_rInf _); (case hf => rfl); (case hc => (cbv <;> trivial)); (case hle => exact u_up); intro t ht; cbv)
  refine E_loopW hE hG hm hl (ι := Int × Num) (fun p => ⟨[(4, .int .i64 (.s p.1)), (0, .slc 4 (.s n) (fun i => Num.cells (l.getD i z))), (3, .ptr 1 4 (.l 0) 0), (2, .ptr 0 4 (.l 0) 0)],
      [.rows true 4 [.int .i64 (.l 0), .bool (.l false), .int .u64 (.l 0), .int .i64 (.l 0)] [[.int .i64 (.l 0), .bool (.l false), .int .u64 (.l 0), .int .i64 (.l 0)]],
       .rows true 4 [.int .i64 (.l 0), .bool (.l false), .int .u64 (.l 0), .int .i64 (.l 0)] [Num.cells p.2]]⟩)
    (fun p => (n - p.1).toNat) (fun p => 0 ≤ p.1 ∧ p.1 ≤ n ∧ p.2 = Num.leastTo l p.1) (fun p => rfl) ⟨(0, t), ⟨Int.le_refl 0, (by show (0 : Int) ≤ n; rw [hn]; exact Int.natCast_nonneg _), ht⟩, stLe rfl ?_⟩ ?_
  · repeat' (first | exact t_nil | apply t_cons | exact u2_int | exact u2_ptr | exact u2_slc')
  rintro ⟨i, o⟩ ⟨h1, h2, h3⟩
  dsimp only at h1 h2 h3
  have oo : o.ok := by rw [h3]; exact okl i
  cbv
  repeat' (first
    | (refine E_br hE (fun h => ?_) (fun h => ?_) <;> cbv)
    | (refine E_nm hE (fun v hv => ?_); cbv)
    | (refine E_row hE (cell := Num.cells) (fun t ht => ?_); have ot : t.ok := (by rw [ht]; exact ok0 _); cbv)
    | (apply E_pcallX hE (c_r5Cmp ⟨_, _, _, _⟩ ⟨_, _, _, _⟩ ?_ ?_); (case hm => rfl); (case hle => exact u_up); all_goals (first | (intro t ht; cbv) | assumption))
    | (apply E_callX hE (c_rFair ⟨_, _, _, _⟩); (case hf => rfl); (case hc => (cbv <;> trivial)); (case hle => exact u_up); intro t ht; cbv)
    | fail)
  all_goals (clear okl ok0)
  all_goals (try (first
    | refine ⟨(v, t), ?_, ⟨?_, ?_, ?_⟩, stLeW rfl ⟨rfl, rfl, trivial⟩ ?_⟩
    | refine ⟨(v, o), ?_, ⟨?_, ?_, ?_⟩, stLeW rfl ⟨rfl, rfl, trivial⟩ ?_⟩))
  all_goals (try (refine w_cons ?_ rfl ?_; (repeat' (first | exact w_nil | refine w_cons ?_ rfl ?_ | exact u2_int | exact u2_ptr | exact u2_slc')); done))
  all_goals (subst hE; simp only [realE, cmp_lss, cmp_leq, cmp_gtr, intBinR, decide_eq_true_eq, decide_eq_false_iff_not, SI.val, SB.val, Num.eta] at *)
  all_goals (try subst hv)
  all_goals (try rw [wi64_succ h1 ‹i < n› hb])
  all_goals (try omega)
  all_goals (replace hn : n = (l.length : Int) := hn)
  all_goals (first
    | (rw [Num.leastTo_succ l h1 (by omega), ← h3, ← hz]; clear hn hr h3 oo; (try subst_vars); unfold Num.lesser; first | rw [if_pos (by assumption)] | rw [if_neg (by omega)])
    | (refine Num.fin (t := o) ?_
       have hi : i = n := by omega
       rw [← hr, h3, hi, hn, Num.leastTo_all]))

theorem c_rMost (l : List Num) (n : Int) (hn : n = l.length) (hb : n < 9223372036854775808) (hl_ : ∀ x ∈ l, x.ok) : ∃ t, t = Num.most l ∧ CallsA Tryz.prog 62 [.slc 4 (.s n) (fun i => Num.cells (l.getD i Num.zero))] (Num.av t) := by
  refine ⟨_, rfl, ?_⟩
  generalize hr : Num.most l = r
  obtain ⟨z, hz⟩ : ∃ z, z = Num.zero := ⟨_, rfl⟩
  rw [← hz]
  have ok0 : ∀ i : Nat, (l.getD i z).ok := by
    intro i
    rw [hz]
    rcases Nat.lt_or_ge i l.length with h | h
    · have e : l.getD i Num.zero = l[i] := by simp [List.getD, List.getElem?_eq_getElem h]
      rw [e]; exact hl_ _ (List.getElem_mem h)
    · have e : l.getD i Num.zero = Num.zero := by simp [List.getD, List.getElem?_eq_none h]
      rw [e]; exact Num.zero_ok
  have okl : ∀ i : Int, (Num.mostTo l i).ok := by
    intro i
    unfold Num.mostTo
    exact (Num.most_spec _ (fun x hx => hl_ x (List.mem_of_mem_take hx))).2.1
  clear hl_
  refine callsA_of hG hm Tryz.func62 (by kernel_rfl) ?_
  intro E hE lp hl
  cbv
  (apply E_callX hE (c_rInf _); (case hf => rfl); (case hc => (cbv <;> trivial)); (case hle => exact u_up); intro t ht; cbv)
  refine E_loopW hE hG hm hl (ι := Int × Num) (fun p => ⟨[(4, .int .i64 (.s p.1)), (0, .slc 4 (.s n) (fun i => Num.cells (l.getD i z))), (3, .ptr 1 4 (.l 0) 0), (2, .ptr 0 4 (.l 0) 0)],
      [.rows true 4 [.int .i64 (.l 0), .bool (.l false), .int .u64 (.l 0), .int .i64 (.l 0)] [[.int .i64 (.l 0), .bool (.l false), .int .u64 (.l 0), .int .i64 (.l 0)]],
       .rows true 4 [.int .i64 (.l 0), .bool (.l false), .int .u64 (.l 0), .int .i64 (.l 0)] [Num.cells p.2]]⟩)
    (fun p => (n - p.1).toNat) (fun p => 0 ≤ p.1 ∧ p.1 ≤ n ∧ p.2 = Num.mostTo l p.1) (fun p => rfl) ⟨(0, t), ⟨Int.le_refl 0, (by show (0 : Int) ≤ n; rw [hn]; exact Int.natCast_nonneg _), ht⟩, stLe rfl ?_⟩ ?_
  · repeat' (first | exact t_nil | apply t_cons | exact u2_int | exact u2_ptr | exact u2_slc')
  rintro ⟨i, o⟩ ⟨h1, h2, h3⟩
  dsimp only at h1 h2 h3
  have oo : o.ok := by rw [h3]; exact okl i
  cbv
  repeat' (first
    | (refine E_br hE (fun h => ?_) (fun h => ?_) <;> cbv)
    | (refine E_nm hE (fun v hv => ?_); cbv)
    | (refine E_row hE (cell := Num.cells) (fun t ht => ?_); have ot : t.ok := (by rw [ht]; exact ok0 _); cbv)
    | (apply E_pcallX hE (c_r5Cmp ⟨_, _, _, _⟩ ⟨_, _, _, _⟩ ?_ ?_); (case hm => rfl); (case hle => exact u_up); all_goals (first | (intro t ht; cbv) | assumption))
    | (apply E_callX hE (c_rFair ⟨_, _, _, _⟩); (case hf => rfl); (case hc => (cbv <;> trivial)); (case hle => exact u_up); intro t ht; cbv)
    | fail)
  all_goals (clear okl ok0)
  all_goals (try (first
    | refine ⟨(v, t), ?_, ⟨?_, ?_, ?_⟩, stLeW rfl ⟨rfl, rfl, trivial⟩ ?_⟩
    | refine ⟨(v, o), ?_, ⟨?_, ?_, ?_⟩, stLeW rfl ⟨rfl, rfl, trivial⟩ ?_⟩))
  all_goals (try (refine w_cons ?_ rfl ?_; (repeat' (first | exact w_nil | refine w_cons ?_ rfl ?_ | exact u2_int | exact u2_ptr | exact u2_slc')); done))
  all_goals (subst hE; simp only [realE, cmp_lss, cmp_leq, cmp_gtr, intBinR, decide_eq_true_eq, decide_eq_false_iff_not, SI.val, SB.val, Num.eta] at *)
  all_goals (try subst hv)
  all_goals (try rw [wi64_succ h1 ‹i < n› hb])
  all_goals (try omega)
  all_goals (replace hn : n = (l.length : Int) := hn)
  all_goals (first
    | (rw [Num.mostTo_succ l h1 (by omega), ← h3, ← hz]; clear hn hr h3 oo; (try subst_vars); unfold Num.greater; first | rw [if_pos (by assumption)] | rw [if_neg (by omega)])
    | (refine Num.fin (t := o) ?_
       have hi : i = n := by omega
       rw [← hr, h3, hi, hn, Num.mostTo_all]))

end Go.Proofs.YtoghalnnmhpfmaaGreat.Ev

/- The reference's intervals are the program's: plain Lean. -/
namespace Go.Proofs.YtoghalnnmhpfmaaGreat.Ev
open Go

theorem Iv.fair_emp (x : Iv) : x.fair.empty = x.bad := by
  unfold Iv.fair Iv.bad
  cases h : x.may
  · simp [Iv.none]
  · simp
theorem Iv.fair_good {x : Iv} (h : x.fair.empty = false) : x.fair = x := by
  rw [Iv.fair_emp] at h
  unfold Iv.bad at h
  simp only [Bool.or_eq_false_iff, Bool.not_eq_false'] at h
  unfold Iv.fair; rw [if_pos h.2]
theorem Iv.fair_real {x : Iv} (h : x.fair.empty = false) (o1 : x.lo.ok) (o2 : x.hi.ok) : x.Real := by
  rw [Iv.fair_emp] at h
  exact Iv.real_of_good h o1 o2
theorem Iv.fair_oks {x : Iv} (o1 : x.lo.ok) (o2 : x.hi.ok) : x.fair.lo.ok ∧ x.fair.hi.ok := by
  unfold Iv.fair
  split
  · exact ⟨o1, o2⟩
  · exact ⟨Num.zero_ok, Num.zero_ok⟩
theorem Iv.anyBad_two (a b : Iv) : Iv.anyBad [a, b] = (a.fair.empty || b.fair.empty) := by
  rw [Iv.fair_emp, Iv.fair_emp]; simp [Iv.anyBad]

/-- THE PRODUCT of intervals -/
def Iv.rmul (a b : Iv) : Iv := if (a.fair.empty || b.fair.empty) = true then Iv.none else Iv.corners Num.mul a.fair b.fair
theorem Iv.rmul_eq (a b : Iv) : Iv.rmul a b = Iv.mul a b := by
  unfold Iv.rmul Iv.mul
  rw [Iv.anyBad_two]
  split
  · rfl
  · rename_i h
    simp only [Bool.or_eq_true, not_or, Bool.not_eq_true] at h
    rw [Iv.fair_good h.1, Iv.fair_good h.2]

def Iv.rneg (a : Iv) : Iv := if a.fair.empty = true then a.fair else Iv.make a.fair.hi.opp a.fair.lo.opp
theorem Iv.none_of {a : Iv} (h : a.fair.empty = true) : a.fair = Iv.none := by
  unfold Iv.fair at h ⊢
  split
  · rename_i m
    rw [if_pos m] at h
    exact Iv.empty_may m h
  · rfl
theorem Iv.anyBad_one (a : Iv) : Iv.anyBad [a] = a.fair.empty := by rw [Iv.fair_emp]; simp [Iv.anyBad]
theorem Iv.rneg_eq (a : Iv) : Iv.rneg a = Iv.neg a := by
  unfold Iv.rneg Iv.neg
  rw [Iv.anyBad_one]
  split
  · rename_i h; exact Iv.none_of h
  · rename_i h
    rw [Iv.fair_good (by simpa using h)]
end Go.Proofs.YtoghalnnmhpfmaaGreat.Ev

/- Contracts of the reference: intervals. Printed by gen.py. -/
namespace Go.Proofs.YtoghalnnmhpfmaaGreat.Ev
open Go Go.Proofs
set_option linter.unusedVariables false
set_option linter.unusedSimpArgs false

theorem c_r8None   : ∃ t : Iv, t = Iv.none ∧ CallsA Tryz.prog 69 [] (t.av) := by
  refine ⟨_, rfl, ?_⟩
  generalize hr : Iv.none = r
  refine callsA_of hG hm Tryz.func69 (by kernel_rfl) ?_
  intro E hE lp hl
  cbv
  repeat' (first
    | (refine E_br hE (fun h => ?_) (fun h => ?_) <;> cbv)
    | (refine E_nm hE (fun v hv => ?_); cbv)
    | fail)
  all_goals (subst hE; subst hr)
  all_goals (try simp only [realE, cmp_eql, cmp_neq, cmp_lss, cmp_leq, cmp_gtr, cmp_geq, intBinR, decide_eq_true_eq, decide_eq_false_iff_not, SI.val, SB.val, Num.eta, Iv.eta] at *)
  all_goals (try simp_all [Iv.none, Num.zero])
  all_goals (try omega)
  all_goals (try simp only [Bool.and_assoc])
  all_goals (try rfl)
  all_goals ((repeat' split) <;> (try simp_all) <;> (try omega))

theorem c_r8May (x : Iv) (o1 : x.lo.ok) (o2 : x.hi.ok) : ∃ t : Bool, t = x.may ∧ CallsA Tryz.prog 102 [x.av] (.bool (.s t)) := by
  refine ⟨_, rfl, ?_⟩
  generalize hr : x.may = r
  refine callsA_of hG hm Tryz.func102 (by kernel_rfl) ?_
  intro E hE lp hl
  cbv
  repeat' (first
    | (refine E_br hE (fun h => ?_) (fun h => ?_) <;> cbv)
    | (refine E_nm hE (fun v hv => ?_); cbv)
    | (apply E_pcallX hE (c_r8None ); (case hm => rfl); (case hle => exact u_up); intro t ht; cbv)
    | (apply E_callX hE (c_rMay ⟨_, _, _, _⟩); (case hf => rfl); (case hc => (cbv <;> trivial)); (case hle => exact u_up); intro t ht; cbv)
    | (apply E_pcallX hE (c_r5Cmp ⟨_, _, _, _⟩ ⟨_, _, _, _⟩ ?_ ?_); (case hm => rfl); (case hle => exact u_up); all_goals (first | (intro t ht; cbv) | (subst hE; (try simp only [realE, cmp_eql, cmp_neq, cmp_lss, cmp_leq, cmp_gtr, cmp_geq, intBinR, decide_eq_true_eq, decide_eq_false_iff_not, SI.val, SB.val, Num.eta, Iv.eta] at *); first | assumption | omega)))
    | (apply E_pcallX hE (c_rInf _); (case hm => rfl); (case hle => exact u_up); intro t ht; cbv)
    | fail)
  all_goals (subst hE; subst hr)
  all_goals (try simp only [realE, cmp_eql, cmp_neq, cmp_lss, cmp_leq, cmp_gtr, cmp_geq, intBinR, decide_eq_true_eq, decide_eq_false_iff_not, SI.val, SB.val, Num.eta, Iv.eta] at *)
  all_goals (try simp_all [Iv.may, Iv.none, Num.zero, Iv.eq_iff, Num.eq_iff, Num.inf])
  all_goals (try omega)
  all_goals (try simp only [Bool.and_assoc])
  all_goals (try rfl)
  all_goals ((repeat' split) <;> (try simp_all) <;> (try omega))

theorem c_r8Fair (x : Iv) (o1 : x.lo.ok) (o2 : x.hi.ok) : ∃ t : Iv, t = x.fair ∧ CallsA Tryz.prog 60 [x.av] (t.av) := by
  refine ⟨_, rfl, ?_⟩
  generalize hr : x.fair = r
  refine callsA_of hG hm Tryz.func60 (by kernel_rfl) ?_
  intro E hE lp hl
  cbv
  repeat' (first
    | (refine E_br hE (fun h => ?_) (fun h => ?_) <;> cbv)
    | (refine E_nm hE (fun v hv => ?_); cbv)
    | (apply E_callX hE (c_r8May ⟨_, ⟨_, _, _, _⟩, ⟨_, _, _, _⟩⟩ ?_ ?_); (case hf => rfl); (case hc => (cbv <;> trivial)); (case hle => exact u_up); all_goals (first | (intro t ht; cbv) | (subst hE; (try simp only [realE, cmp_eql, cmp_neq, cmp_lss, cmp_leq, cmp_gtr, cmp_geq, intBinR, decide_eq_true_eq, decide_eq_false_iff_not, SI.val, SB.val, Num.eta, Iv.eta] at *); first | assumption | omega)))
    | (apply E_callX hE (c_r8None ); (case hf => rfl); (case hc => (cbv <;> trivial)); (case hle => exact u_up); intro t ht; cbv)
    | fail)
  all_goals (subst hE; subst hr)
  all_goals (try simp only [realE, cmp_eql, cmp_neq, cmp_lss, cmp_leq, cmp_gtr, cmp_geq, intBinR, decide_eq_true_eq, decide_eq_false_iff_not, SI.val, SB.val, Num.eta, Iv.eta] at *)
  all_goals (try simp_all [Iv.fair])
  all_goals (try omega)
  all_goals (try simp only [Bool.and_assoc])
  all_goals (try rfl)
  all_goals ((repeat' split) <;> (try simp_all) <;> (try omega))

theorem c_r8Make (lo hi : Num) (o1 : lo.ok) (o2 : hi.ok) : ∃ t : Iv, t = Iv.make lo hi ∧ CallsA Tryz.prog 50 [lo.av, hi.av] t.av := by
  refine ⟨_, rfl, ?_⟩
  rw [Iv.make_eq]
  generalize hr : Iv.fair ⟨false, lo.fair, hi.fair⟩ = r
  have f1 := Num.fair_ok o1
  have f2 := Num.fair_ok o2
  refine callsA_of hG hm Tryz.func50 (by kernel_rfl) ?_
  intro E hE lp hl'
  cbv
  (apply E_pcallX hE (c_r6Fair ⟨_, _, _, _⟩); (case hm => rfl); (case hle => exact u_up); all_goals (first | (intro a ha; cbv) | (assumption)))
  (apply E_pcallX hE (c_r6Fair ⟨_, _, _, _⟩); (case hm => rfl); (case hle => exact u_up); all_goals (first | (intro b hb; cbv) | (assumption)))
  (apply E_pcallX hE (c_r8Fair ⟨_, ⟨_, _, _, _⟩, ⟨_, _, _, _⟩⟩ ?_ ?_); (case hm => rfl); (case hle => exact u_up); all_goals (first | (intro t ht; cbv) | (first | (show a.ok; rw [show a = lo.fair from ha]; exact f1) | (show b.ok; rw [show b = hi.fair from hb]; exact f2))))
  have T : t = r := by
    rw [← hr, ← show a = lo.fair from ha, ← show b = hi.fair from hb]; exact ht
  rw [T]; exact ⟨rfl, rfl, rfl, rfl, rfl, rfl, rfl, rfl, rfl, trivial⟩
end Go.Proofs.YtoghalnnmhpfmaaGreat.Ev

/- Contracts of the reference: the sum of two numbers. Printed by gen.py. -/
namespace Go.Proofs.YtoghalnnmhpfmaaGreat.Ev
open Go Go.Proofs
set_option linter.unusedVariables false
set_option linter.unusedSimpArgs false

attribute [local irreducible] Lb
/-- of an exponent that is not too far from nought, if any -/
def Num.near (n : Num) : Prop := n.kind = 1 → -50000 ≤ n.e ∧ n.e ≤ 50000
end Go.Proofs.YtoghalnnmhpfmaaGreat.Ev

/- The reference's sums, roots and what two intervals have are the program's: plain Lean. -/
namespace Go.Proofs.YtoghalnnmhpfmaaGreat.Ev
open Go

/-- what two have -/
def Iv.rmeet (x y : Iv) : Iv := if (x.fair.empty || y.fair.empty) = true then Iv.none else Iv.make (Num.most [x.fair.lo, y.fair.lo]) (Num.least [x.fair.hi, y.fair.hi])
theorem Iv.rmeet_eq (x y : Iv) : Iv.rmeet x y = Iv.meet [x, y] := by
  unfold Iv.rmeet Iv.meet
  cases hx : x.fair.empty <;> cases hy : y.fair.empty <;> simp [Iv.allGood, Iv.los, Iv.his, Iv.goods, hx, hy]
/-- the hull of two -/
def Iv.rhull (x y : Iv) : Iv := if x.fair.empty = true then y.fair else if y.fair.empty = true then x.fair else Iv.make (Num.least [x.fair.lo, y.fair.lo]) (Num.most [x.fair.hi, y.fair.hi])
theorem Num.least_one {a : Num} (m : a.may = true) (o : a.ok) (k : a ≠ Num.inf false) : Num.least [a] = a := by
  have s := Num.least_spec [a] (by simp; exact o)
  have k1 := s.2.2.1 a (by simp)
  rw [Num.fair_of_may m] at k1
  rcases s.2.2.2 with e | ⟨x, hx, e⟩
  · have l := (Num.ne_inf m o).1.1 k
    rw [e, Num.val_inf] at k1
    simp at k1; omega
  · have : x = a := by simpa using hx
    rw [e, this, Num.fair_of_may m]
theorem Num.most_one {a : Num} (m : a.may = true) (o : a.ok) (k : a ≠ Num.inf true) : Num.most [a] = a := by
  have s := Num.most_spec [a] (by simp; exact o)
  have k1 := s.2.2.1 a (by simp)
  rw [Num.fair_of_may m] at k1
  rcases s.2.2.2 with e | ⟨x, hx, e⟩
  · have l := (Num.ne_inf m o).2.1 k
    rw [e, Num.val_inf] at k1
    simp at k1; omega
  · have : x = a := by simpa using hx
    rw [e, this, Num.fair_of_may m]
theorem Iv.make_self {x : Iv} (R : x.Real) : Iv.make x.lo x.hi = x := by
  rw [Iv.make_eq, Num.fair_of_may R.lom, Num.fair_of_may R.him]
  have e : (Iv.mk false x.lo x.hi) = x := (Iv.eq_iff _ _).2 ⟨R.some.symm, rfl, rfl⟩
  rw [e]; exact R.fair
/-- the hull of one -/
theorem Iv.make_one {x : Iv} (R : x.Real) : Iv.make (Num.least [x.lo]) (Num.most [x.hi]) = x := by
  have P := pw_pos 1048640
  have r1 := R.lt
  have r2 := R.gt
  rw [Num.least_one R.lom R.loo ((Num.ne_inf R.lom R.loo).1.2 r1), Num.most_one R.him R.hio ((Num.ne_inf R.him R.hio).2.2 r2)]
  exact Iv.make_self R
theorem Iv.rhull_eq {x y : Iv} (hx : x.lo.ok ∧ x.hi.ok) (hy : y.lo.ok ∧ y.hi.ok) : Iv.rhull x y = Iv.hull [x, y] := by
  unfold Iv.rhull Iv.hull
  cases ex : x.fair.empty <;> cases ey : y.fair.empty
  · simp [Iv.los, Iv.his, Iv.goods, ex, ey]
  · have R := Iv.fair_real ex hx.1 hx.2
    have e := Iv.make_one R
    rw [← Iv.fair_good ex] at e
    simp [Iv.los, Iv.his, Iv.goods, ex, ey]
    exact e.symm
  · have R := Iv.fair_real ey hy.1 hy.2
    have e := Iv.make_one R
    rw [← Iv.fair_good ey] at e
    simp [Iv.los, Iv.his, Iv.goods, ex, ey]
    exact e.symm
  · simp [Iv.los, Iv.his, Iv.goods, ex, ey]
    exact Iv.none_of ey

def Iv.rabs (x : Iv) : Iv := if x.fair.empty = true ∨ 0 ≤ x.fair.lo.sign then x.fair else if x.fair.hi.sign ≤ 0 then Iv.neg x.fair else Iv.make Num.zero (Num.most [x.fair.hi, x.fair.lo.opp])
theorem Iv.rabs_eq (x : Iv) : Iv.rabs x = Iv.abs x := by
  unfold Iv.rabs Iv.abs
  rw [Iv.anyBad_one]
  cases h : x.fair.empty
  · rw [Iv.fair_good h]
    simp
  · simp
    exact Iv.none_of h
end Go.Proofs.YtoghalnnmhpfmaaGreat.Ev

/- Contracts of the reference: products and quotients of intervals. Printed by gen.py. -/
namespace Go.Proofs.YtoghalnnmhpfmaaGreat.Ev
open Go Go.Proofs
set_option linter.unusedVariables false
set_option linter.unusedSimpArgs false

theorem ivEq_of {E : Env} (hE : E = realE Tryz.prog) (b p : Iv) : E.band (E.beq b.empty p.empty) (E.band (E.cmp .eql b.lo.kind p.lo.kind) (E.band (E.beq b.lo.neg p.lo.neg) (E.band (E.cmp .eql b.lo.m p.lo.m) (E.band (E.cmp .eql b.lo.e p.lo.e) (E.band (E.cmp .eql b.hi.kind p.hi.kind) (E.band (E.beq b.hi.neg p.hi.neg) (E.band (E.cmp .eql b.hi.m p.hi.m) (E.cmp .eql b.hi.e p.hi.e)))))))) = decide (b = p) := by
  subst hE
  rw [Bool.eq_iff_iff]
  simp only [realE, cmp_eql, Bool.and_eq_true, decide_eq_true_eq, Iv.eq_iff, Num.eq_iff, beq_iff_eq]
  constructor
  · rintro ⟨h0, h1, h2, h3, h4, h5, h6, h7, h8⟩; exact ⟨h0, ⟨h1, h2, h3, h4⟩, h5, h6, h7, h8⟩
  · rintro ⟨h0, ⟨h1, h2, h3, h4⟩, h5, h6, h7, h8⟩; exact ⟨h0, h1, h2, h3, h4, h5, h6, h7, h8⟩
end Go.Proofs.YtoghalnnmhpfmaaGreat.Ev

/- Contracts of the reference: the sum, the opposite and the difference of two intervals. Printed by gen.py. -/
namespace Go.Proofs.YtoghalnnmhpfmaaGreat.Ev
open Go Go.Proofs
set_option linter.unusedVariables false
set_option linter.unusedSimpArgs false

/-- ends that are not too far from nought, if any -/
def Iv.near (x : Iv) : Prop := x.lo.near ∧ x.hi.near
theorem c_r9Neg (x : Iv) (fx : x.lo.ok ∧ x.hi.ok) : ∃ t : Iv, t = Iv.neg x ∧ CallsA Tryz.prog 42 [x.av] t.av := by
  rw [← Iv.rneg_eq]
  refine ⟨_, rfl, ?_⟩
  generalize hr : Iv.rneg x = r
  have emp : x.fair.empty = true → r = x.fair := by intro h; rw [← hr]; unfold Iv.rneg; rw [if_pos h]
  have mak : ¬ x.fair.empty = true → r = Iv.make x.fair.hi.opp x.fair.lo.opp := by intro h; rw [← hr]; unfold Iv.rneg; rw [if_neg h]
  have fa := Iv.fair_oks fx.1 fx.2
  clear hr
  refine callsA_of hG hm Tryz.func42 (by kernel_rfl) ?_
  intro E hE lp hl'
  cbv
  (apply E_callX hE (c_r8Fair ⟨_, ⟨_, _, _, _⟩, ⟨_, _, _, _⟩⟩ ?_ ?_); (case hf => rfl); (case hc => (cbv <;> trivial)); (case hle => exact u_up); all_goals (first | (intro a ha; cbv) | (first | exact fx.1 | exact fx.2)))
  replace ha : a = x.fair := ha
  rw [← ha] at emp mak fa
  clear ha
  refine E_br hE (fun g1 => ?_) (fun g1 => ?_) <;> cbv
  · rw [emp g1]; exact ⟨rfl, rfl, rfl, rfl, rfl, rfl, rfl, rfl, rfl, trivial⟩
  have M := mak (by rw [g1]; decide)
  (apply E_pcallX hE (c_rNeg ⟨_, _, _, _⟩); (case hm => rfl); (case hle => exact u_up); all_goals (first | (intro p hp; cbv) | (assumption)))
  (apply E_pcallX hE (c_rNeg ⟨_, _, _, _⟩); (case hm => rfl); (case hle => exact u_up); all_goals (first | (intro q hq; cbv) | (assumption)))
  replace hp : p = a.hi.opp := hp
  replace hq : q = a.lo.opp := hq
  have po : p.ok := by rw [hp]; exact Num.opp_ok fa.2
  have qo : q.ok := by rw [hq]; exact Num.opp_ok fa.1
  (apply E_pcallX hE (c_r8Make ⟨_, _, _, _⟩ ⟨_, _, _, _⟩ ?_ ?_); (case hm => rfl); (case hle => exact u_up); all_goals (first | (intro t ht; cbv) | (first | exact po | exact qo)))
  have T : t = r := by rw [M, ← hp, ← hq]; exact ht
  rw [T]; exact ⟨rfl, rfl, rfl, rfl, rfl, rfl, rfl, rfl, rfl, trivial⟩
end Go.Proofs.YtoghalnnmhpfmaaGreat.Ev

/- Contracts of the reference: what two intervals have, their hull; how far from nought, squares, roots. Printed by gen.py. -/
namespace Go.Proofs.YtoghalnnmhpfmaaGreat.Ev
open Go Go.Proofs
set_option linter.unusedVariables false
set_option linter.unusedSimpArgs false

theorem slcN2 {a b : Num} {z : Num} : sle2 (.slc 4 (.l 2) (fun i => getRow [a.cells, b.cells] (Int.ofNat i))) (.slc 4 (.s 2) (fun i => Num.cells ([a, b].getD i z))) := by
  have r : ∀ {x : Num}, sleL sle0 x.cells x.cells := ⟨⟨rfl, rfl⟩, rfl, ⟨rfl, rfl⟩, ⟨rfl, rfl⟩, trivial⟩
  refine ⟨rfl, rfl, fun i hi => ?_⟩
  match i, hi with
  | 0, _ => exact r
  | 1, _ => exact r
  | i + 2, hi => exact absurd hi (by simp [SI.val])
theorem all_ok2 {a b : Num} (h : a.ok) (k : b.ok) : ∀ x ∈ [a, b], x.ok := by
  intro n hn
  simp only [List.mem_cons, List.not_mem_nil, or_false] at hn
  rcases hn with rfl | rfl
  · exact h
  · exact k
theorem c_r8Two (x y : Iv) (fx : x.lo.ok ∧ x.hi.ok) (fy : y.lo.ok ∧ y.hi.ok) : ∃ t : Iv, t = Iv.meet [x, y] ∧ CallsA Tryz.prog 35 [x.av, y.av] t.av := by
  rw [← Iv.rmeet_eq]
  refine ⟨_, rfl, ?_⟩
  generalize hr : Iv.rmeet x y = r
  have emp : (x.fair.empty || y.fair.empty) = true → r = Iv.none := by intro h; rw [← hr]; unfold Iv.rmeet; rw [if_pos h]
  have mak : ¬ (x.fair.empty || y.fair.empty) = true → r = Iv.make (Num.most [x.fair.lo, y.fair.lo]) (Num.least [x.fair.hi, y.fair.hi]) := by intro h; rw [← hr]; unfold Iv.rmeet; rw [if_neg h]
  have fa := Iv.fair_oks fx.1 fx.2
  have fb := Iv.fair_oks fy.1 fy.2
  clear hr
  refine callsA_of hG hm Tryz.func35 (by kernel_rfl) ?_
  intro E hE lp hl'
  cbv
  (apply E_callX hE (c_r8Fair ⟨_, ⟨_, _, _, _⟩, ⟨_, _, _, _⟩⟩ ?_ ?_); (case hf => rfl); (case hc => (cbv <;> trivial)); (case hle => exact u_up); all_goals (first | (intro a ha; cbv) | (first | exact fx.1 | exact fx.2)))
  (apply E_callX hE (c_r8Fair ⟨_, ⟨_, _, _, _⟩, ⟨_, _, _, _⟩⟩ ?_ ?_); (case hf => rfl); (case hc => (cbv <;> trivial)); (case hle => exact u_up); all_goals (first | (intro b hb; cbv) | (first | exact fy.1 | exact fy.2)))
  replace ha : a = x.fair := ha
  replace hb : b = y.fair := hb
  rw [← ha] at emp mak fa
  rw [← hb] at emp mak fb
  clear ha hb
  refine E_br hE (fun g1 => ?_) (fun g1 => ?_) <;> cbv
  · (apply E_callX hE (c_r8None); (case hf => rfl); (case hc => (cbv <;> trivial)); (case hle => exact u_up); all_goals (first | (intro t ht; cbv) | (assumption)))
    have T : t = r := by rw [emp (by rw [g1]; rfl)]; exact ht
    rw [T]; exact ⟨rfl, rfl, rfl, rfl, rfl, rfl, rfl, rfl, rfl, trivial⟩
  refine E_br hE (fun g2 => ?_) (fun g2 => ?_) <;> cbv
  · (apply E_callX hE (c_r8None); (case hf => rfl); (case hc => (cbv <;> trivial)); (case hle => exact u_up); all_goals (first | (intro t ht; cbv) | (assumption)))
    have T : t = r := by rw [emp (by rw [g1, g2]; rfl)]; exact ht
    rw [T]; exact ⟨rfl, rfl, rfl, rfl, rfl, rfl, rfl, rfl, rfl, trivial⟩
  have M := mak (by rw [g1, g2]; decide)
  clear emp mak
  have ol := all_ok2 fa.1 fb.1
  have oh := all_ok2 fa.2 fb.2
  (apply E_pcallX hE (c_rMost [a.lo, b.lo] 2 rfl (by decide) ol); (case hm => rfl); (case hle => exact ⟨slcN2, trivial⟩); all_goals (first | (intro p hp; cbv) | (assumption)))
  (apply E_pcallX hE (c_rLeast [a.hi, b.hi] 2 rfl (by decide) oh); (case hm => rfl); (case hle => exact ⟨slcN2, trivial⟩); all_goals (first | (intro q hq; cbv) | (assumption)))
  have po : p.ok := by rw [hp]; exact (Num.most_spec [a.lo, b.lo] ol).2.1
  have qo : q.ok := by rw [hq]; exact (Num.least_spec [a.hi, b.hi] oh).2.1
  (apply E_pcallX hE (c_r8Make ⟨_, _, _, _⟩ ⟨_, _, _, _⟩ ?_ ?_); (case hm => rfl); (case hle => exact u_up); all_goals (first | (intro t ht; cbv) | (first | exact po | exact qo)))
  have T : t = r := by rw [M, ← hp, ← hq]; exact ht
  rw [T]; exact ⟨rfl, rfl, rfl, rfl, rfl, rfl, rfl, rfl, rfl, trivial⟩

theorem c_r8Both (x y : Iv) (fx : x.lo.ok ∧ x.hi.ok) (fy : y.lo.ok ∧ y.hi.ok) : ∃ t : Iv, t = Iv.hull [x, y] ∧ CallsA Tryz.prog 41 [x.av, y.av] t.av := by
  rw [← Iv.rhull_eq fx fy]
  refine ⟨_, rfl, ?_⟩
  generalize hr : Iv.rhull x y = r
  have e1 : x.fair.empty = true → r = y.fair := by intro h; rw [← hr]; unfold Iv.rhull; rw [if_pos h]
  have e2 : ¬ x.fair.empty = true → y.fair.empty = true → r = x.fair := by intro h g; rw [← hr]; unfold Iv.rhull; rw [if_neg h, if_pos g]
  have mak : ¬ x.fair.empty = true → ¬ y.fair.empty = true → r = Iv.make (Num.least [x.fair.lo, y.fair.lo]) (Num.most [x.fair.hi, y.fair.hi]) := by intro h g; rw [← hr]; unfold Iv.rhull; rw [if_neg h, if_neg g]
  have fa := Iv.fair_oks fx.1 fx.2
  have fb := Iv.fair_oks fy.1 fy.2
  clear hr
  refine callsA_of hG hm Tryz.func41 (by kernel_rfl) ?_
  intro E hE lp hl'
  cbv
  (apply E_callX hE (c_r8Fair ⟨_, ⟨_, _, _, _⟩, ⟨_, _, _, _⟩⟩ ?_ ?_); (case hf => rfl); (case hc => (cbv <;> trivial)); (case hle => exact u_up); all_goals (first | (intro a ha; cbv) | (first | exact fx.1 | exact fx.2)))
  (apply E_callX hE (c_r8Fair ⟨_, ⟨_, _, _, _⟩, ⟨_, _, _, _⟩⟩ ?_ ?_); (case hf => rfl); (case hc => (cbv <;> trivial)); (case hle => exact u_up); all_goals (first | (intro b hb; cbv) | (first | exact fy.1 | exact fy.2)))
  replace ha : a = x.fair := ha
  replace hb : b = y.fair := hb
  rw [← ha] at e1 e2 mak fa
  rw [← hb] at e1 e2 mak fb
  clear ha hb
  refine E_br hE (fun g1 => ?_) (fun g1 => ?_) <;> cbv
  · rw [e1 g1]; exact ⟨rfl, rfl, rfl, rfl, rfl, rfl, rfl, rfl, rfl, trivial⟩
  have n1 : ¬ a.empty = true := by rw [g1]; decide
  refine E_br hE (fun g2 => ?_) (fun g2 => ?_) <;> cbv
  · rw [e2 n1 g2]; exact ⟨rfl, rfl, rfl, rfl, rfl, rfl, rfl, rfl, rfl, trivial⟩
  have M := mak n1 (by rw [g2]; decide)
  clear e1 e2 mak
  have ol := all_ok2 fa.1 fb.1
  have oh := all_ok2 fa.2 fb.2
  (apply E_pcallX hE (c_rLeast [a.lo, b.lo] 2 rfl (by decide) ol); (case hm => rfl); (case hle => exact ⟨slcN2, trivial⟩); all_goals (first | (intro p hp; cbv) | (assumption)))
  (apply E_pcallX hE (c_rMost [a.hi, b.hi] 2 rfl (by decide) oh); (case hm => rfl); (case hle => exact ⟨slcN2, trivial⟩); all_goals (first | (intro q hq; cbv) | (assumption)))
  have po : p.ok := by rw [hp]; exact (Num.least_spec [a.lo, b.lo] ol).2.1
  have qo : q.ok := by rw [hq]; exact (Num.most_spec [a.hi, b.hi] oh).2.1
  (apply E_pcallX hE (c_r8Make ⟨_, _, _, _⟩ ⟨_, _, _, _⟩ ?_ ?_); (case hm => rfl); (case hle => exact u_up); all_goals (first | (intro t ht; cbv) | (first | exact po | exact qo)))
  have T : t = r := by rw [M, ← hp, ← hq]; exact ht
  rw [T]; exact ⟨rfl, rfl, rfl, rfl, rfl, rfl, rfl, rfl, rfl, trivial⟩

theorem c_r9Abs (x : Iv) (fx : x.lo.ok ∧ x.hi.ok) : ∃ t : Iv, t = Iv.abs x ∧ CallsA Tryz.prog 25 [x.av] t.av := by
  rw [← Iv.rabs_eq]
  refine ⟨_, rfl, ?_⟩
  generalize hr : Iv.rabs x = r
  have e1 : (x.fair.empty = true ∨ 0 ≤ x.fair.lo.sign) → r = x.fair := by intro h; rw [← hr]; unfold Iv.rabs; rw [if_pos h]
  have e2 : ¬ (x.fair.empty = true ∨ 0 ≤ x.fair.lo.sign) → x.fair.hi.sign ≤ 0 → r = Iv.neg x.fair := by intro h g; rw [← hr]; unfold Iv.rabs; rw [if_neg h, if_pos g]
  have mak : ¬ (x.fair.empty = true ∨ 0 ≤ x.fair.lo.sign) → ¬ x.fair.hi.sign ≤ 0 → r = Iv.make Num.zero (Num.most [x.fair.hi, x.fair.lo.opp]) := by intro h g; rw [← hr]; unfold Iv.rabs; rw [if_neg h, if_neg g]
  have fa := Iv.fair_oks fx.1 fx.2
  clear hr
  refine callsA_of hG hm Tryz.func25 (by kernel_rfl) ?_
  intro E hE lp hl'
  cbv
  (apply E_callX hE (c_r8Fair ⟨_, ⟨_, _, _, _⟩, ⟨_, _, _, _⟩⟩ ?_ ?_); (case hf => rfl); (case hc => (cbv <;> trivial)); (case hle => exact u_up); all_goals (first | (intro a ha; cbv) | (first | exact fx.1 | exact fx.2)))
  replace ha : a = x.fair := ha
  rw [← ha] at e1 e2 mak fa
  clear ha
  refine E_br hE (fun g1 => ?_) (fun g1 => ?_) <;> cbv
  · rw [e1 (.inl g1)]; exact ⟨rfl, rfl, rfl, rfl, rfl, rfl, rfl, rfl, rfl, trivial⟩
  (apply E_callX hE (c_rSign ⟨_, _, _, _⟩); (case hf => rfl); (case hc => (cbv <;> trivial)); (case hle => exact u_up); all_goals (first | (intro s hs; cbv) | (assumption)))
  replace hs : s = a.lo.sign := hs
  refine E_br hE (fun g2 => ?_) (fun g2 => ?_) <;> cbv
  · rw [e1 (.inr (by rw [← hs]; subst hE; exact geq_t g2))]; exact ⟨rfl, rfl, rfl, rfl, rfl, rfl, rfl, rfl, rfl, trivial⟩
  have n1 : ¬ (a.empty = true ∨ 0 ≤ a.lo.sign) := by
    rintro (k | k)
    · rw [g1] at k; cases k
    · rw [← hs] at k; exact (by subst hE; exact geq_f g2 : ¬ 0 ≤ s) k
  (apply E_callX hE (c_rSign ⟨_, _, _, _⟩); (case hf => rfl); (case hc => (cbv <;> trivial)); (case hle => exact u_up); all_goals (first | (intro u hu; cbv) | (assumption)))
  replace hu : u = a.hi.sign := hu
  refine E_br hE (fun g3 => ?_) (fun g3 => ?_) <;> cbv
  · have M := e2 n1 (by rw [← hu]; subst hE; exact leq_t g3)
    (apply E_callX hE (c_r9Neg ⟨_, ⟨_, _, _, _⟩, ⟨_, _, _, _⟩⟩ ?_); (case hf => rfl); (case hc => (cbv <;> trivial)); (case hle => exact u_up); all_goals (first | (intro t ht; cbv) | (exact fa)))
    have T : t = r := by rw [M]; exact ht
    rw [T]; exact ⟨rfl, rfl, rfl, rfl, rfl, rfl, rfl, rfl, rfl, trivial⟩
  have M := mak n1 (by rw [← hu]; subst hE; exact leq_f g3)
  clear e1 e2 mak
  (apply E_pcallX hE (c_rNeg ⟨_, _, _, _⟩); (case hm => rfl); (case hle => exact u_up); all_goals (first | (intro o ho; cbv) | (assumption)))
  replace ho : o = a.lo.opp := ho
  have oo : o.ok := by rw [ho]; exact Num.opp_ok fa.1
  rw [← ho] at M
  have oh := all_ok2 fa.2 oo
  (apply E_pcallX hE (c_rMost [a.hi, o] 2 rfl (by decide) oh); (case hm => rfl); (case hle => exact ⟨slcN2, trivial⟩); all_goals (first | (intro q hq; cbv) | (assumption)))
  have qo : q.ok := by rw [hq]; exact (Num.most_spec [a.hi, o] oh).2.1
  (apply E_pcallX hE (c_r8Make ⟨0, false, 0, 0⟩ ⟨_, _, _, _⟩ ?_ ?_); (case hm => rfl); (case hle => exact u_up); all_goals (first | (intro t ht; cbv) | (first | exact qo | exact Num.zero_ok)))
  have T : t = r := by rw [M, ← hq]; exact ht
  rw [T]; exact ⟨rfl, rfl, rfl, rfl, rfl, rfl, rfl, rfl, rfl, trivial⟩
theorem c_r9Sqr (x : Iv) (fx : x.lo.ok ∧ x.hi.ok) : ∃ t : Iv, t = Iv.sqr x ∧ CallsA Tryz.prog 21 [x.av] t.av := by
  refine ⟨_, rfl, ?_⟩
  generalize hr : Iv.sqr x = r
  have e1 : (Iv.abs x).empty = true → r = Iv.abs x := by intro h; rw [← hr]; unfold Iv.sqr; rw [if_pos h]
  have mak : ¬ (Iv.abs x).empty = true → r = Iv.make (Num.mul (Iv.abs x).lo (Iv.abs x).lo false) (Num.mul (Iv.abs x).hi (Iv.abs x).hi true) := by intro h; rw [← hr]; unfold Iv.sqr; rw [if_neg h]
  have fa := Iv.abs_ok fx.1 fx.2
  clear hr
  refine callsA_of hG hm Tryz.func21 (by kernel_rfl) ?_
  intro E hE lp hl'
  cbv
  (apply E_callX hE (c_r9Abs ⟨_, ⟨_, _, _, _⟩, ⟨_, _, _, _⟩⟩ ?_); (case hf => rfl); (case hc => (cbv <;> trivial)); (case hle => exact u_up); all_goals (first | (intro a ha; cbv) | (exact fx)))
  replace ha : a = Iv.abs x := ha
  rw [← ha] at e1 mak fa
  clear ha
  refine E_br hE (fun g1 => ?_) (fun g1 => ?_) <;> cbv
  · rw [e1 g1]; exact ⟨rfl, rfl, rfl, rfl, rfl, rfl, rfl, rfl, rfl, trivial⟩
  have M := mak (by rw [g1]; decide)
  clear e1 mak
  (apply E_pcallX hE (k_r6Mul ⟨_, _, _, _⟩ ⟨_, _, _, _⟩ false ?_ ?_); (case hm => rfl); (case hle => exact u_up); all_goals (first | (intro p hp; cbv) | (exact fa.1)))
  (apply E_pcallX hE (k_r6Mul ⟨_, _, _, _⟩ ⟨_, _, _, _⟩ true ?_ ?_); (case hm => rfl); (case hle => exact u_up); all_goals (first | (intro q hq; cbv) | (exact fa.2)))
  replace hp : p = Num.mul a.lo a.lo false := hp
  replace hq : q = Num.mul a.hi a.hi true := hq
  have po : p.ok := by rw [hp]; exact Num.mul_ok fa.1 fa.1 _
  have qo : q.ok := by rw [hq]; exact Num.mul_ok fa.2 fa.2 _
  (apply E_pcallX hE (c_r8Make ⟨_, _, _, _⟩ ⟨_, _, _, _⟩ ?_ ?_); (case hm => rfl); (case hle => exact u_up); all_goals (first | (intro t ht; cbv) | (first | exact po | exact qo)))
  have T : t = r := by rw [M, ← hp, ← hq]; exact ht
  rw [T]; exact ⟨rfl, rfl, rfl, rfl, rfl, rfl, rfl, rfl, rfl, trivial⟩
theorem Iv.positive_is : Iv.positive = ⟨false, Num.zero, Num.inf false⟩ := by decide
theorem c_r9Root (x : Iv) (fx : x.lo.ok ∧ x.hi.ok) : ∃ t : Iv, t = Iv.root x ∧ CallsA Tryz.prog 23 [x.av] t.av := by
  refine ⟨_, rfl, ?_⟩
  generalize hr : Iv.root x = r
  unfold Iv.root at hr
  rw [Iv.positive_is] at hr
  have e1 : (Iv.meet [x, ⟨false, Num.zero, Num.inf false⟩]).empty = true → r = Iv.meet [x, ⟨false, Num.zero, Num.inf false⟩] := by intro h; rw [← hr, if_pos h]
  have mak : ¬ (Iv.meet [x, ⟨false, Num.zero, Num.inf false⟩]).empty = true → r = Iv.make (Num.root (Iv.meet [x, ⟨false, Num.zero, Num.inf false⟩]).lo false).1 (Num.root (Iv.meet [x, ⟨false, Num.zero, Num.inf false⟩]).hi true).1 := by intro h; rw [← hr, if_neg h]
  have fa : (Iv.meet [x, ⟨false, Num.zero, Num.inf false⟩]).lo.ok ∧ (Iv.meet [x, ⟨false, Num.zero, Num.inf false⟩]).hi.ok := Iv.meet_ok (all2 fx ⟨Num.zero_ok, Num.inf_ok _⟩)
  clear hr
  refine callsA_of hG hm Tryz.func23 (by kernel_rfl) ?_
  intro E hE lp hl'
  cbv
  (apply E_pcallX hE (c_rInf _); (case hm => rfl); (case hle => exact u_up); all_goals (first | (intro f hf; cbv) | (assumption)))
  replace hf : f = Num.inf false := hf
  rw [← hf] at e1 mak fa
  have fo : f.ok := by rw [hf]; exact Num.inf_ok _
  (apply E_pcallX hE (c_r8Two ⟨_, ⟨_, _, _, _⟩, ⟨_, _, _, _⟩⟩ ⟨false, ⟨0, false, 0, 0⟩, ⟨_, _, _, _⟩⟩ ?_ ?_); (case hm => rfl); (case hle => exact u_up); all_goals (first | (intro a ha; cbv) | (first | exact fx | exact ⟨Num.zero_ok, fo⟩)))
  replace ha : a = Iv.meet [x, ⟨false, Num.zero, f⟩] := ha
  rw [← ha] at e1 mak fa
  clear ha hf
  refine E_br hE (fun g1 => ?_) (fun g1 => ?_) <;> cbv
  · rw [e1 g1]; exact ⟨rfl, rfl, rfl, rfl, rfl, rfl, rfl, rfl, rfl, trivial⟩
  have M := mak (by rw [g1]; decide)
  clear e1 mak
  (apply E_callX hE (c_r7Root ⟨_, _, _, _⟩ false ?_); (case hf => rfl); (case hc => (cbv <;> trivial)); (case hle => exact u_up); all_goals (first | (intro p hp; cbv) | (exact fa.1)))
  (apply E_callX hE (c_r7Root ⟨_, _, _, _⟩ true ?_); (case hf => rfl); (case hc => (cbv <;> trivial)); (case hle => exact u_up); all_goals (first | (intro q hq; cbv) | (exact fa.2)))
  replace hp : p = Num.root a.lo false := hp
  replace hq : q = Num.root a.hi true := hq
  have po : p.1.ok := by rw [hp]; exact Num.root_ok fa.1 _
  have qo : q.1.ok := by rw [hq]; exact Num.root_ok fa.2 _
  (apply E_callX hE (c_r8Make ⟨_, _, _, _⟩ ⟨_, _, _, _⟩ ?_ ?_); (case hf => rfl); (case hc => (cbv <;> trivial)); (case hle => exact u_up); all_goals (first | (intro t ht; cbv) | (first | exact po | exact qo)))
  have T : t = r := by rw [M, ← hp, ← hq]; exact ht
  rw [T]; exact ⟨rfl, rfl, rfl, rfl, rfl, rfl, rfl, rfl, rfl, trivial⟩

end Go.Proofs.YtoghalnnmhpfmaaGreat.Ev

/- Contracts: the law of roots. Printed by gen.py. -/
namespace Go.Proofs.YtoghalnnmhpfmaaGreat.Ev
open Go Go.Proofs
set_option linter.unusedVariables false
set_option linter.unusedSimpArgs false

end Go.Proofs.YtoghalnnmhpfmaaGreat.Ev

/- How far from nought an interval is lies within the root of its square: plain Lean. -/
namespace Go.Proofs.YtoghalnnmhpfmaaGreat.Ev
open Go

end Go.Proofs.YtoghalnnmhpfmaaGreat.Ev

/- Sums grow with their operands: plain Lean. -/
namespace Go.Proofs.YtoghalnnmhpfmaaGreat.Ev
open Go

theorem Num.add_may {a b : Num} (oa : a.ok) (ob : b.ok) (up : Bool) : (Num.add a b up).may = true := by
  by_cases ka : a.fair.kind = 2
  · rw [Num.add_inf up ka]; split
    · exact Num.inf_may _
    · exact a.fair_may
  · by_cases kb : b.fair.kind = 2
    · rw [Num.add_inf2 oa ob up kb]; split
      · exact Num.inf_may _
      · exact b.fair_may
    · exact (add_best oa ob ka kb up).may
/-- a number is finite, or one of the two others -/
theorem Num.three {a : Num} (oa : a.ok) : (a.fair.kind ≠ 2 ∧ -pw 1048640 < a.fair.val ∧ a.fair.val < pw 1048640) ∨ (a.fair = Num.inf false) ∨ (a.fair = Num.inf true) := by
  by_cases k : a.fair.kind = 2
  · have e := Num.fair_inf oa k
    cases h : a.fair.neg with
    | false => rw [h] at e; exact .inr (.inl e)
    | true => rw [h] at e; exact .inr (.inr e)
  · exact .inl ⟨k, (Num.fin_val a.fair_may (Num.fair_ok oa)).1 k⟩
end Go.Proofs.YtoghalnnmhpfmaaGreat.Ev

/- Sums and products grow with their operands: what they rest on. -/

/- Products grow with their operands: plain Lean. -/
namespace Go.Proofs.YtoghalnnmhpfmaaGreat.Ev
open Go

end Go.Proofs.YtoghalnnmhpfmaaGreat.Ev

/- Quotients grow with what is divided, and shrink with the divisor: plain Lean. -/
namespace Go.Proofs.YtoghalnnmhpfmaaGreat.Ev
open Go

theorem Num.div_inf_r {a b : Num} (up : Bool) (h : b.fair.kind = 2) : Num.div a b up = Num.zero := by
  unfold Num.div
  rw [if_neg (by rw [h]; decide), if_pos (.inr h)]
theorem Num.div_inf_l {a b : Num} (up : Bool) (ha : a.fair.kind = 2) (h0 : b.fair.kind ≠ 0) (h2 : b.fair.kind ≠ 2) : Num.div a b up = Num.inf (a.fair.neg != b.fair.neg) := by
  unfold Num.div
  rw [if_neg h0, if_neg (by rintro (k | k); (rw [ha] at k; exact absurd k (by decide)); exact h2 k), if_pos ha]
theorem Num.kind1 {a : Num} (oa : a.ok) (h0 : a.fair.kind ≠ 0) (h2 : a.fair.kind ≠ 2) : a.fair.kind = 1 := (Num.fair_fin oa h0 h2).kind

theorem Num.div_may {a b : Num} (oa : a.ok) (ob : b.ok) (up : Bool) : (Num.div a b up).may = true := by
  by_cases h0 : b.fair.kind = 0
  · unfold Num.div; rw [if_pos h0]; exact Num.inf_may _
  · by_cases h2 : b.fair.kind = 2
    · rw [Num.div_inf_r up h2]; exact Num.zero_may
    · by_cases ha : a.fair.kind = 2
      · rw [Num.div_inf_l up ha h0 h2]; exact Num.inf_may _
      · exact (div_best oa ob ha (Num.kind1 ob h0 h2) up).may

end Go.Proofs.YtoghalnnmhpfmaaGreat.Ev

/- Sums and products of parts are parts: plain Lean. -/
namespace Go.Proofs.YtoghalnnmhpfmaaGreat.Ev
open Go

/-- a is a part of c -/
structure Iv.Part (a c : Iv) : Prop where
  ra : a.Real
  rc : c.Real
  lo : c.lo.val ≤ a.lo.val
  hi : a.hi.val ≤ c.hi.val
theorem Iv.fair_empty (a : Iv) : a.fair.empty = a.bad := by
  unfold Iv.fair Iv.bad
  cases h : a.may <;> simp [Iv.none]
theorem Iv.within_part {a c : Iv} (ha : a.lo.ok ∧ a.hi.ok) (hc : c.lo.ok ∧ c.hi.ok) (h : a.within c = true) : a.bad = true ∨ Iv.Part a c := by
  cases hb : a.bad with
  | true => exact .inl rfl
  | false =>
    right
    have ra := Iv.real_of_good hb ha.1 ha.2
    unfold Iv.within at h
    rw [Iv.fair_empty, Iv.fair_empty, hb] at h
    simp only [Bool.false_or, Bool.and_eq_true, decide_eq_true_eq, Bool.not_eq_true'] at h
    obtain ⟨⟨h1, h2⟩, h3⟩ := h
    have rc := Iv.real_of_good h1 hc.1 hc.2
    rw [ra.fair, rc.fair] at h2 h3
    have e1 := (Num.cmp_le hc.1 ha.1).1 h2
    have e2 := (Num.cmp_le ha.2 hc.2).1 h3
    rw [Num.may_fair rc.lom, Num.may_fair ra.lom] at e1
    rw [Num.may_fair ra.him, Num.may_fair rc.him] at e2
    exact ⟨ra, rc, e1, e2⟩
theorem Iv.Part.lo' {a c : Iv} (P : Iv.Part a c) : c.lo.fair.val ≤ a.lo.fair.val := by rw [Num.may_fair P.rc.lom, Num.may_fair P.ra.lom]; exact P.lo
theorem Iv.Part.hi' {a c : Iv} (P : Iv.Part a c) : a.hi.fair.val ≤ c.hi.fair.val := by rw [Num.may_fair P.rc.him, Num.may_fair P.ra.him]; exact P.hi
theorem Iv.Part.within {a c : Iv} (P : Iv.Part a c) : a.within c = true := Iv.real_within P.ra P.rc P.lo P.hi

theorem Iv.Part.neg {a c : Iv} (P : Iv.Part a c) : Iv.Part (Iv.neg a) (Iv.neg c) := by
  rw [Iv.neg_real P.ra, Iv.neg_real P.rc]
  refine ⟨P.ra.neg, P.rc.neg, ?_, ?_⟩
  · show c.hi.opp.val ≤ a.hi.opp.val
    rw [Num.opp_val, Num.opp_val]; have := P.hi'; omega
  · show a.lo.opp.val ≤ c.lo.opp.val
    rw [Num.opp_val, Num.opp_val]; have := P.lo'; omega
/-- the ends of a part lie between the ends of the whole -/
theorem Iv.Part.ends {a c : Iv} (P : Iv.Part a c) {x : Num} (h : x = a.lo ∨ x = a.hi) : x.ok ∧ x.may = true ∧ c.lo.fair.val ≤ x.fair.val ∧ x.fair.val ≤ c.hi.fair.val := by
  have h1 := P.lo
  have h2 := P.hi
  have h3 := P.ra.le
  rw [Num.may_fair P.rc.lom, Num.may_fair P.rc.him]
  rcases h with rfl | rfl
  · refine ⟨P.ra.loo, P.ra.lom, ?_, ?_⟩ <;> rw [Num.may_fair P.ra.lom] <;> omega
  · refine ⟨P.ra.hio, P.ra.him, ?_, ?_⟩ <;> rw [Num.may_fair P.ra.him] <;> omega

end Go.Proofs.YtoghalnnmhpfmaaGreat.Ev
