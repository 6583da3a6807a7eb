/- Texts of the proof, joined: N2 N3 W1 N4 C7 C8 C22 N5 N6 Bn10 Ev28 N7 N8 Bn11 N9 Bn12 N10 C9 N11 W2 N12 W5 W6 R32 Br16 W7 Ev30 -/
import Derived.Test.YtaiillbjhdoikaaGreatB4
set_option linter.unusedVariables false
set_option linter.unusedSimpArgs false

/- Contracts: the sum of limbs. Printed by gen.py. -/
namespace Go.Proofs.YtaiillbjhdoikaaGreat.Ev
open Go Go.Proofs
set_option linter.unusedVariables false
set_option linter.unusedSimpArgs false


attribute [local irreducible] Lb
theorem sub_all {l : List Int} {n : Int} (h : n = l.length) : (l.drop (0 : Int).toNat).take n.toNat = l := by subst h; simp

def addI (E : Env) (x y : List Int) : Int × Int × List Int → St := fun p => ⟨[(0, .sli .u32 x), (1, .sli .u32 y), (5, .ms 0 1 (.l 0) (.s (E.bin .add .i64 (E.len x) 1))), (6, .int .u32 (.s p.2.1)), (21, .int .i64 (.s (E.len x))), (22, .int .i64 (.s p.1))], [.ints true .u32 p.2.2]⟩

theorem c_natAdd (a b : List Int) (ha : Lb a) (hb : Lb b) (hla : a.length < 268435456) (hlb : b.length < 268435456) : ∃ t : List Int, t = lim (lv a + lv b) ∧ CallsA Tryz.prog 44 [.sli .u32 a, .sli .u32 b] (.sli .u32 t) := by
  refine ⟨_, rfl, ?_⟩
  generalize hr : lim (lv a + lv b) = r
  refine callsA_of hG hm Tryz.func44 (by kernel_rfl) ?_
  intro E hE lp hl
  cbv
  refine E_br hE (fun h => ?_) (fun h => ?_)
  · have hsum : lv b + lv a = lv a + lv b := Nat.add_comm _ _
    have hxy : a.length ≤ b.length := by subst hE; simp only [NatCast.natCast, Int.ofNat_eq_natCast, realE, cmp_eql, cmp_neq, cmp_lss, cmp_leq, cmp_gtr, cmp_geq, intBinR, decide_eq_true_eq, decide_eq_false_iff_not, SI.val, SB.val, Num.eta, Iv.eta] at *; omega

    have h32 : IntKind.i64.wrap ((b.length : Int) + 1) = b.length + 1 := wi64_id (by omega) (by omega)
    cbv
    repeat' (first
    | (refine E_br hE (fun h => ?_) (fun h => ?_) <;> cbv)
    | (refine E_nm hE (fun v hv => ?_); cbv)
    | (refine E_nilS hE (fun b hb => ?_); cbv)
    | fail)
    all_goals (try (exfalso; subst hE; simp only [NatCast.natCast, Int.ofNat_eq_natCast, realE, cmp_eql, cmp_neq, cmp_lss, cmp_leq, cmp_gtr, cmp_geq, intBinR, decide_eq_true_eq, decide_eq_false_iff_not, SI.val, SB.val, Num.eta, Iv.eta] at *; rw [h32] at *; omega))
    obtain ⟨m, em⟩ : ∃ m : Int × Int × List Int → Nat, ∀ p, m p = (b.length - p.1).toNat := ⟨_, fun _ => rfl⟩
    obtain ⟨ok, eok⟩ : ∃ ok : Int × Int × List Int → Prop, ∀ p, ok p ↔ 0 ≤ p.1 ∧ p.1 ≤ b.length ∧ AddInv b a p.2.2 p.1.toNat p.2.1 := ⟨_, fun _ => Iff.rfl⟩
    refine E_loop hE hG hm hl (addI E b a) m ok ⟨(0, 0, E.rep (E.bin .add .i64 (E.len b) 1)), (eok _).2 ?_, stLe rfl ?_⟩ ?_
    · refine ⟨by show (0 : Int) ≤ 0; omega, by show (0 : Int) ≤ b.length; omega, ?_⟩
      have := AddInv.start b a
      subst hE; simp only [NatCast.natCast, Int.ofNat_eq_natCast, realE, cmp_eql, cmp_neq, cmp_lss, cmp_leq, cmp_gtr, cmp_geq, intBinR, decide_eq_true_eq, decide_eq_false_iff_not, SI.val, SB.val, Num.eta, Iv.eta] at *; rw [h32]
      exact this
    · (repeat' (first | exact t_nil | apply t_cons | exact u2_sli | exact u2_int | exact u2_bool | exact u2_ms | exact u2_ptr | exact (rfl : sle2 .s0 .s0)))
    rintro ⟨i, c, out⟩ hok
    obtain ⟨h1, h2, inv⟩ := (eok _).1 hok
    dsimp only at h1 h2 inv
    have hgx := hb.getD i.toNat
    have hgy := ha.getD i.toNat
    have hc0 := inv.c0
    have hc1 := inv.c1
    have hol := inv.len
    have next : ∀ (j k c' z : Int) (v : Int × Int), i < b.length → k = i → j = IntKind.i64.wrap (i + 1) → (z = a.getD k.toNat 0 ∨ (¬ k < a.length ∧ z = 0)) →
        v = ((b.getD k.toNat 0 + z + c) % 4294967296, (b.getD k.toNat 0 + z + c) / 4294967296) → c' = v.2 →
        m (j, c', out.set k.toNat v.1) < m (i, c, out) ∧ ok (j, c', out.set k.toNat v.1) := by
      intro j k c' z v h hk hj hz hv hc
      subst hk
      have hz : z = a.getD k.toNat 0 := by
        rcases hz with hz | ⟨hz, h0⟩
        · exact hz
        · rw [h0, getD_past (by omega)]
      have hj : j = k + 1 := by rw [hj, wi64_id (by omega) (by omega)]
      refine ⟨by rw [em, em]; show ((b.length : Int) - j).toNat < ((b.length : Int) - k).toNat; omega, (eok _).2 ⟨by show 0 ≤ j; omega, by show j ≤ (b.length : Int); omega, ?_⟩⟩
      have := inv.step hb ha (by omega)
      rw [← hz] at this
      rw [hc, hv, hj]
      show AddInv b a (out.set k.toNat ((b.getD k.toNat 0 + z + c) % 4294967296)) (k + 1).toNat ((b.getD k.toNat 0 + z + c) / 4294967296)
      rw [show (k + 1).toNat = k.toNat + 1 by omega]
      exact this
    have fin : ¬ i < b.length → Lb (out.set (b.length : Int).toNat c) ∧ lim (lv (out.set (b.length : Int).toNat c)) = r := by
      intro h
      rw [show i.toNat = b.length by omega] at inv
      obtain ⟨k1, k2⟩ := inv.stop hxy
      rw [Int.toNat_natCast]
      exact ⟨k1, by rw [k2, hsum, hr]⟩
    clear inv hok hr
    cbv
    repeat' (first
    | (refine E_br hE (fun h => ?_) (fun h => ?_) <;> cbv)
    | (refine E_nm hE (fun v hv => ?_); cbv)
    | (refine E_nilS hE (fun b hb => ?_); cbv)
    | (apply E_callX hE (c_Add32 _ _ _ ?_ ?_ ?_ ?_ ?_ ?_); (case hf => rfl); (case hc => (cbv <;> trivial)); (case hle => (repeat' (first | exact u_nil | apply u_cons | apply u2_agg | exact u2_int | exact u1_int | exact u2_bool | exact u1_bool | exact u2_sli | exact u1_sli | exact u2_s0 | exact u1_s0))); all_goals (first | (intro t ht; cbv) | (subst hE; (try simp only [NatCast.natCast, Int.ofNat_eq_natCast, realE, cmp_eql, cmp_neq, cmp_lss, cmp_leq, cmp_gtr, cmp_geq, intBinR, decide_eq_true_eq, decide_eq_false_iff_not, SI.val, SB.val, Num.eta, Iv.eta] at *); subst_vars; (first | assumption | omega))))
    | (apply E_callX hE (c_cut _ ?_ ?_); (case hf => rfl); (case hc => (cbv <;> trivial)); (case hle => (repeat' (first | exact u_nil | apply u_cons | apply u2_agg | exact u2_int | exact u1_int | exact u2_bool | exact u1_bool | exact u2_sli | exact u1_sli | exact u2_s0 | exact u1_s0))); all_goals (first | (intro t ht; cbv) | ((subst hE; simp only [NatCast.natCast, Int.ofNat_eq_natCast, realE, cmp_eql, cmp_neq, cmp_lss, cmp_leq, cmp_gtr, cmp_geq, intBinR, decide_eq_true_eq, decide_eq_false_iff_not, SI.val, SB.val, Num.eta, Iv.eta] at *; rw [h32] at *; rw [sub_all (by rw [List.length_set]; omega)]; first | exact (fin ‹_›).1 | (rw [List.length_set]; omega)))))
    | fail)
    all_goals (try refine ⟨(E.bin .add .i64 i 1, v, E.set out _ t.1), ?_, ?_, stLe rfl ?_⟩)
    all_goals (try ((repeat' (first | exact t_nil | apply t_cons | exact u2_sli | exact u2_int | exact u2_bool | exact u2_ms | exact u2_ptr | exact (rfl : sle2 .s0 .s0))); done))
    all_goals (subst hE; simp only [NatCast.natCast, Int.ofNat_eq_natCast, realE, cmp_eql, cmp_neq, cmp_lss, cmp_leq, cmp_gtr, cmp_geq, intBinR, decide_eq_true_eq, decide_eq_false_iff_not, SI.val, SB.val, Num.eta, Iv.eta] at *)
    all_goals (first | exact (next _ _ _ _ _ ‹_› ‹_› rfl (by first | exact .inl ‹_› | exact .inr ⟨‹_›, rfl⟩) ‹t = _› ‹_›).1 | exact (next _ _ _ _ _ ‹_› ‹_› rfl (by first | exact .inl ‹_› | exact .inr ⟨‹_›, rfl⟩) ‹t = _› ‹_›).2 | (exfalso; clear next fin; rw [h32] at *; omega) | skip)
    rw [‹t = _›, h32, sub_all (by rw [List.length_set]; omega), (fin ‹_›).2]
  · have hsum : lv a + lv b = lv a + lv b := rfl
    have hxy : b.length ≤ a.length := by subst hE; simp only [NatCast.natCast, Int.ofNat_eq_natCast, realE, cmp_eql, cmp_neq, cmp_lss, cmp_leq, cmp_gtr, cmp_geq, intBinR, decide_eq_true_eq, decide_eq_false_iff_not, SI.val, SB.val, Num.eta, Iv.eta] at *; omega

    have h32 : IntKind.i64.wrap ((a.length : Int) + 1) = a.length + 1 := wi64_id (by omega) (by omega)
    cbv
    repeat' (first
    | (refine E_br hE (fun h => ?_) (fun h => ?_) <;> cbv)
    | (refine E_nm hE (fun v hv => ?_); cbv)
    | (refine E_nilS hE (fun b hb => ?_); cbv)
    | fail)
    all_goals (try (exfalso; subst hE; simp only [NatCast.natCast, Int.ofNat_eq_natCast, realE, cmp_eql, cmp_neq, cmp_lss, cmp_leq, cmp_gtr, cmp_geq, intBinR, decide_eq_true_eq, decide_eq_false_iff_not, SI.val, SB.val, Num.eta, Iv.eta] at *; rw [h32] at *; omega))
    obtain ⟨m, em⟩ : ∃ m : Int × Int × List Int → Nat, ∀ p, m p = (a.length - p.1).toNat := ⟨_, fun _ => rfl⟩
    obtain ⟨ok, eok⟩ : ∃ ok : Int × Int × List Int → Prop, ∀ p, ok p ↔ 0 ≤ p.1 ∧ p.1 ≤ a.length ∧ AddInv a b p.2.2 p.1.toNat p.2.1 := ⟨_, fun _ => Iff.rfl⟩
    refine E_loop hE hG hm hl (addI E a b) m ok ⟨(0, 0, E.rep (E.bin .add .i64 (E.len a) 1)), (eok _).2 ?_, stLe rfl ?_⟩ ?_
    · refine ⟨by show (0 : Int) ≤ 0; omega, by show (0 : Int) ≤ a.length; omega, ?_⟩
      have := AddInv.start a b
      subst hE; simp only [NatCast.natCast, Int.ofNat_eq_natCast, realE, cmp_eql, cmp_neq, cmp_lss, cmp_leq, cmp_gtr, cmp_geq, intBinR, decide_eq_true_eq, decide_eq_false_iff_not, SI.val, SB.val, Num.eta, Iv.eta] at *; rw [h32]
      exact this
    · (repeat' (first | exact t_nil | apply t_cons | exact u2_sli | exact u2_int | exact u2_bool | exact u2_ms | exact u2_ptr | exact (rfl : sle2 .s0 .s0)))
    rintro ⟨i, c, out⟩ hok
    obtain ⟨h1, h2, inv⟩ := (eok _).1 hok
    dsimp only at h1 h2 inv
    have hgx := ha.getD i.toNat
    have hgy := hb.getD i.toNat
    have hc0 := inv.c0
    have hc1 := inv.c1
    have hol := inv.len
    have next : ∀ (j k c' z : Int) (v : Int × Int), i < a.length → k = i → j = IntKind.i64.wrap (i + 1) → (z = b.getD k.toNat 0 ∨ (¬ k < b.length ∧ z = 0)) →
        v = ((a.getD k.toNat 0 + z + c) % 4294967296, (a.getD k.toNat 0 + z + c) / 4294967296) → c' = v.2 →
        m (j, c', out.set k.toNat v.1) < m (i, c, out) ∧ ok (j, c', out.set k.toNat v.1) := by
      intro j k c' z v h hk hj hz hv hc
      subst hk
      have hz : z = b.getD k.toNat 0 := by
        rcases hz with hz | ⟨hz, h0⟩
        · exact hz
        · rw [h0, getD_past (by omega)]
      have hj : j = k + 1 := by rw [hj, wi64_id (by omega) (by omega)]
      refine ⟨by rw [em, em]; show ((a.length : Int) - j).toNat < ((a.length : Int) - k).toNat; omega, (eok _).2 ⟨by show 0 ≤ j; omega, by show j ≤ (a.length : Int); omega, ?_⟩⟩
      have := inv.step ha hb (by omega)
      rw [← hz] at this
      rw [hc, hv, hj]
      show AddInv a b (out.set k.toNat ((a.getD k.toNat 0 + z + c) % 4294967296)) (k + 1).toNat ((a.getD k.toNat 0 + z + c) / 4294967296)
      rw [show (k + 1).toNat = k.toNat + 1 by omega]
      exact this
    have fin : ¬ i < a.length → Lb (out.set (a.length : Int).toNat c) ∧ lim (lv (out.set (a.length : Int).toNat c)) = r := by
      intro h
      rw [show i.toNat = a.length by omega] at inv
      obtain ⟨k1, k2⟩ := inv.stop hxy
      rw [Int.toNat_natCast]
      exact ⟨k1, by rw [k2, hsum, hr]⟩
    clear inv hok hr
    cbv
    repeat' (first
    | (refine E_br hE (fun h => ?_) (fun h => ?_) <;> cbv)
    | (refine E_nm hE (fun v hv => ?_); cbv)
    | (refine E_nilS hE (fun b hb => ?_); cbv)
    | (apply E_callX hE (c_Add32 _ _ _ ?_ ?_ ?_ ?_ ?_ ?_); (case hf => rfl); (case hc => (cbv <;> trivial)); (case hle => (repeat' (first | exact u_nil | apply u_cons | apply u2_agg | exact u2_int | exact u1_int | exact u2_bool | exact u1_bool | exact u2_sli | exact u1_sli | exact u2_s0 | exact u1_s0))); all_goals (first | (intro t ht; cbv) | (subst hE; (try simp only [NatCast.natCast, Int.ofNat_eq_natCast, realE, cmp_eql, cmp_neq, cmp_lss, cmp_leq, cmp_gtr, cmp_geq, intBinR, decide_eq_true_eq, decide_eq_false_iff_not, SI.val, SB.val, Num.eta, Iv.eta] at *); subst_vars; (first | assumption | omega))))
    | (apply E_callX hE (c_cut _ ?_ ?_); (case hf => rfl); (case hc => (cbv <;> trivial)); (case hle => (repeat' (first | exact u_nil | apply u_cons | apply u2_agg | exact u2_int | exact u1_int | exact u2_bool | exact u1_bool | exact u2_sli | exact u1_sli | exact u2_s0 | exact u1_s0))); all_goals (first | (intro t ht; cbv) | ((subst hE; simp only [NatCast.natCast, Int.ofNat_eq_natCast, realE, cmp_eql, cmp_neq, cmp_lss, cmp_leq, cmp_gtr, cmp_geq, intBinR, decide_eq_true_eq, decide_eq_false_iff_not, SI.val, SB.val, Num.eta, Iv.eta] at *; rw [h32] at *; rw [sub_all (by rw [List.length_set]; omega)]; first | exact (fin ‹_›).1 | (rw [List.length_set]; omega)))))
    | fail)
    all_goals (try refine ⟨(E.bin .add .i64 i 1, v, E.set out _ t.1), ?_, ?_, stLe rfl ?_⟩)
    all_goals (try ((repeat' (first | exact t_nil | apply t_cons | exact u2_sli | exact u2_int | exact u2_bool | exact u2_ms | exact u2_ptr | exact (rfl : sle2 .s0 .s0))); done))
    all_goals (subst hE; simp only [NatCast.natCast, Int.ofNat_eq_natCast, realE, cmp_eql, cmp_neq, cmp_lss, cmp_leq, cmp_gtr, cmp_geq, intBinR, decide_eq_true_eq, decide_eq_false_iff_not, SI.val, SB.val, Num.eta, Iv.eta] at *)
    all_goals (first | exact (next _ _ _ _ _ ‹_› ‹_› rfl (by first | exact .inl ‹_› | exact .inr ⟨‹_›, rfl⟩) ‹t = _› ‹_›).1 | exact (next _ _ _ _ _ ‹_› ‹_› rfl (by first | exact .inl ‹_› | exact .inr ⟨‹_›, rfl⟩) ‹t = _› ‹_›).2 | (exfalso; clear next fin; rw [h32] at *; omega) | skip)
    rw [‹t = _›, h32, sub_all (by rw [List.length_set]; omega), (fin ‹_›).2]

end Go.Proofs.YtaiillbjhdoikaaGreat.Ev

/- Contracts: the product of limbs. Printed by gen.py. -/
namespace Go.Proofs.YtaiillbjhdoikaaGreat.Ev
open Go Go.Proofs
set_option linter.unusedVariables false
set_option linter.unusedSimpArgs false


attribute [local irreducible] Lb
def mulO (E : Env) (a b : List Int) : Int × List Int → St := fun p => ⟨[(0, .sli .u32 a), (1, .sli .u32 b), (5, .ms 0 1 (.l 0) (.s (E.bin .add .i64 (E.len a) (E.len b)))), (18, .sli .u32 a), (19, .int .i64 (.s (E.len a))), (20, .int .i64 (.s p.1))], [.ints true .u32 p.2]⟩
def mulI (E : Env) (a b : List Int) (i i' x : Int) : Int × Int × List Int → St := fun p => ⟨[(0, .sli .u32 a), (1, .sli .u32 b), (5, .ms 0 1 (.l 0) (.s (E.bin .add .i64 (E.len a) (E.len b)))), (18, .sli .u32 a), (19, .int .i64 (.s (E.len a))), (20, .int .i64 (.s i)),
   (6, .int .i64 (.s i')), (7, .int .u32 (.s x)), (8, .int .u64 (.s p.2.1)), (25, .sli .u32 b), (26, .int .i64 (.s (E.len b))), (27, .int .i64 (.s p.1))], [.ints true .u32 p.2.2]⟩
set_option maxHeartbeats 1000000 in
theorem c_natMul (a b : List Int) (ha : Lb a) (hb : Lb b) (hla : a.length < 134217728) (hlb : b.length < 134217728) : ∃ t : List Int, t = lim (lv a * lv b) ∧ CallsA Tryz.prog 70 [.sli .u32 a, .sli .u32 b] (.sli .u32 t) := by
  refine ⟨_, rfl, ?_⟩
  generalize hr : lim (lv a * lv b) = r
  have h32 : IntKind.i64.wrap ((a.length : Int) + b.length) = a.length + b.length := wi64_id (by omega) (by omega)
  obtain ⟨m, em⟩ : ∃ m : Int × List Int → Nat, ∀ p, m p = (a.length - p.1).toNat := ⟨_, fun _ => rfl⟩
  obtain ⟨ok, eok⟩ : ∃ ok : Int × List Int → Prop, ∀ p, ok p ↔ 0 ≤ p.1 ∧ p.1 ≤ a.length ∧ MulInv a b p.2 p.1.toNat 0 0 := ⟨_, fun _ => Iff.rfl⟩
  obtain ⟨m2, em2⟩ : ∃ m : Int × Int × List Int → Nat, ∀ p, m p = (b.length - p.1).toNat := ⟨_, fun _ => rfl⟩
  obtain ⟨ok2, eok2⟩ : ∃ ok : Int → Int × Int × List Int → Prop, ∀ i p, ok i p ↔ 0 ≤ p.1 ∧ p.1 ≤ b.length ∧ MulInv a b p.2.2 i.toNat p.1.toNat p.2.1 := ⟨_, fun _ _ => Iff.rfl⟩
  refine callsA_of hG hm Tryz.func70 (by kernel_rfl) ?_
  intro E hE lp hl
  cbv
  repeat' (first
    | (refine E_br hE (fun h => ?_) (fun h => ?_) <;> cbv)
    | (refine E_nm hE (fun v hv => ?_); cbv)
    | (refine E_nilS hE (fun b hb => ?_); cbv)
    | fail)
  all_goals (try (exfalso; subst hE; simp only [NatCast.natCast, Int.ofNat_eq_natCast, realE, cmp_eql, cmp_neq, cmp_lss, cmp_leq, cmp_gtr, cmp_geq, intBinR, decide_eq_true_eq, decide_eq_false_iff_not, SI.val, SB.val, Num.eta, Iv.eta] at *; rw [h32] at *; omega))
  refine E_loop hE hG hm hl (mulO E a b) m ok ⟨(0, E.rep (E.bin .add .i64 (E.len a) (E.len b))), (eok _).2 ?_, stLe rfl ?_⟩ ?_
  · refine ⟨by show (0 : Int) ≤ 0; omega, by show (0 : Int) ≤ a.length; omega, ?_⟩
    have := MulInv.start a b
    subst hE; simp only [NatCast.natCast, Int.ofNat_eq_natCast, realE, cmp_eql, cmp_neq, cmp_lss, cmp_leq, cmp_gtr, cmp_geq, intBinR, decide_eq_true_eq, decide_eq_false_iff_not, SI.val, SB.val, Num.eta, Iv.eta] at *; rw [h32]
    exact this
  · (repeat' (first | exact t_nil | apply t_cons | exact u2_sli | exact u2_int | exact u2_bool | exact u2_ms | exact u2_ptr | exact (rfl : sle2 .s0 .s0)))
  rintro ⟨i, out⟩ hok
  obtain ⟨h1, h2, inv⟩ := (eok _).1 hok
  dsimp only at h1 h2 inv
  simp only [NatCast.natCast, Int.ofNat_eq_natCast] at h2 em eok em2 eok2
  have hol := inv.len
  have fin : ¬ i < a.length → Lb out ∧ lim (lv out) = r := by
    intro h
    rw [show i.toNat = a.length by omega] at inv
    exact ⟨inv.lb, by rw [inv.stop, hr]⟩
  clear hr hok
  cbv
  repeat' (first
    | (refine E_br hE (fun h => ?_) (fun h => ?_) <;> cbv)
    | (refine E_nm hE (fun v hv => ?_); cbv)
    | (refine E_nilS hE (fun b hb => ?_); cbv)
    | (apply E_callX hE (c_cut _ ?_ ?_); (case hf => rfl); (case hc => (cbv <;> trivial)); (case hle => exact u_up); all_goals (first | (intro t ht; cbv) | ((subst hE; simp only [NatCast.natCast, Int.ofNat_eq_natCast, realE, cmp_eql, cmp_neq, cmp_lss, cmp_leq, cmp_gtr, cmp_geq, intBinR, decide_eq_true_eq, decide_eq_false_iff_not, SI.val, SB.val, Num.eta, Iv.eta] at *; rw [h32] at *; rw [sub_all (by omega)]; first | exact (fin ‹_›).1 | omega))))
    | fail)
  case hK => subst hE; simp only [NatCast.natCast, Int.ofNat_eq_natCast, realE, cmp_eql, cmp_neq, cmp_lss, cmp_leq, cmp_gtr, cmp_geq, intBinR, decide_eq_true_eq, decide_eq_false_iff_not, SI.val, SB.val, Num.eta, Iv.eta] at *; rw [‹t = _›, h32, sub_all (by omega), (fin ‹_›).2]
  all_goals (try (exfalso; subst hE; simp only [NatCast.natCast, Int.ofNat_eq_natCast, realE, cmp_eql, cmp_neq, cmp_lss, cmp_leq, cmp_gtr, cmp_geq, intBinR, decide_eq_true_eq, decide_eq_false_iff_not, SI.val, SB.val, Num.eta, Iv.eta] at *; clear fin; rw [h32] at *; omega))
  rename_i i' ei
  have ex := hv
  clear hv
  have hilt : i < a.length := by subst hE; exact lss_t ‹_›
  refine E_loop hE hG hm hl (mulI E a b i i' v) m2 (ok2 i) ⟨(0, 0, out), (eok2 _ _).2 ⟨by show (0 : Int) ≤ 0; omega, by show (0 : Int) ≤ b.length; omega, inv⟩, stLe rfl ?_⟩ ?_
  · (repeat' (first | exact t_nil | apply t_cons | exact u2_sli | exact u2_int | exact u2_bool | exact u2_ms | exact u2_ptr | exact (rfl : sle2 .s0 .s0)))
  rintro ⟨k, c, out⟩ hok
  have h3 : 0 ≤ k := ((eok2 _ _).1 hok).1
  have h4 : k ≤ b.length := ((eok2 _ _).1 hok).2.1
  have inv2 : MulInv a b out i.toNat k.toNat c := ((eok2 _ _).1 hok).2.2
  have hol2 := inv2.len
  clear inv hol fin
  cbv
  repeat' (first
    | (refine E_br hE (fun h => ?_) (fun h => ?_) <;> cbv)
    | (refine E_nm hE (fun v hv => ?_); cbv)
    | (refine E_nilS hE (fun b hb => ?_); cbv)
    | fail)
  all_goals (try refine ⟨(E.bin .add .i64 k 1, v, E.set out (E.bin .add .i64 i' _) (E.conv .u32 _)), ?_, ?_, stLe rfl ?_⟩)
  all_goals (try refine ⟨(E.bin .add .i64 i 1, E.set out (E.bin .add .i64 i' (E.len b)) (E.conv .u32 c)), ?_, ?_, stLe rfl ?_⟩)
  all_goals (try ((repeat' (first | exact t_nil | apply t_cons | exact u2_sli | exact u2_int | exact u2_bool | exact u2_ms | exact u2_ptr | exact (rfl : sle2 .s0 .s0))); done))
  all_goals (subst hE)
  all_goals (try (first | (rw [em2, em2]; exact (mul_next ha hb hla hlb h1 hilt h3 (lss_t ‹_›) inv2 ei ‹_› ex ‹_› ‹_› ‹_› rfl).2.2.1) | (rw [eok2]; have q := mul_next ha hb hla hlb h1 hilt h3 (lss_t ‹_›) inv2 ei ‹_› ex ‹_› ‹_› ‹_› rfl; exact ⟨q.1, q.2.1, q.2.2.2⟩) | (rw [em, em]; exact (mul_exit hla hlb h1 hilt h4 (lss_f ‹_›) inv2 ei rfl).2.2.1) | (rw [eok]; have q := mul_exit hla hlb h1 hilt h4 (lss_f ‹_›) inv2 ei rfl; exact ⟨q.1, q.2.1, q.2.2.2⟩)))
  all_goals (clear inv2 hok eok eok2 em em2; simp only [NatCast.natCast, Int.ofNat_eq_natCast, realE, cmp_eql, cmp_neq, cmp_lss, cmp_leq, cmp_gtr, cmp_geq, intBinR, decide_eq_true_eq, decide_eq_false_iff_not, SI.val, SB.val, Num.eta, Iv.eta] at *; (try rw [h32] at *); clear h32; (try simp only [wi64] at *); omega)

end Go.Proofs.YtaiillbjhdoikaaGreat.Ev

/- Contracts: whole numbers of any length. Printed by gen.py. -/
namespace Go.Proofs.YtaiillbjhdoikaaGreat.Ev
open Go Go.Proofs
set_option linter.unusedVariables false
set_option linter.unusedSimpArgs false

attribute [local irreducible] Lb
theorem mulLen {a b : List Int} (ha : Lb a) (hb : Lb b) : (lim (lv a * lv b)).length ≤ a.length + b.length :=
  lim_length_le (by rw [Nat.pow_add]; exact Nat.mul_lt_mul'' (lv_lt ha) (lv_lt hb))
theorem limp (n : Nat) : 0 < (lim n).length ↔ n ≠ 0 := by
  constructor
  · intro h e; rw [e] at h; exact absurd h (by decide)
  · intro h
    rcases Nat.eq_zero_or_pos (lim n).length with k | k
    · exact absurd (lim_eq_nil.1 (List.length_eq_zero_iff.1 k)) h
    · exact k
theorem c_wMake (neg : Bool) (m : List Int) (hm_ : Lb m) (hl : m.length ≤ 268435456) : ∃ t : Bool × List Int, t = (neg && decide (lv m ≠ 0), lim (lv m)) ∧ CallsA Tryz.prog 30 [.bool (.s neg), .sli .u32 m] (.agg [.bool (.s t.1), .sli .u32 t.2]) := by
  refine ⟨_, rfl, ?_⟩
  generalize hr : ((neg && decide (lv m ≠ 0), lim (lv m)) : Bool × List Int) = r
  have pos := limp (lv m)
  obtain ⟨x, ex⟩ : ∃ x, lim (lv m) = x := ⟨_, rfl⟩
  rw [ex] at hr pos
  have yes : neg = true → ∀ b : Bool, b = decide ((0 : Int) < (x.length : Int)) → (b, x) = r := by
    intro h b hb
    rw [← hr, h, hb]
    have : decide ((0 : Int) < (x.length : Int)) = decide (lv m ≠ 0) := by
      by_cases z : lv m = 0
      · rw [decide_eq_false (by have := fun q => pos.1 q; omega), decide_eq_false (by simp [z])]
      · rw [decide_eq_true (by have := pos.2 z; omega), decide_eq_true z]
    rw [this]; rfl
  have no : neg = false → (false, x) = r := by intro h; rw [← hr, h]; rfl
  clear hr pos
  refine callsA_of hG hm Tryz.func30 (by kernel_rfl) ?_
  intro E hE lp hl'
  cbv
  (first | (apply E_pcallX hE (c_Trim _ hm_ ?_); (case hm => rfl); (case hle => (repeat' (first | exact u_nil | apply u_cons | apply u2_agg | exact u2_int | exact u1_int | exact u2_bool | exact u1_bool | exact u2_sli | exact u1_sli | exact u2_s0 | exact u1_s0))); all_goals (first | (intro y hy; cbv) | (exact hl))) | (apply E_callX hE (c_Trim _ hm_ ?_); (case hf => rfl); (case hc => (cbv <;> trivial)); (case hle => (repeat' (first | exact u_nil | apply u_cons | apply u2_agg | exact u2_int | exact u1_int | exact u2_bool | exact u1_bool | exact u2_sli | exact u1_sli | exact u2_s0 | exact u1_s0))); all_goals (first | (intro y hy; cbv) | (exact hl))))
  have Y : y = x := hy.trans ex
  rw [Y]
  clear hy Y
  refine E_br hE (fun g => ?_) (fun g => ?_) <;> cbv
  · rw [← yes g (E.cmp .gtr (E.len x) 0) (by subst hE; rfl)]; exact ⟨rfl, rfl, trivial⟩
  · rw [← no g]; exact ⟨rfl, rfl, trivial⟩

theorem c_wMul2 (na : Bool) (a : List Int) (nb : Bool) (b : List Int) (ha : Lb a) (hb : Lb b) (hla : a.length < 60000000) (hlb : b.length < 60000000) :
    ∃ t : Bool × List Int, t = ((na != nb) && decide (lv a * lv b ≠ 0), lim (lv a * lv b)) ∧ CallsA Tryz.prog 50 [.slc 2 (.l 2) (fun i => getRow [[.bool (.s na), .sli .u32 a], [.bool (.s nb), .sli .u32 b]] (Int.ofNat i))] (.agg [.bool (.s t.1), .sli .u32 t.2]) := by
  refine ⟨_, rfl, ?_⟩
  generalize hr : (((na != nb) && decide (lv a * lv b ≠ 0), lim (lv a * lv b)) : Bool × List Int) = r
  have l1 : Lb [(1 : Int)] := Lb.cons (by decide) (by decide) Lb.nil
  have m1 : ∀ u, u = lim (lv [(1 : Int)] * lv a) → Lb u ∧ u.length < 134217728 ∧ lv u = lv a := by
    intro u hu
    have e : lv [(1 : Int)] * lv a = lv a := by show 1 * lv a = lv a; omega
    rw [e] at hu
    have l := lim_length_le' ha
    rw [hu]; exact ⟨lim_lb _, by omega, lv_lim _⟩
  have m2 : ∀ u v, lv u = lv a → v = lim (lv u * lv b) → Lb v ∧ v.length ≤ 268435456 ∧ lv v = lv a * lv b := by
    intro u v hu hv
    rw [hu] at hv
    have l := mulLen ha hb
    rw [hv]; exact ⟨lim_lb _, by omega, lv_lim _⟩
  have fin : ∀ v (t : Bool × List Int) (n : Bool), lv v = lv a * lv b → n = (na != nb) → t = (n && decide (lv v ≠ 0), lim (lv v)) → t = r := by
    intro v t n h1 h2 h3; rw [h3, h1, h2, hr]
  clear hr
  refine callsA_of hG hm Tryz.func50 (by kernel_rfl) ?_
  intro E hE lp hl'
  have es : E.sub [1] 0 1 = [1] := by subst hE; rfl
  cbv
  refine E_frz hE hl' (d := 4) rfl rfl rfl trivial ?_
  refine E_rounds hE hG hm hl' 3 ?_
  cbv
  (first | (apply E_pcallX hE (c_natMul _ _ ?_ ha ?_ ?_); (case hm => rfl); (case hle => (repeat' (first | exact u_nil | apply u_cons | apply u2_agg | exact u2_int | exact u1_int | exact u2_bool | exact u1_bool | exact u2_sli | exact u1_sli | exact u2_s0 | exact u1_s0))); all_goals (first | (intro u hu; cbv) | (first | (show Lb (E.sub [1] 0 1); rw [es]; exact l1) | (show (E.sub [1] 0 1).length < 134217728; rw [es]; show (1 : Nat) < 134217728; decide) | exact Nat.lt_of_lt_of_le hla (by decide)))) | (apply E_callX hE (c_natMul _ _ ?_ ha ?_ ?_); (case hf => rfl); (case hc => (cbv <;> trivial)); (case hle => (repeat' (first | exact u_nil | apply u_cons | apply u2_agg | exact u2_int | exact u1_int | exact u2_bool | exact u1_bool | exact u2_sli | exact u1_sli | exact u2_s0 | exact u1_s0))); all_goals (first | (intro u hu; cbv) | (first | (show Lb (E.sub [1] 0 1); rw [es]; exact l1) | (show (E.sub [1] 0 1).length < 134217728; rw [es]; show (1 : Nat) < 134217728; decide) | exact Nat.lt_of_lt_of_le hla (by decide)))))
  have U := m1 u (by have k : u = lim (lv (E.sub [1] 0 1) * lv a) := hu; rw [es] at k; exact k)
  clear hu m1
  (first | (apply E_pcallX hE (c_natMul _ _ U.1 hb U.2.1 ?_); (case hm => rfl); (case hle => (repeat' (first | exact u_nil | apply u_cons | apply u2_agg | exact u2_int | exact u1_int | exact u2_bool | exact u1_bool | exact u2_sli | exact u1_sli | exact u2_s0 | exact u1_s0))); all_goals (first | (intro v hv; cbv) | (exact Nat.lt_of_lt_of_le hlb (by decide)))) | (apply E_callX hE (c_natMul _ _ U.1 hb U.2.1 ?_); (case hf => rfl); (case hc => (cbv <;> trivial)); (case hle => (repeat' (first | exact u_nil | apply u_cons | apply u2_agg | exact u2_int | exact u1_int | exact u2_bool | exact u1_bool | exact u2_sli | exact u1_sli | exact u2_s0 | exact u1_s0))); all_goals (first | (intro v hv; cbv) | (exact Nat.lt_of_lt_of_le hlb (by decide)))))
  have V := m2 u v U.2.2 hv
  clear hv m2
  (first | (apply E_pcallX hE (c_wMake _ _ V.1 V.2.1); (case hm => rfl); (case hle => (repeat' (first | exact u_nil | apply u_cons | apply u2_agg | exact u2_int | exact u1_int | exact u2_bool | exact u1_bool | exact u2_sli | exact u1_sli | exact u2_s0 | exact u1_s0))); all_goals (first | (intro t ht; cbv) | (assumption))) | (apply E_callX hE (c_wMake _ _ V.1 V.2.1); (case hf => rfl); (case hc => (cbv <;> trivial)); (case hle => (repeat' (first | exact u_nil | apply u_cons | apply u2_agg | exact u2_int | exact u1_int | exact u2_bool | exact u1_bool | exact u2_sli | exact u1_sli | exact u2_s0 | exact u1_s0))); all_goals (first | (intro t ht; cbv) | (assumption))))
  rw [← fin v t _ V.2.2 (by subst hE; cases na <;> cases nb <;> rfl) ht]; exact ⟨rfl, rfl, trivial⟩
theorem c_wNeg (na : Bool) (a : List Int) (ha : Lb a) (hla : a.length ≤ 268435456) :
    ∃ t : Bool × List Int, t = (!na && decide (lv a ≠ 0), lim (lv a)) ∧ CallsA Tryz.prog 17 [.agg [.bool (.s na), .sli .u32 a]] (.agg [.bool (.s t.1), .sli .u32 t.2]) := by
  refine ⟨_, rfl, ?_⟩
  generalize hr : ((!na && decide (lv a ≠ 0), lim (lv a)) : Bool × List Int) = r
  refine callsA_of hG hm Tryz.func17 (by kernel_rfl) ?_
  intro E hE lp hl'
  have en : E.bnot na = !na := by subst hE; rfl
  cbv
  (first | (apply E_pcallX hE (c_wMake _ _ ha hla); (case hm => rfl); (case hle => (repeat' (first | exact u_nil | apply u_cons | apply u2_agg | exact u2_int | exact u1_int | exact u2_bool | exact u1_bool | exact u2_sli | exact u1_sli | exact u2_s0 | exact u1_s0))); all_goals (first | (intro t ht; cbv) | (assumption))) | (apply E_callX hE (c_wMake _ _ ha hla); (case hf => rfl); (case hc => (cbv <;> trivial)); (case hle => (repeat' (first | exact u_nil | apply u_cons | apply u2_agg | exact u2_int | exact u1_int | exact u2_bool | exact u1_bool | exact u2_sli | exact u1_sli | exact u2_s0 | exact u1_s0))); all_goals (first | (intro t ht; cbv) | (assumption))))
  have k : t = (E.bnot na && decide (lv a ≠ 0), lim (lv a)) := ht
  rw [en, hr] at k
  rw [k]; exact ⟨rfl, rfl, trivial⟩

end Go.Proofs.YtaiillbjhdoikaaGreat.Ev

/- Contracts: limbs shifted. Printed by gen.py. -/
namespace Go.Proofs.YtaiillbjhdoikaaGreat.Ev
open Go Go.Proofs
set_option linter.unusedVariables false
set_option linter.unusedSimpArgs false


attribute [local irreducible] Lb
def shlS (E : Env) (x : List Int) (l r : Int) : Int × List Int → St := fun p => ⟨[(0, .sli .u32 x), (5, .int .i64 (.s l)), (6, .int .i64 (.s r)), (7, .ms 0 1 (.l 0) (.s (E.bin .add .i64 (E.bin .add .i64 (E.len x) l) 1))), (36, .sli .u32 x), (37, .int .i64 (.s (E.len x))), (38, .int .i64 (.s p.1))], [.ints true .u32 p.2]⟩
set_option maxHeartbeats 1000000 in
theorem c_natShl (a : List Int) (n : Int) (ha : Lb a) (hla : a.length < 67108864) : ∃ t : List Int, t = (if n < 1 then lim (lv a) else if 16777216 < n then [] else lim (lv a * 2 ^ n.toNat)) ∧ CallsA Tryz.prog 31 [.sli .u32 a, .int .i64 (.s n)] (.sli .u32 t) := by
  refine ⟨_, rfl, ?_⟩
  generalize hr : (if n < 1 then lim (lv a) else if 16777216 < n then [] else lim (lv a * 2 ^ n.toNat)) = r
  have hlx := lim_length_le' ha
  have hx := lim_lb (lv a)
  have vx := lv_lim (lv a)
  obtain ⟨x, ex⟩ : ∃ x, lim (lv a) = x := ⟨_, rfl⟩
  rw [ex] at hlx hx vx
  obtain ⟨m, em⟩ : ∃ m : Int × List Int → Nat, ∀ p, m p = (x.length - p.1).toNat := ⟨_, fun _ => rfl⟩
  obtain ⟨ok, eok⟩ : ∃ ok : Int × List Int → Prop, ∀ p, ok p ↔ 0 ≤ p.1 ∧ p.1 ≤ x.length ∧ ShlInv x p.2 (n / 32).toNat (n % 32).toNat p.1.toNat := ⟨_, fun _ => Iff.rfl⟩
  have eN : ∀ l : Int, 1 ≤ n → n ≤ 16777216 → l = intBinR .quo .i64 n 32 → IntKind.i64.wrap (IntKind.i64.wrap ((x.length : Int) + l) + 1) = x.length + n / 32 + 1 := by
    intro l n1 n2 el
    have : l = n / 32 := by rw [el]; exact quo32 (by omega) (by omega)
    rw [this, wi64_id (n := (x.length : Int) + n / 32) (by omega) (by omega), wi64_id (by omega) (by omega)]
  refine callsA_of hG hm Tryz.func31 (by kernel_rfl) ?_
  intro E hE lp hl
  cbv
  (apply E_callX hE (c_cut a ha (by omega)); (case hf => rfl); (case hc => (cbv <;> trivial)); (case hle => exact ⟨u2_sli, trivial⟩); intro x' hx'; cbv)
  rw [hx'.trans ex]
  clear hx' x'
  refine E_br hE (fun h => ?_) (fun h => ?_)
  · have e : x = r := by subst hE; rw [← hr, if_pos (lss_t h), ex]
    cbv
    repeat' (first
    | (refine E_br hE (fun h => ?_) (fun h => ?_) <;> cbv)
    | (refine E_nm hE (fun v hv => ?_); cbv)
    | (refine E_nilS hE (fun b hb => ?_); cbv)
    | (apply E_callX hE (c_Clone _ ?_); (case hf => rfl); (case hc => (cbv <;> trivial)); (case hle => exact u_up); all_goals (first | (intro t ht; cbv) | (omega)))
    | fail)
    exact ‹_ = x›.trans e
  have n1 : 1 ≤ n := by subst hE; have := lss_f h; omega
  cbv
  repeat' (first
    | (refine E_br hE (fun h => ?_) (fun h => ?_) <;> cbv)
    | (refine E_nm hE (fun v hv => ?_); cbv)
    | (refine E_nilS hE (fun b hb => ?_); cbv)
    | fail)
  · have n2 : 16777216 < n := by subst hE; exact gtr_t ‹_›
    rw [← hr, if_neg (by omega), if_pos n2]
  · have e0 : x.length = 0 := by subst hE; have := eql_t h; simp only [realE] at this; omega
    have e1 : x = [] := List.length_eq_zero_iff.1 e0
    rw [e1] at vx
    rw [← hr, if_neg (by omega)]
    split
    · rfl
    · rw [← vx]; simp [lv, lim_zero]
  all_goals (have n2 : n ≤ 16777216 := (by subst hE; have := gtr_f ‹(realE Tryz.prog).cmp .gtr n 16777216 = false›; omega))
  all_goals (try (exfalso; have := eN _ n1 n2 (by subst hE; assumption); subst hE; simp only [NatCast.natCast, Int.ofNat_eq_natCast, realE, cmp_eql, cmp_neq, cmp_lss, cmp_leq, cmp_gtr, cmp_geq, intBinR, decide_eq_true_eq, decide_eq_false_iff_not, SI.val, SB.val, Num.eta, Iv.eta] at *; rw [this] at *; omega))
  rename_i l el _ _
  replace eN := eN l n1 n2 (by subst hE; exact el)
  simp only [NatCast.natCast, Int.ofNat_eq_natCast] at eN
  have er := hv
  have l1 : l = n / 32 := by subst hE; rw [el]; exact quo32 (by omega) (by omega)
  have r1 : 0 ≤ v := by
    have : v = n % 32 := by subst hE; rw [hv]; exact rem32 (by omega)
    omega
  clear hv
  refine E_loop hE hG hm hl (shlS E x l v) m ok ⟨(0, E.rep (E.bin .add .i64 (E.bin .add .i64 (E.len x) l) 1)), (eok _).2 ?_, stLe rfl ?_⟩ ?_
  · refine ⟨by show (0 : Int) ≤ 0; omega, by show (0 : Int) ≤ x.length; omega, ?_⟩
    have := ShlInv.start x (n / 32).toNat (n % 32).toNat
    subst hE; simp only [NatCast.natCast, Int.ofNat_eq_natCast, realE, cmp_eql, cmp_neq, cmp_lss, cmp_leq, cmp_gtr, cmp_geq, intBinR, decide_eq_true_eq, decide_eq_false_iff_not, SI.val, SB.val, Num.eta, Iv.eta] at *; rw [eN, show ((x.length : Int) + n / 32 + 1).toNat = x.length + (n / 32).toNat + 1 by omega]
    exact this
  · (repeat' (first | exact t_nil | apply t_cons | exact u2_sli | exact u2_int | exact u2_bool | exact u2_ms | exact u2_ptr | exact (rfl : sle2 .s0 .s0)))
  rintro ⟨i, out⟩ hok
  have h1 : 0 ≤ i := ((eok _).1 hok).1
  have h2 : i ≤ x.length := ((eok _).1 hok).2.1
  have inv : ShlInv x out (n / 32).toNat (n % 32).toNat i.toNat := ((eok _).1 hok).2.2
  have hol := inv.len
  have fin : ¬ i < x.length → Lb out ∧ lim (lv out) = r := by
    intro h
    have inv' := inv
    rw [show i.toNat = x.length by omega] at inv'
    refine ⟨inv.lb, ?_⟩
    rw [inv'.stop, ← hr, if_neg (by omega), if_neg (by omega), vx, show 32 * (n / 32).toNat + (n % 32).toNat = n.toNat by omega]
  have ht : lim (lv a * 2 ^ n.toNat) = r := by rw [← hr, if_neg (by omega), if_neg (by omega)]
  clear hok hr ex
  cbv
  repeat' (first
    | (refine E_br hE (fun h => ?_) (fun h => ?_) <;> cbv)
    | (refine E_nm hE (fun v hv => ?_); cbv)
    | (refine E_nilS hE (fun b hb => ?_); cbv)
    | (apply E_callX hE (c_cut _ ?_ ?_); (case hf => rfl); (case hc => (cbv <;> trivial)); (case hle => exact u_up); all_goals (first | (intro t ht; cbv) | ((subst hE; simp only [NatCast.natCast, Int.ofNat_eq_natCast, realE, cmp_eql, cmp_neq, cmp_lss, cmp_leq, cmp_gtr, cmp_geq, intBinR, decide_eq_true_eq, decide_eq_false_iff_not, SI.val, SB.val, Num.eta, Iv.eta] at *; rw [eN] at *; rw [sub_all (by omega)]; first | exact (fin ‹_›).1 | omega))))
    | fail)
  case hK => subst hE; simp only [NatCast.natCast, Int.ofNat_eq_natCast, realE, cmp_eql, cmp_neq, cmp_lss, cmp_leq, cmp_gtr, cmp_geq, intBinR, decide_eq_true_eq, decide_eq_false_iff_not, SI.val, SB.val, Num.eta, Iv.eta] at *; rw [‹t = _›, eN, sub_all (by omega), (fin ‹_›).2]
  all_goals (try refine ⟨(E.bin .add .i64 i 1, _), ?_, ?_, stLe rfl ?_⟩)
  all_goals (try ((repeat' (first | exact t_nil | apply t_cons | exact u2_sli | exact u2_int | exact u2_bool | exact u2_ms | exact u2_ptr | exact (rfl : sle2 .s0 .s0))); done))
  all_goals (subst hE)
  all_goals (try (first | (rw [em, em]; exact (shl_next hx (by omega) n1 n2 h1 (lss_t ‹_›) inv ‹_› el er ‹_› ‹_› rfl).2.2.1) | (rw [eok]; have q := shl_next hx (by omega) n1 n2 h1 (lss_t ‹_›) inv ‹_› el er ‹_› ‹_› rfl; exact ⟨q.1, q.2.1, q.2.2.2⟩)))
  all_goals (clear inv eok em fin ht er el; simp only [NatCast.natCast, Int.ofNat_eq_natCast, realE, cmp_eql, cmp_neq, cmp_lss, cmp_leq, cmp_gtr, cmp_geq, intBinR, decide_eq_true_eq, decide_eq_false_iff_not, SI.val, SB.val, Num.eta, Iv.eta] at *; (try rw [eN] at *); clear eN; (try simp only [wi64] at *); omega)
def shrS (E : Env) (x : List Int) (l r : Int) : Int × List Int → St := fun p => ⟨[(0, .sli .u32 x), (5, .int .i64 (.s l)), (6, .int .i64 (.s r)), (7, .ms 0 1 (.l 0) (.s (E.bin .sub .i64 (E.len x) l))), (33, .int .i64 (.s (E.bin .sub .i64 (E.len x) l))), (34, .int .i64 (.s p.1))], [.ints true .u32 p.2]⟩
set_option maxHeartbeats 1000000 in
theorem c_natShr (a : List Int) (n : Int) (ha : Lb a) (hla : a.length < 67108864) : ∃ t : List Int, t = lim (lv a / 2 ^ n.toNat) ∧ CallsA Tryz.prog 82 [.sli .u32 a, .int .i64 (.s n)] (.sli .u32 t) := by
  refine ⟨_, rfl, ?_⟩
  generalize hr : lim (lv a / 2 ^ n.toNat) = r
  have hlx := lim_length_le' ha
  have hx := lim_lb (lv a)
  have vx := lv_lim (lv a)
  obtain ⟨x, ex⟩ : ∃ x, lim (lv a) = x := ⟨_, rfl⟩
  rw [ex] at hlx hx vx
  obtain ⟨m, em⟩ : ∃ m : Int × List Int → Nat, ∀ p, m p = (x.length - p.1).toNat := ⟨_, fun _ => rfl⟩
  obtain ⟨ok, eok⟩ : ∃ ok : Int × List Int → Prop, ∀ p, ok p ↔ 0 ≤ p.1 ∧ p.1 ≤ (x.length : Int) - n / 32 ∧ ShrInv x p.2 (n / 32).toNat (n % 32).toNat p.1.toNat := ⟨_, fun _ => Iff.rfl⟩
  have eN : ∀ l : Int, 1 ≤ n → n < 32 * x.length → l = intBinR .quo .i64 n 32 → IntKind.i64.wrap ((x.length : Int) - l) = x.length - n / 32 := by
    intro l n1 n2 el
    have : l = n / 32 := by rw [el]; exact quo32 (by omega) (by omega)
    rw [this, wi64_id (by omega) (by omega)]
  have e32 : IntKind.i64.wrap (32 * (x.length : Int)) = 32 * x.length := wi64_id (by omega) (by omega)
  have big : 32 * (x.length : Int) ≤ n → lv a / 2 ^ n.toNat = 0 := by
    intro h
    have h1 := lv_lt hx
    rw [vx] at h1
    apply Nat.div_eq_of_lt
    have h2 : 4294967296 ^ x.length = 2 ^ (32 * x.length) := by rw [Nat.pow_mul]
    have h3 : 2 ^ (32 * x.length) ≤ 2 ^ n.toNat := Nat.pow_le_pow_right (by omega) (by omega)
    omega
  refine callsA_of hG hm Tryz.func82 (by kernel_rfl) ?_
  intro E hE lp hl
  cbv
  (apply E_callX hE (c_cut a ha (by omega)); (case hf => rfl); (case hc => (cbv <;> trivial)); (case hle => exact ⟨u2_sli, trivial⟩); intro x' hx'; cbv)
  rw [hx'.trans ex]
  clear hx' x'
  refine E_br hE (fun h => ?_) (fun h => ?_)
  · have e : x = r := by subst hE; have := lss_t h; rw [← hr, ← ex, show n.toNat = 0 by omega, Nat.pow_zero, Nat.div_one]
    cbv
    repeat' (first
    | (refine E_br hE (fun h => ?_) (fun h => ?_) <;> cbv)
    | (refine E_nm hE (fun v hv => ?_); cbv)
    | (refine E_nilS hE (fun b hb => ?_); cbv)
    | (apply E_callX hE (c_Clone _ ?_); (case hf => rfl); (case hc => (cbv <;> trivial)); (case hle => exact u_up); all_goals (first | (intro t ht; cbv) | (omega)))
    | fail)
    exact ‹_ = x›.trans e
  have n1 : 1 ≤ n := by subst hE; have := lss_f h; omega
  refine E_br hE (fun h => ?_) (fun h => ?_)
  · have e : [] = r := by
      rw [← hr, big (by subst hE; have := geq_t h; simp only [realE, intBinR, NatCast.natCast, Int.ofNat_eq_natCast] at this e32; rw [e32] at this; omega)]; rfl
    cbv
    exact e.symm
  have n2 : n < 32 * x.length := by subst hE; have := geq_f h; simp only [realE, intBinR, NatCast.natCast, Int.ofNat_eq_natCast] at this e32; rw [e32] at this; omega
  cbv
  repeat' (first
    | (refine E_br hE (fun h => ?_) (fun h => ?_) <;> cbv)
    | (refine E_nm hE (fun v hv => ?_); cbv)
    | (refine E_nilS hE (fun b hb => ?_); cbv)
    | fail)
  all_goals (try (exfalso; have := eN _ n1 n2 (by subst hE; assumption); subst hE; simp only [NatCast.natCast, Int.ofNat_eq_natCast, realE, cmp_eql, cmp_neq, cmp_lss, cmp_leq, cmp_gtr, cmp_geq, intBinR, decide_eq_true_eq, decide_eq_false_iff_not, SI.val, SB.val, Num.eta, Iv.eta] at *; rw [this] at *; omega))
  rename_i l el _ _
  replace n2 : n < 32 * (x.length : Int) := n2
  replace eN := eN l n1 n2 (by subst hE; exact el)
  simp only [NatCast.natCast, Int.ofNat_eq_natCast] at eN
  have er := hv
  have l1 : l = n / 32 := by subst hE; rw [el]; exact quo32 (by omega) (by omega)
  have r1 : 0 ≤ v := by
    have : v = n % 32 := by subst hE; rw [hv]; exact rem32 (by omega)
    omega
  clear hv
  refine E_loop hE hG hm hl (shrS E x l v) m ok ⟨(0, E.rep (E.bin .sub .i64 (E.len x) l)), (eok _).2 ?_, stLe rfl ?_⟩ ?_
  · refine ⟨by show (0 : Int) ≤ 0; omega, by show (0 : Int) ≤ x.length - n / 32; omega, ?_⟩
    have := ShrInv.start x (n / 32).toNat (n % 32).toNat
    subst hE; simp only [NatCast.natCast, Int.ofNat_eq_natCast, realE, cmp_eql, cmp_neq, cmp_lss, cmp_leq, cmp_gtr, cmp_geq, intBinR, decide_eq_true_eq, decide_eq_false_iff_not, SI.val, SB.val, Num.eta, Iv.eta] at *; rw [eN, show ((x.length : Int) - n / 32).toNat = x.length - (n / 32).toNat by omega]
    exact this
  · (repeat' (first | exact t_nil | apply t_cons | exact u2_sli | exact u2_int | exact u2_bool | exact u2_ms | exact u2_ptr | exact (rfl : sle2 .s0 .s0)))
  rintro ⟨i, out⟩ hok
  have h1 : 0 ≤ i := ((eok _).1 hok).1
  have h2 : i ≤ x.length - n / 32 := ((eok _).1 hok).2.1
  have inv : ShrInv x out (n / 32).toNat (n % 32).toNat i.toNat := ((eok _).1 hok).2.2
  have hol := inv.len
  have fin : ¬ i < (x.length : Int) - n / 32 → Lb out ∧ lim (lv out) = r := by
    intro h
    have inv' := inv
    rw [show i.toNat = x.length - (n / 32).toNat by omega] at inv'
    refine ⟨inv.lb, ?_⟩
    rw [inv'.stop hx (by omega), ← hr, vx, show 32 * (n / 32).toNat + (n % 32).toNat = n.toNat by omega]
  clear hok hr ex
  cbv
  repeat' (first
    | (refine E_br hE (fun h => ?_) (fun h => ?_) <;> cbv)
    | (refine E_nm hE (fun v hv => ?_); cbv)
    | (refine E_nilS hE (fun b hb => ?_); cbv)
    | (apply E_callX hE (c_cut _ ?_ ?_); (case hf => rfl); (case hc => (cbv <;> trivial)); (case hle => exact u_up); all_goals (first | (intro t ht; cbv) | ((subst hE; simp only [NatCast.natCast, Int.ofNat_eq_natCast, realE, cmp_eql, cmp_neq, cmp_lss, cmp_leq, cmp_gtr, cmp_geq, intBinR, decide_eq_true_eq, decide_eq_false_iff_not, SI.val, SB.val, Num.eta, Iv.eta] at *; rw [eN] at *; rw [sub_all (by omega)]; first | exact (fin ‹_›).1 | omega))))
    | fail)
  case hK => subst hE; simp only [NatCast.natCast, Int.ofNat_eq_natCast, realE, cmp_eql, cmp_neq, cmp_lss, cmp_leq, cmp_gtr, cmp_geq, intBinR, decide_eq_true_eq, decide_eq_false_iff_not, SI.val, SB.val, Num.eta, Iv.eta] at *; rw [‹t = _›, eN, sub_all (by omega), (fin (by rw [← eN]; assumption)).2]
  all_goals (try refine ⟨(E.bin .add .i64 i 1, _), ?_, ?_, stLe rfl ?_⟩)
  all_goals (try ((repeat' (first | exact t_nil | apply t_cons | exact u2_sli | exact u2_int | exact u2_bool | exact u2_ms | exact u2_ptr | exact (rfl : sle2 .s0 .s0))); done))
  all_goals (subst hE)
  all_goals (try (
    have hi : i < IntKind.i64.wrap ((x.length : Int) - l) := lss_t ‹_›
    rw [eN] at hi
    first
      | (rw [em, em]; exact (shr_next hx (by omega) n1 n2 h1 hi inv ‹_› el er ‹_› (by first | exact .inr ‹_› | exact .inl ⟨lss_f ‹_›, rfl⟩) rfl).2.2.1)
      | (rw [eok]; have q := shr_next hx (by omega) n1 n2 h1 hi inv ‹_› el er ‹_› (by first | exact .inr ‹_› | exact .inl ⟨lss_f ‹_›, rfl⟩) rfl; exact ⟨q.1, q.2.1, q.2.2.2⟩)))
  all_goals (clear inv eok em fin er el e32 big; simp only [NatCast.natCast, Int.ofNat_eq_natCast, realE, cmp_eql, cmp_neq, cmp_lss, cmp_leq, cmp_gtr, cmp_geq, intBinR, decide_eq_true_eq, decide_eq_false_iff_not, SI.val, SB.val, Num.eta, Iv.eta] at *; (try rw [eN] at *); clear eN; (try simp only [wi64] at *); omega)

end Go.Proofs.YtaiillbjhdoikaaGreat.Ev

/- Contracts: the product of intervals. -/
namespace Go.Proofs.YtaiillbjhdoikaaGreat.Ev
open Go Go.Proofs
set_option linter.unusedVariables false

end Go.Proofs.YtaiillbjhdoikaaGreat.Ev

/- Contracts: a division of two words by one. -/
namespace Go.Proofs.YtaiillbjhdoikaaGreat.Ev
open Go Go.Proofs
set_option linter.unusedVariables false
end Go.Proofs.YtaiillbjhdoikaaGreat.Ev

/- Contracts: words of 32 bits. Printed by gen.py out of C22.spec. -/
namespace Go.Proofs.YtaiillbjhdoikaaGreat.Ev
open Go Go.Proofs
set_option linter.unusedVariables false
set_option linter.unusedSimpArgs false

theorem c_Div32 (hi : Int) (lo : Int) (y : Int) (hhi : 0 ≤ hi) (hhi' : hi < 4294967296) (hlo : 0 ≤ lo) (hlo' : lo < 4294967296) (hy : 0 ≤ y) (hy' : y < 4294967296) (hlt : hi < y) : ∃ t : Int × Int, t = ((hi * 4294967296 + lo) / y, (hi * 4294967296 + lo) % y) ∧ CallsA Tryz.prog 96 [.int .u32 (.s hi), .int .u32 (.s lo), .int .u32 (.s y)] (.tup [.int .u32 (.s t.1), .int .u32 (.s t.2)]) := by
  refine ⟨_, rfl, ?_⟩
  generalize hr : ((hi * 4294967296 + lo) / y, (hi * 4294967296 + lo) % y) = r
  refine callsA_of hG hm Tryz.func96 (by kernel_rfl) ?_
  intro E hE lp hl
  cbv
  repeat' (first
    | (refine E_br hE (fun h => ?_) (fun h => ?_) <;> cbv)
    | (refine E_nm hE (fun v hv => ?_); cbv)
    | fail)
  all_goals (subst hE; subst hr)
  all_goals (try simp only [realE, cmp_eql, cmp_neq, cmp_lss, cmp_leq, cmp_gtr, cmp_geq, intBinR, decide_eq_true_eq, decide_eq_false_iff_not, SI.val, SB.val, Num.eta, Iv.eta] at *)
  all_goals (try (exfalso; rw [wu64] at *; omega))
  all_goals (try (exfalso; omega))
  rename_i v1 v2 e1 e2 _ _ _
  rw [div32_word hhi hhi' hlo hlo'] at e1
  subst e1
  obtain ⟨q1, q2⟩ := div32_parts hhi hlo hlo' hlt hy'
  exact ⟨e2.trans q1, hv.trans q2, trivial⟩

theorem c_Len32 (x : Int) (hx : 0 ≤ x) (hx' : x < 4294967296) : ∃ t : Int, t = blen x ∧ CallsA Tryz.prog 63 [.int .u32 (.s x)] (.int .i64 (.s t)) := by
  refine ⟨_, rfl, ?_⟩
  generalize hr : blen x = r
  refine callsA_of hG hm Tryz.func63 (by kernel_rfl) ?_
  intro E hE lp hl
  cbv
  repeat' (first
    | (refine E_br hE (fun h => ?_) (fun h => ?_) <;> cbv)
    | (refine E_nm hE (fun v hv => ?_); cbv)
    | fail)
  all_goals (try (generalize hL : (⟨⟨[0, 1, 2, 2, 3, 3, 3, 3, 4, 4, 4, 4, 4, 4, 4, 4, 5, 5, 5, 5, 5, 5, 5, 5, 5, 5, 5, 5, 5, 5, 5, 5, 6, 6, 6, 6, 6, 6, 6, 6, 6, 6, 6, 6, 6, 6, 6, 6, 6, 6, 6, 6, 6, 6, 6, 6, 6, 6, 6, 6, 6, 6, 6, 6, 7, 7, 7, 7, 7, 7, 7, 7, 7, 7, 7, 7, 7, 7, 7, 7, 7, 7, 7, 7, 7, 7, 7, 7, 7, 7, 7, 7, 7, 7, 7, 7, 7, 7, 7, 7, 7, 7, 7, 7, 7, 7, 7, 7, 7, 7, 7, 7, 7, 7, 7, 7, 7, 7, 7, 7, 7, 7, 7, 7, 7, 7, 7, 7, 8, 8, 8, 8, 8, 8, 8, 8, 8, 8, 8, 8, 8, 8, 8, 8, 8, 8, 8, 8, 8, 8, 8, 8, 8, 8, 8, 8, 8, 8, 8, 8, 8, 8, 8, 8, 8, 8, 8, 8, 8, 8, 8, 8, 8, 8, 8, 8, 8, 8, 8, 8, 8, 8, 8, 8, 8, 8, 8, 8, 8, 8, 8, 8, 8, 8, 8, 8, 8, 8, 8, 8, 8, 8, 8, 8, 8, 8, 8, 8, 8, 8, 8, 8, 8, 8, 8, 8, 8, 8, 8, 8, 8, 8, 8, 8, 8, 8, 8, 8, 8, 8, 8, 8, 8, 8, 8, 8, 8, 8, 8, 8, 8, 8, 8, 8, 8, 8, 8, 8, 8, 8, 8, 8, 8, 8, 8, 8]⟩⟩ : ByteArray) = L at *; replace hL := len8_str hL; obtain ⟨hL1, hL2⟩ := hL))
  all_goals (subst hE; subst hr)
  all_goals (try simp only [realE, cmp_eql, cmp_neq, cmp_lss, cmp_leq, cmp_gtr, cmp_geq, intBinR, decide_eq_true_eq, decide_eq_false_iff_not, SI.val, SB.val, Num.eta, Iv.eta] at *)
  all_goals (simp only [shr8', shr16', wu8, wi64] at *)
  all_goals (try omega)
  all_goals (try rw [hL2 _ (by omega) (by omega)] at hv)
  all_goals (have b1 := blen_nonneg x; have b2 := blen_le 32 (x := x) (by omega))
  all_goals (try have s2 := len16 ‹(65536 : Int) ≤ _› ‹_ = _ / (65536 : Int)›)
  all_goals (try have s3 := len8 ‹(256 : Int) ≤ _› ‹_ = _ / (256 : Int)›)
  all_goals omega

theorem c_LZ32 (x : Int) (hx : 0 ≤ x) (hx' : x < 4294967296) : ∃ t : Int, t = 32 - blen x ∧ CallsA Tryz.prog 78 [.int .u32 (.s x)] (.int .i64 (.s t)) := by
  refine ⟨_, rfl, ?_⟩
  generalize hr : 32 - blen x = r
  refine callsA_of hG hm Tryz.func78 (by kernel_rfl) ?_
  intro E hE lp hl
  cbv
  repeat' (first
    | (refine E_br hE (fun h => ?_) (fun h => ?_) <;> cbv)
    | (refine E_nm hE (fun v hv => ?_); cbv)
    | (apply E_callX hE (c_Len32 _ ?_ ?_); (case hf => rfl); (case hc => (cbv <;> trivial)); (case hle => (repeat' (first | exact u_nil | apply u_cons | apply u2_agg | exact u2_int | exact u1_int | exact u2_bool | exact u1_bool | exact u2_sli | exact u1_sli | exact u2_s0 | exact u1_s0))); all_goals (first | (intro t ht; cbv) | (subst hE; (try simp only [realE, cmp_eql, cmp_neq, cmp_lss, cmp_leq, cmp_gtr, cmp_geq, intBinR, decide_eq_true_eq, decide_eq_false_iff_not, SI.val, SB.val, Num.eta, Iv.eta] at *); first | assumption | omega)))
    | (apply E_pcallX hE (c_Len32 _ ?_ ?_); (case hm => rfl); (case hle => (repeat' (first | exact u_nil | apply u_cons | apply u2_agg | exact u2_int | exact u1_int | exact u2_bool | exact u1_bool | exact u2_sli | exact u1_sli | exact u2_s0 | exact u1_s0))); all_goals (first | (intro t ht; cbv) | (subst hE; (try simp only [realE, cmp_eql, cmp_neq, cmp_lss, cmp_leq, cmp_gtr, cmp_geq, intBinR, decide_eq_true_eq, decide_eq_false_iff_not, SI.val, SB.val, Num.eta, Iv.eta] at *); first | assumption | omega)))
    | fail)
  all_goals (subst hE; subst hr)
  all_goals (try simp only [realE, cmp_eql, cmp_neq, cmp_lss, cmp_leq, cmp_gtr, cmp_geq, intBinR, decide_eq_true_eq, decide_eq_false_iff_not, SI.val, SB.val, Num.eta, Iv.eta] at *)
  all_goals (try simp only [wi64] at *)
  all_goals (have b1 := blen_nonneg x; have b2 := blen_le 32 (x := x) (by omega); omega)

end Go.Proofs.YtaiillbjhdoikaaGreat.Ev

/- Contracts: how many bits limbs have; a short division. Printed by gen.py. -/
namespace Go.Proofs.YtaiillbjhdoikaaGreat.Ev
open Go Go.Proofs
set_option linter.unusedVariables false
set_option linter.unusedSimpArgs false


attribute [local irreducible] Lb
theorem c_natLen (a : List Int) (ha : Lb a) (hla : a.length < 67108864) : ∃ t : Int, t = blen (lv a) ∧ CallsA Tryz.prog 43 [.sli .u32 a] (.int .i64 (.s t)) := by
  refine ⟨_, rfl, ?_⟩
  generalize hr : blen (lv a : Int) = r
  have hlx := lim_length_le' ha
  have hx := lim_lb (lv a)
  have vx := lv_lim (lv a)
  have lx := (lim_cn (lv a)).last
  obtain ⟨x, ex⟩ : ∃ x, lim (lv a) = x := ⟨_, rfl⟩
  rw [ex] at hlx hx vx lx
  have k1 : x.length = 0 → r = 0 := by
    intro h
    have : x = [] := List.length_eq_zero_iff.1 h
    rw [this] at vx
    rw [← hr, ← vx]; rfl
  have k2 : ¬ (x.length : Int) = 0 → ∀ t : Int, t = blen (x.getD (intBinR .sub .i64 x.length 1).toNat 0) → r = intBinR .add .i64 (intBinR .mul .i64 32 (intBinR .sub .i64 x.length 1)) t := by
    intro h t ht
    have hne : x ≠ [] := by intro e; rw [e] at h; simp at h
    have := blen_len hx hne (lx hne)
    have e1 : intBinR .sub .i64 x.length 1 = (x.length : Int) - 1 := by show IntKind.i64.wrap _ = _; rw [wi64_id (by omega) (by omega)]
    rw [e1] at ht ⊢
    have e2 : intBinR .mul .i64 32 ((x.length : Int) - 1) = 32 * ((x.length : Int) - 1) := by show IntKind.i64.wrap _ = _; rw [wi64_id (by omega) (by omega)]
    rw [e2, ← hr, ← vx, this]
    rw [show ((x.length : Int) - 1).toNat = x.length - 1 by omega] at ht
    have hg := hx.getD (x.length - 1)
    have b1 := blen_nonneg (x.getD (x.length - 1) 0)
    have b2 := blen_le 32 (x := x.getD (x.length - 1) 0) (by omega)
    rw [ht]
    show _ = IntKind.i64.wrap _
    rw [wi64_id (by omega) (by omega)]
  refine callsA_of hG hm Tryz.func43 (by kernel_rfl) ?_
  intro E hE lp hl
  cbv
  (apply E_callX hE (c_cut a ha (by omega)); (case hf => rfl); (case hc => (cbv <;> trivial)); (case hle => exact ⟨u2_sli, trivial⟩); intro x' hx'; cbv)
  rw [hx'.trans ex]
  clear hx' x'
  repeat' (first
    | (refine E_br hE (fun h => ?_) (fun h => ?_) <;> cbv)
    | (refine E_nm hE (fun v hv => ?_); cbv)
    | (refine E_nilS hE (fun b hb => ?_); cbv)
    | (apply E_callX hE (c_Len32 _ ?_ ?_); (case hf => rfl); (case hc => (cbv <;> trivial)); (case hle => (repeat' (first | exact u_nil | apply u_cons | apply u2_agg | exact u2_int | exact u1_int | exact u2_bool | exact u1_bool | exact u2_sli | exact u1_sli | exact u2_s0 | exact u1_s0))); all_goals (first | (intro t ht; cbv) | ((subst hE; first | exact (hx.getD _).1 | exact (hx.getD _).2))))
    | fail)
  all_goals (try (subst hE; first | exact (k1 (by have := eql_t h; simp only [realE] at this; omega)).symm | exact hv.trans (k2 (eql_f ‹_›) t ht).symm))
  all_goals (clear k1 k2 hr; subst hE; simp only [NatCast.natCast, Int.ofNat_eq_natCast, realE, cmp_eql, cmp_neq, cmp_lss, cmp_leq, cmp_gtr, cmp_geq, intBinR, decide_eq_true_eq, decide_eq_false_iff_not, SI.val, SB.val, Num.eta, Iv.eta] at *; (try simp only [wi64] at *); omega)

theorem short_next {a q : List Int} {d i k left j : Int} (ha : Lb a) (hla : a.length < 67108864) (hd : d < 4294967296) (h1 : 0 ≤ i) (h2 : i < a.length)
    (inv : ShortInv a q d (a.length - i.toNat) left) {i' : Int} (ei : i' = i) (ek : k = intBinR .sub .i64 (intBinR .sub .i64 a.length 1) i') (ej : j = intBinR .add .i64 i 1) {t : Int × Int}
    (et : t = ((left * 4294967296 + a.getD k.toNat 0) / d, (left * 4294967296 + a.getD k.toNat 0) % d)) {t2 : Int} (e2 : t2 = t.2) :
    0 ≤ j ∧ j ≤ a.length ∧ ((a.length : Int) - j).toNat < ((a.length : Int) - i).toNat ∧ ShortInv a (q.set k.toNat t.1) d (a.length - j.toNat) t2 := by
  subst ei
  have ej' : j = i' + 1 := by rw [ej]; show IntKind.i64.wrap (i' + 1) = _; rw [wi64_id (by omega) (by omega)]
  have ek' : k = a.length - 1 - i' := by
    rw [ek]; show IntKind.i64.wrap (IntKind.i64.wrap ((a.length : Int) - 1) - i') = _
    rw [wi64_id (n := (a.length : Int) - 1) (by omega) (by omega), wi64_id (by omega) (by omega)]
  rw [show a.length - i'.toNat = k.toNat + 1 by omega] at inv
  have st := inv.step ha hd (by omega)
  rw [e2, et, show a.length - j.toNat = k.toNat by omega]
  exact ⟨by omega, by omega, by omega, st⟩

def shortS (E : Env) (a : List Int) (d : Int) : Int × Int × List Int → St := fun p => ⟨[(0, .sli .u32 a), (1, .int .u32 (.s d)), (4, .ms 0 1 (.l 0) (.s (E.len a))), (6, .int .u32 (.s p.2.1)), (13, .int .i64 (.s (E.len a))), (14, .int .i64 (.s p.1))], [.ints true .u32 p.2.2]⟩
set_option maxHeartbeats 1000000 in
theorem c_short (a : List Int) (d : Int) (ha : Lb a) (hla : a.length < 67108864) (hd0 : 0 < d) (hd : d < 4294967296) : ∃ t : List Int × List Int, t = (lim (lv a / d.toNat), lim (lv a % d.toNat)) ∧ CallsA Tryz.prog 77 [.sli .u32 a, .int .u32 (.s d)] (.tup [.sli .u32 t.1, .sli .u32 t.2]) := by
  refine ⟨_, rfl, ?_⟩
  generalize hr : (lim (lv a / d.toNat), lim (lv a % d.toNat)) = r
  obtain ⟨m, em⟩ : ∃ m : Int × Int × List Int → Nat, ∀ p, m p = (a.length - p.1).toNat := ⟨_, fun _ => rfl⟩
  obtain ⟨ok, eok⟩ : ∃ ok : Int × Int × List Int → Prop, ∀ p, ok p ↔ 0 ≤ p.1 ∧ p.1 ≤ a.length ∧ ShortInv a p.2.2 d (a.length - p.1.toNat) p.2.1 := ⟨_, fun _ => Iff.rfl⟩
  refine callsA_of hG hm Tryz.func77 (by kernel_rfl) ?_
  intro E hE lp hl
  cbv
  repeat' (first
    | (refine E_br hE (fun h => ?_) (fun h => ?_) <;> cbv)
    | (refine E_nm hE (fun v hv => ?_); cbv)
    | (refine E_nilS hE (fun b hb => ?_); cbv)
    | fail)
  all_goals (try (exfalso; subst hE; simp only [NatCast.natCast, Int.ofNat_eq_natCast, realE, cmp_eql, cmp_neq, cmp_lss, cmp_leq, cmp_gtr, cmp_geq, intBinR, decide_eq_true_eq, decide_eq_false_iff_not, SI.val, SB.val, Num.eta, Iv.eta] at *; omega))
  refine E_loop hE hG hm hl (shortS E a d) m ok ⟨(0, 0, E.rep (E.len a)), (eok _).2 ?_, stLe rfl ?_⟩ ?_
  · refine ⟨by show (0 : Int) ≤ 0; omega, by show (0 : Int) ≤ a.length; omega, ?_⟩
    have := ShortInv.start a hd0
    subst hE; simp only [NatCast.natCast, Int.ofNat_eq_natCast, realE, cmp_eql, cmp_neq, cmp_lss, cmp_leq, cmp_gtr, cmp_geq, intBinR, decide_eq_true_eq, decide_eq_false_iff_not, SI.val, SB.val, Num.eta, Iv.eta] at *
    exact this
  · (repeat' (first | exact t_nil | apply t_cons | exact u2_sli | exact u2_int | exact u2_bool | exact u2_ms | exact u2_ptr | exact (rfl : sle2 .s0 .s0)))
  rintro ⟨i, left, q⟩ hok
  have h1 : 0 ≤ i := ((eok _).1 hok).1
  have h2 : i ≤ a.length := ((eok _).1 hok).2.1
  have inv : ShortInv a q d (a.length - i.toNat) left := ((eok _).1 hok).2.2
  have hol := inv.len
  have l0 := inv.l0
  have l1 := inv.l1
  have lq : Lb q := inv.lb
  have ll : Lb [left] := Lb.cons l0 (by omega) Lb.nil
  have fin : ¬ i < a.length → (lim (lv q), lim (lv [left])) = r := by
    intro h
    rw [show a.length - i.toNat = 0 by omega] at inv
    obtain ⟨f1, f2⟩ := inv.stop
    rw [← hr, f1]
    congr 2
    simp only [lv]
    omega
  clear hok hr
  cbv
  repeat' (first
    | (refine E_br hE (fun h => ?_) (fun h => ?_) <;> cbv)
    | (refine E_nm hE (fun v hv => ?_); cbv)
    | (refine E_nilS hE (fun b hb => ?_); cbv)
    | (apply E_callX hE (c_Div32 _ _ _ ?_ ?_ ?_ ?_ ?_ ?_ ?_); (case hf => rfl); (case hc => (cbv <;> trivial)); (case hle => (repeat' (first | exact u_nil | apply u_cons | apply u2_agg | exact u2_int | exact u1_int | exact u2_bool | exact u1_bool | exact u2_sli | exact u1_sli | exact u2_s0 | exact u1_s0))); all_goals (first | (intro t ht; cbv) | (((try simp only [SI.val]); first | omega | (subst hE; first | exact (ha.getD _).1 | exact (ha.getD _).2)))))
    | (apply E_callX hE (c_cut _ ?_ ?_); (case hf => rfl); (case hc => (cbv <;> trivial)); (case hle => (repeat' (first | exact u_nil | apply u_cons | apply u2_agg | exact u2_int | exact u1_int | exact u2_bool | exact u1_bool | exact u2_sli | exact u1_sli | exact u2_s0 | exact u1_s0))); all_goals (first | (intro t ht; cbv) | ((subst hE; first | exact ll | (simp only [NatCast.natCast, Int.ofNat_eq_natCast, realE, cmp_eql, cmp_neq, cmp_lss, cmp_leq, cmp_gtr, cmp_geq, intBinR, decide_eq_true_eq, decide_eq_false_iff_not, SI.val, SB.val, Num.eta, Iv.eta] at *; (try rw [sub_all (by omega)]); first | assumption | omega | (simp; done))))))
    | fail)
  all_goals (try refine ⟨(E.bin .add .i64 i 1, v, E.set q _ t.1), ?_, ?_, stLe rfl ?_⟩)
  all_goals (try ((repeat' (first | exact t_nil | apply t_cons | exact u2_sli | exact u2_int | exact u2_bool | exact u2_ms | exact u2_ptr | exact (rfl : sle2 .s0 .s0))); done))
  all_goals (subst hE)
  all_goals (try (first | (rw [em, em]; exact (short_next ha hla hd h1 (lss_t ‹_›) inv ‹_ = i› ‹_› rfl ‹t = _› ‹_›).2.2.1) | (rw [eok]; have q := short_next ha hla hd h1 (lss_t ‹_›) inv ‹_ = i› ‹_› rfl ‹t = _› ‹_›; exact ⟨q.1, q.2.1, q.2.2.2⟩)))
  case refine_1.refine_1.refine_1.refine_3.refine_2.hK.hK => have f := fin (lss_f ‹_›); rename_i q' hq'; rw [← f]; simp only [NatCast.natCast, Int.ofNat_eq_natCast, realE, cmp_eql, cmp_neq, cmp_lss, cmp_leq, cmp_gtr, cmp_geq, intBinR, decide_eq_true_eq, decide_eq_false_iff_not, SI.val, SB.val, Num.eta, Iv.eta] at *; refine ⟨?_, ‹_ = _›, trivial⟩; rw [hq', sub_all (by omega)]
  all_goals (clear inv eok em fin; simp only [NatCast.natCast, Int.ofNat_eq_natCast, realE, cmp_eql, cmp_neq, cmp_lss, cmp_leq, cmp_gtr, cmp_geq, intBinR, decide_eq_true_eq, decide_eq_false_iff_not, SI.val, SB.val, Num.eta, Iv.eta] at *; (try simp only [wi64] at *); omega)

end Go.Proofs.YtaiillbjhdoikaaGreat.Ev

/- Contracts: the guess of a limb of a quotient. Printed by gen.py. -/
namespace Go.Proofs.YtaiillbjhdoikaaGreat.Ev
open Go Go.Proofs
set_option linter.unusedVariables false
set_option linter.unusedSimpArgs false


def guessS (r2 r1 r0 d1 d0 t : Int) : Int × Int → St := fun p => ⟨[(0, .int .u32 (.s r2)), (1, .int .u32 (.s r1)), (2, .int .u32 (.s r0)), (3, .int .u32 (.s d1)), (4, .int .u32 (.s d0)), (11, .int .u64 (.s t)), (12, .int .u64 (.s p.1)), (13, .int .u64 (.s p.2))], []⟩
theorem c_guess (r2 r1 r0 d1 d0 : Int) (I : GuessIn r2 r1 r0 d1 d0) : ∃ t : Int, t = guessQ r2 r1 r0 d1 d0 ∧ CallsA Tryz.prog 79 [.int .u32 (.s r2), .int .u32 (.s r1), .int .u32 (.s r0), .int .u32 (.s d1), .int .u32 (.s d0)] (.int .u32 (.s t)) := by
  refine ⟨_, rfl, ?_⟩
  generalize hr : guessQ r2 r1 r0 d1 d0 = r
  obtain ⟨m, em⟩ : ∃ m : Int × Int → Nat, ∀ p, m p = p.1.toNat := ⟨_, fun _ => rfl⟩
  obtain ⟨ok, eok⟩ : ∃ ok : Int × Int → Prop, ∀ p, ok p ↔ GuessInv r2 r1 r0 d1 d0 p.1 p.2 := ⟨_, fun _ => Iff.rfl⟩
  have hd := I.d1b
  refine callsA_of hG hm Tryz.func79 (by kernel_rfl) ?_
  intro E hE lp hl
  cbv
  repeat' (first
    | (refine E_br hE (fun h => ?_) (fun h => ?_) <;> cbv)
    | (refine E_nm hE (fun v hv => ?_); cbv)
    | (refine E_nilS hE (fun b hb => ?_); cbv)
    | fail)
  · subst hE; have h' : IntKind.u64.wrap d1 = 0 := eql_t h; rw [wu64_id (by omega) (by omega)] at h'; omega
  · subst hE; have h' : IntKind.u64.wrap d1 = 0 := eql_t h; rw [wu64_id (by omega) (by omega)] at h'; omega
  rename_i t et _ q eq
  refine E_loop hE hG hm hl (guessS r2 r1 r0 d1 d0 t) m ok ⟨(q, v), (eok _).2 ?_, stLe rfl ?_⟩ ?_
  · subst hE; exact guess_start I et eq hv
  · (repeat' (first | exact t_nil | apply t_cons | exact u2_sli | exact u2_int | exact u2_bool | exact u2_ms | exact u2_ptr | exact (rfl : sle2 .s0 .s0)))
  clear eq hv et
  rintro ⟨q, left⟩ hok
  have inv : GuessInv r2 r1 r0 d1 d0 q left := (eok _).1 hok
  clear hok
  cbv
  repeat' (first
    | (refine E_br hE (fun h => ?_) (fun h => ?_) <;> cbv)
    | (refine E_nm hE (fun v hv => ?_); cbv)
    | (refine E_nilS hE (fun b hb => ?_); cbv)
    | fail)
  all_goals (try (rename_i q' eq'; refine ⟨(q', v), ?_, ?_, stLe rfl ?_⟩))
  all_goals (try ((repeat' (first | exact t_nil | apply t_cons | exact u2_sli | exact u2_int | exact u2_bool | exact u2_ms | exact u2_ptr | exact (rfl : sle2 .s0 .s0))); done))
  all_goals (subst hE)
  all_goals (first
    | (rw [em, em]; exact (guess_step I inv (by first | exact .inl (gtr_t ‹_›) | exact .inr ⟨gtr_f ‹_›, gtr_t ‹_›⟩) ‹_› ‹_› (gtr_f ‹_›)).1)
    | (rw [eok]; exact (guess_step I inv (by first | exact .inl (gtr_t ‹_›) | exact .inr ⟨gtr_f ‹_›, gtr_t ‹_›⟩) ‹_› ‹_› (gtr_f ‹_›)).2)
    | (rw [← hr, hv]; exact guess_brk I inv (by first | exact .inl (gtr_t ‹_›) | exact .inr ⟨gtr_f ‹_›, gtr_t ‹_›⟩) ‹_› ‹_› (gtr_t ‹_›))
    | (rw [← hr, hv]; exact guess_done I inv (gtr_f ‹_›) (gtr_f ‹_›)))

end Go.Proofs.YtaiillbjhdoikaaGreat.Ev

/- The steps of a long division, as the words of the program reckon them. -/
namespace Go.Proofs.YtaiillbjhdoikaaGreat.Ev
open Go

theorem less_next {r0 d r : List Int} {q at_ i carry borrow : Int} (hd : Lb d) (hq : 0 ≤ q ∧ q < 4294967296) (hlr : r0.length < 134217728) (h1 : 0 ≤ i) (h2 : i < d.length) (ha : 0 ≤ at_) (hat : at_ + d.length < r0.length)
    (inv : LessInv r0 d q at_.toNat r i.toNat carry borrow) {i' y v b' j : Int} {t : Int × Int} (ei : i' = i) (ey : y = d.getD i.toNat 0)
    (ev : v = intBinR .add .u64 (intBinR .mul .u64 (IntKind.u64.wrap y) (IntKind.u64.wrap q)) carry)
    (et : t = ((r.getD (intBinR .add .i64 at_ i').toNat 0 - IntKind.u32.wrap v - borrow) % 4294967296, if r.getD (intBinR .add .i64 at_ i').toNat 0 < IntKind.u32.wrap v + borrow then 1 else 0))
    (eb : b' = t.2) (ej : j = intBinR .add .i64 i 1) {c' : Int} (ec : c' = intBinR .shr .u64 v 32) :
    0 ≤ j ∧ j ≤ d.length ∧ ((d.length : Int) - j).toNat < ((d.length : Int) - i).toNat ∧ LessInv r0 d q at_.toNat (r.set (intBinR .add .i64 at_ i').toNat t.1) j.toNat c' b' := by
  have hy := hd.getD i.toNat
  subst ei
  have st := inv.step hd hq (by omega)
  rw [← ey] at st hy
  have c0 := inv.c0
  have c1 := inv.c1
  have e := less_digit hy hq ⟨c0, c1⟩
  have eai : (intBinR .add .i64 at_ i').toNat = at_.toNat + i'.toNat := by
    show (IntKind.i64.wrap (at_ + i')).toNat = _
    rw [wi64_id (by omega) (by omega)]; omega
  have ej' : j = i' + 1 := by rw [ej]; show IntKind.i64.wrap (i' + 1) = _; rw [wi64_id (by omega) (by omega)]
  have ev' : v = y * q + carry := by
    rw [ev, wu64_id hy.1 (by omega), wu64_id hq.1 (by omega)]
    have : intBinR .mul .u64 y q = y * q := wu64_id e.1 (by omega)
    rw [this]
    exact wu64_id (by omega) (by omega)
  have ec' : c' = v / 4294967296 := by rw [ec]; exact shr32 v
  rw [eai] at et ⊢
  rw [wu32, ev'] at et
  rw [eb, et, ec', ev', ej', show (i' + 1).toNat = i'.toNat + 1 by omega]
  exact ⟨by omega, by omega, by omega, st⟩

/-- what a guess times the divisor taken away leaves -/
structure LessR (r0 d : List Int) (q : Int) (at_ : Nat) (r : List Int) (b : Bool) : Prop where
  len : r.length = r0.length
  lb : Lb r
  same : ∀ j, at_ + d.length + 1 ≤ j → r.getD j 0 = r0.getD j 0
  val : lv r + 4294967296 ^ at_ * (q.toNat * lv d) = lv r0 + (if b then 4294967296 ^ (at_ + d.length + 1) else 0)

theorem less_stop {r0 d r : List Int} {q at_ i carry borrow : Int} (hlr : r0.length < 134217728) (h2 : i ≤ d.length) (h3 : ¬ i < d.length) (ha : 0 ≤ at_) (hat : at_ + d.length < r0.length)
    (inv : LessInv r0 d q at_.toNat r i.toNat carry borrow) {b' : Int} {b : Bool} {t : Int × Int}
    (et : t = ((r.getD (intBinR .add .i64 at_ d.length).toNat 0 - IntKind.u32.wrap carry - borrow) % 4294967296, if r.getD (intBinR .add .i64 at_ d.length).toNat 0 < IntKind.u32.wrap carry + borrow then 1 else 0))
    (eb : b' = t.2) (e : b = cmpR .neq b' 0) : LessR r0 d q at_.toNat (r.set (intBinR .add .i64 at_ d.length).toNat t.1) b := by
  have c0 := inv.c0
  have c1 := inv.c1
  rw [show i.toNat = d.length by omega] at inv
  obtain ⟨k1, k2, k3, k4⟩ := inv.stop (by omega)
  have eai : (intBinR .add .i64 at_ d.length).toNat = at_.toNat + d.length := by
    show (IntKind.i64.wrap (at_ + d.length)).toNat = _
    rw [wi64_id (by omega) (by omega)]; omega
  rw [eai] at et ⊢
  rw [wu32, Int.emod_eq_of_lt c0 c1] at et
  have e1 : t.1 = (r.getD (at_.toNat + d.length) 0 - carry - borrow) % 4294967296 := by rw [et]
  have e2 : b' = if r.getD (at_.toNat + d.length) 0 < carry + borrow then 1 else 0 := by rw [eb, et]
  rw [e1]
  refine ⟨k1, k2, k3, ?_⟩
  rw [k4]
  congr 1
  rw [e, e2]
  split
  · simp [cmpR]
  · simp [cmpR]

theorem more_next {r0 d r : List Int} {at_ i c : Int} (hd : Lb d) (hlr : r0.length < 134217728) (h1 : 0 ≤ i) (h2 : i < d.length) (ha : 0 ≤ at_) (hat : at_ + d.length < r0.length)
    (inv : MoreInv r0 d at_.toNat r i.toNat c) {i' y c' j : Int} {t : Int × Int} (ei : i' = i) (ey : y = d.getD i.toNat 0)
    (et : t = ((r.getD (intBinR .add .i64 at_ i').toNat 0 + y + c) % 4294967296, (r.getD (intBinR .add .i64 at_ i').toNat 0 + y + c) / 4294967296))
    (ec : c' = t.2) (ej : j = intBinR .add .i64 i 1) :
    0 ≤ j ∧ j ≤ d.length ∧ ((d.length : Int) - j).toNat < ((d.length : Int) - i).toNat ∧ MoreInv r0 d at_.toNat (r.set (intBinR .add .i64 at_ i').toNat t.1) j.toNat c' := by
  subst ei
  have st := inv.step hd (by omega)
  rw [← ey] at st
  have eai : (intBinR .add .i64 at_ i').toNat = at_.toNat + i'.toNat := by
    show (IntKind.i64.wrap (at_ + i')).toNat = _
    rw [wi64_id (by omega) (by omega)]; omega
  have ej' : j = i' + 1 := by rw [ej]; show IntKind.i64.wrap (i' + 1) = _; rw [wi64_id (by omega) (by omega)]
  rw [eai] at et ⊢
  rw [ec, et, ej', show (i' + 1).toNat = i'.toNat + 1 by omega]
  exact ⟨by omega, by omega, by omega, st⟩

structure MoreR (r0 d : List Int) (at_ : Nat) (r : List Int) : Prop where
  len : r.length = r0.length
  lb : Lb r
  same : ∀ j, at_ + d.length + 1 ≤ j → r.getD j 0 = r0.getD j 0
  val : ∃ c : Int, 0 ≤ c ∧ c ≤ 1 ∧ lv r + 4294967296 ^ (at_ + d.length + 1) * c.toNat = lv r0 + 4294967296 ^ at_ * lv d

theorem more_stop {r0 d r : List Int} {at_ i c : Int} (hlr : r0.length < 134217728) (h2 : i ≤ d.length) (h3 : ¬ i < d.length) (ha : 0 ≤ at_) (hat : at_ + d.length < r0.length)
    (inv : MoreInv r0 d at_.toNat r i.toNat c) {v : Int} (ev : v = intBinR .add .u32 (r.getD (intBinR .add .i64 at_ d.length).toNat 0) c) : MoreR r0 d at_.toNat (r.set (intBinR .add .i64 at_ d.length).toNat v) := by
  have c0 := inv.c0
  have c1 := inv.c1
  rw [show i.toNat = d.length by omega] at inv
  have hx := inv.lb.getD (at_.toNat + d.length)
  obtain ⟨k1, k2, k3, k4⟩ := inv.stop (by omega)
  have eai : (intBinR .add .i64 at_ d.length).toNat = at_.toNat + d.length := by
    show (IntKind.i64.wrap (at_ + d.length)).toNat = _
    rw [wi64_id (by omega) (by omega)]; omega
  rw [eai] at ev ⊢
  have ev' : v = (r.getD (at_.toNat + d.length) 0 + c) % 4294967296 := by rw [ev]; exact wu32 _
  rw [ev']
  exact ⟨k1, k2, k3, _, by omega, by omega, k4⟩
end Go.Proofs.YtaiillbjhdoikaaGreat.Ev

/- Calls that write the caller's memory, or hand back memory that they have made: contracts of them. -/
namespace Go.Proofs.YtaiillbjhdoikaaGreat.Ev
open Go Go.RowKit
set_option linter.unusedVariables false
set_option linter.unusedSimpArgs false
variable {P : Program} {G : Nat → TI}

/-- A result and the memory behind the call, told under other names; the first n0 blocks keep theirs. -/
def ResLe (n0 : Nat) (ρ : List Nat) (v : AV) (h : List Blk) (r : AV) (h' : List Blk) : Prop :=
  blksM ρ h ρ h' ∧ apartN ρ h' [] = true ∧ idPre ρ n0 = true ∧ n0 ≤ lenB h' ∧ blksIn (lenB h') h' ∧ AVle v (rn3 ρ r) ∧ in3 (lenB h') r = true

theorem callsH_named {f : FuncId} {args : List AV} {h : List Blk} {K K' : AV → List Blk → Prop} (hC : CallsH P f args h K')
    (hK : ∀ v h1, K' v h1 → ∃ ρ r h2, ResLe (lenB h) ρ v h1 r h2 ∧ K r h2) : CallsH P f args h K := by
  intro base O0 μ w vals H hl ha
  refine (hC base O0 μ w vals H hl ha).mono ?_
  rintro e w' ⟨val, v, h1, μ1, rfl, hk, hv, H1, X1, hB⟩
  obtain ⟨ρ, r, h2, ⟨q1, q2, q3, q4, q5, q6, q7⟩, hr⟩ := hK v h1 hk
  have hlen := blksM_len q1
  have N : Named ρ h1 h2 := by
    refine ⟨hlen, fun b x hb hx => ?_, (apartN_at q2 hlen).2, q5⟩
    have := blksM_at q1 hb hx
    exact getBlk_some this (rnB_dead hx)
  refine ⟨val, r, h2, fun b => μ1 (nth0 ρ b), rfl, hr, rel_named N (q6 _ _ hv) q7, H1.named N, ?_, hB⟩
  rw [lenB_eq] at q3
  rw [lenB_eq, lenB_eq] at q4
  refine ⟨fun n hn => N.ok (X1.o n hn), fun b hb => ?_, by simp only [mkX]; omega, fun b hb n hn => ?_, X1.cell, X1.shape⟩
  · have := idPre_at q3 b (by simpa only [mkX] using hb)
    show μ1 (nth0 ρ b) = _
    rw [this]
    exact X1.mu b hb
  · have := idPre_at q3 b (by simpa only [mkX] using hb)
    have hd := N.dim hn
    rw [this] at hd
    exact X1.dim b hb n hd

theorem callsH_mono {f : FuncId} {args : List AV} {h : List Blk} {K K' : AV → List Blk → Prop} (hC : CallsH P f args h K') (hK : ∀ v h1, K' v h1 → K v h1) : CallsH P f args h K := by
  intro base O0 μ w vals H hl ha
  refine (hC base O0 μ w vals H hl ha).mono ?_
  rintro e w' ⟨val, v, h1, μ1, rfl, hk, hr⟩
  exact ⟨val, v, h1, μ1, rfl, hK v h1 hk, hr⟩

/-- A contract of a call over memory, out of a run. -/
theorem callsH_of (hG : GOK P G) (hm : P.follows .mixedOrders = true) {f : FuncId} {fn : Func} (hf : P.funcs[f]? = some fn) {args : List AV} (ho : fnOK fn args.length = true)
    {h : List Blk} {K : AV → List Blk → Prop} (hv : ∀ E, E = realE P → ∀ lp, Loops P fn.ntmps lp → evF E G lp fn args h K) : CallsH P f args h K :=
  E_in rfl hG hm hf ho (fz := none) (fun lp hl => hv _ rfl lp hl)

theorem E_callH {E : Env} (hE : E = realE P) {f : FuncId} {args : List AV} {h : List Blk} {K K' : AV → List Blk → Prop} {fz : Option (List AV × List Blk)} (hC : CallsH P f args h K') (hK : ∀ v h1, K' v h1 → K v h1) : E.call f args h fz K := by
  subst hE; exact callsH_mono hC hK
end Go.Proofs.YtaiillbjhdoikaaGreat.Ev

/- Contracts: a guess times the divisor taken away, and given back: both write the caller's memory. Printed by gen.py. -/
namespace Go.Proofs.YtaiillbjhdoikaaGreat.Ev
open Go Go.Proofs
set_option linter.unusedVariables false
set_option linter.unusedSimpArgs false


attribute [local irreducible] Lb
def lessS (E : Env) (d z Q : List Int) (q at_ n : Int) : Int × Int × Int × List Int → St := fun p => ⟨[(0, .ms 2 1 (.l 0) (.s n)), (1, .sli .u32 d), (2, .int .u32 (.s q)), (3, .int .i64 (.s at_)), (9, .int .u32 (.s p.2.2.1)), (10, .int .u64 (.s p.2.1)), (14, .sli .u32 d), (15, .int .i64 (.s (E.len d))), (16, .int .i64 (.s p.1))],
  [.dead, .ints true .u32 z, .ints true .u32 p.2.2.2, .ints true .u32 Q]⟩
set_option maxHeartbeats 2000000 in
theorem h_less (d z R Q : List Int) (q at_ n : Int) (hd : Lb d) (hR : Lb R) (hq : 0 ≤ q ∧ q < 4294967296) (hlr : R.length < 134217728) (ha : 0 ≤ at_) (hat : at_ + d.length < R.length) (hn : at_ + d.length < n) (hn2 : n ≤ R.length) :
    CallsH Tryz.prog 80 [.ms 2 1 (.l 0) (.s n), .sli .u32 d, .int .u32 (.s q), .int .i64 (.s at_)] [.dead, .ints true .u32 z, .ints true .u32 R, .ints true .u32 Q]
      (fun v h => ∃ r b, v = .bool (.s b) ∧ h = [.dead, .ints true .u32 z, .ints true .u32 r, .ints true .u32 Q] ∧ LessR R d q at_.toNat r b) := by
  obtain ⟨m, em⟩ : ∃ m : Int × Int × Int × List Int → Nat, ∀ p, m p = (d.length - p.1).toNat := ⟨_, fun _ => rfl⟩
  obtain ⟨ok, eok⟩ : ∃ ok : Int × Int × Int × List Int → Prop, ∀ p, ok p ↔ 0 ≤ p.1 ∧ p.1 ≤ d.length ∧ LessInv R d q at_.toNat p.2.2.2 p.1.toNat p.2.1 p.2.2.1 := ⟨_, fun _ => Iff.rfl⟩
  refine callsH_of hG hm Tryz.func80 (by kernel_rfl) ?_
  intro E hE lp hl
  cbv
  repeat' (first
    | (refine E_br hE (fun h => ?_) (fun h => ?_) <;> cbv)
    | (refine E_nm hE (fun v hv => ?_); cbv)
    | (refine E_nilS hE (fun b hb => ?_); cbv)
    | fail)
  refine E_loop hE hG hm hl (lessS E d z Q q at_ n) m ok ⟨(0, 0, 0, R), (eok _).2 ⟨by show (0 : Int) ≤ 0; omega, by show (0 : Int) ≤ d.length; omega, LessInv.start d q at_.toNat hR⟩, stLe rfl ?_⟩ ?_
  · (repeat' (first | exact t_nil | apply t_cons | exact u2_sli | exact u2_int | exact u2_bool | exact u2_ms | exact u2_ptr | exact (rfl : sle2 .s0 .s0)))
  rintro ⟨i, carry, borrow, r⟩ hok
  have h1 : 0 ≤ i := ((eok _).1 hok).1
  have h2 : i ≤ d.length := ((eok _).1 hok).2.1
  have inv : LessInv R d q at_.toNat r i.toNat carry borrow := ((eok _).1 hok).2.2
  have lr := inv.lb
  have hol := inv.len
  have b0 := inv.b0
  have b1 := inv.b1
  have w1 : ∀ x : Int, 0 ≤ IntKind.u32.wrap x := fun x => by rw [wu32]; omega
  have w2 : ∀ x : Int, IntKind.u32.wrap x < 4294967296 := fun x => by rw [wu32]; omega
  clear hok
  cbv
  repeat' (first
    | (refine E_br hE (fun h => ?_) (fun h => ?_) <;> cbv)
    | (refine E_nm hE (fun v hv => ?_); cbv)
    | (refine E_nilS hE (fun b hb => ?_); cbv)
    | (apply E_callX hE (c_Sub32 _ _ _ ?_ ?_ ?_ ?_ ?_ ?_); (case hf => rfl); (case hc => (cbv <;> trivial)); (case hle => exact u_up); all_goals (first | (intro t ht; cbv) | (((try simp only [SI.val]); first | omega | (subst hE; first | exact (lr.getD _).1 | exact (lr.getD _).2 | exact w1 _ | exact w2 _)))))
    | fail)
  all_goals (try (rename_i c' ec _ _ _; refine ⟨(E.bin .add .i64 i 1, c', v, E.set r (E.bin .add .i64 at_ _) t.1), ?_, ?_, stLe rfl ?_⟩))
  all_goals (try ((repeat' (first | exact t_nil | apply t_cons | exact u2_sli | exact u2_int | exact u2_bool | exact u2_ms | exact u2_ptr | exact (rfl : sle2 .s0 .s0))); done))
  all_goals (subst hE)
  all_goals (try (first
    | (rw [em, em]; exact (less_next hd hq hlr h1 (lss_t ‹_›) ha hat inv ‹_ = i› ‹_› ‹_› ‹t = _› ‹_› rfl ‹_›).2.2.1)
    | (rw [eok]; have q := less_next hd hq hlr h1 (lss_t ‹_›) ha hat inv ‹_ = i› ‹_› ‹_› ‹t = _› ‹_› rfl ‹_›; exact ⟨q.1, q.2.1, q.2.2.2⟩)
    | exact ⟨_, _, rfl, rfl, less_stop hlr h2 (lss_f ‹_›) ha hat inv ‹t = _› ‹_› rfl⟩))
  all_goals (clear inv eok em w1 w2; simp only [NatCast.natCast, Int.ofNat_eq_natCast, realE, cmp_eql, cmp_neq, cmp_lss, cmp_leq, cmp_gtr, cmp_geq, intBinR, decide_eq_true_eq, decide_eq_false_iff_not, SI.val, SB.val, Num.eta, Iv.eta] at *; (try simp only [wi64] at *); subst_vars; omega)

def moreS (E : Env) (d z Q : List Int) (at_ n : Int) : Int × Int × List Int → St := fun p => ⟨[(0, .ms 2 1 (.l 0) (.s n)), (1, .sli .u32 d), (2, .int .i64 (.s at_)), (6, .int .u32 (.s p.2.1)), (9, .sli .u32 d), (10, .int .i64 (.s (E.len d))), (11, .int .i64 (.s p.1))],
  [.dead, .ints true .u32 z, .ints true .u32 p.2.2, .ints true .u32 Q]⟩
set_option maxHeartbeats 2000000 in
theorem h_more (d z R Q : List Int) (at_ n : Int) (hd : Lb d) (hR : Lb R) (hlr : R.length < 134217728) (ha : 0 ≤ at_) (hat : at_ + d.length < R.length) (hn : at_ + d.length < n) (hn2 : n ≤ R.length) :
    CallsH Tryz.prog 81 [.ms 2 1 (.l 0) (.s n), .sli .u32 d, .int .i64 (.s at_)] [.dead, .ints true .u32 z, .ints true .u32 R, .ints true .u32 Q]
      (fun v h => ∃ r, v = .tup [] ∧ h = [.dead, .ints true .u32 z, .ints true .u32 r, .ints true .u32 Q] ∧ MoreR R d at_.toNat r) := by
  obtain ⟨m, em⟩ : ∃ m : Int × Int × List Int → Nat, ∀ p, m p = (d.length - p.1).toNat := ⟨_, fun _ => rfl⟩
  obtain ⟨ok, eok⟩ : ∃ ok : Int × Int × List Int → Prop, ∀ p, ok p ↔ 0 ≤ p.1 ∧ p.1 ≤ d.length ∧ MoreInv R d at_.toNat p.2.2 p.1.toNat p.2.1 := ⟨_, fun _ => Iff.rfl⟩
  refine callsH_of hG hm Tryz.func81 (by kernel_rfl) ?_
  intro E hE lp hl
  cbv
  repeat' (first
    | (refine E_br hE (fun h => ?_) (fun h => ?_) <;> cbv)
    | (refine E_nm hE (fun v hv => ?_); cbv)
    | (refine E_nilS hE (fun b hb => ?_); cbv)
    | fail)
  refine E_loop hE hG hm hl (moreS E d z Q at_ n) m ok ⟨(0, 0, R), (eok _).2 ⟨by show (0 : Int) ≤ 0; omega, by show (0 : Int) ≤ d.length; omega, MoreInv.start d at_.toNat hR⟩, stLe rfl ?_⟩ ?_
  · (repeat' (first | exact t_nil | apply t_cons | exact u2_sli | exact u2_int | exact u2_bool | exact u2_ms | exact u2_ptr | exact (rfl : sle2 .s0 .s0)))
  rintro ⟨i, c, r⟩ hok
  have h1 : 0 ≤ i := ((eok _).1 hok).1
  have h2 : i ≤ d.length := ((eok _).1 hok).2.1
  have inv : MoreInv R d at_.toNat r i.toNat c := ((eok _).1 hok).2.2
  have lr := inv.lb
  have hol := inv.len
  have c0 := inv.c0
  have c1 := inv.c1
  have g1 : ∀ v, v = E.get d i → 0 ≤ v := by subst hE; intro v e; rw [e]; exact (hd.getD _).1
  have g2 : ∀ v, v = E.get d i → v < 4294967296 := by subst hE; intro v e; rw [e]; exact (hd.getD _).2
  clear hok
  cbv
  repeat' (first
    | (refine E_br hE (fun h => ?_) (fun h => ?_) <;> cbv)
    | (refine E_nm hE (fun v hv => ?_); cbv)
    | (refine E_nilS hE (fun b hb => ?_); cbv)
    | (apply E_callX hE (c_Add32 _ _ _ ?_ ?_ ?_ ?_ ?_ ?_); (case hf => rfl); (case hc => (cbv <;> trivial)); (case hle => exact u_up); all_goals (first | (intro t ht; cbv) | (((try simp only [SI.val]); first | omega | exact g1 _ ‹_› | exact g2 _ ‹_› | (subst hE; first | exact (lr.getD _).1 | exact (lr.getD _).2)))))
    | fail)
  all_goals (try (refine ⟨(E.bin .add .i64 i 1, v, E.set r (E.bin .add .i64 at_ _) t.1), ?_, ?_, stLe rfl ?_⟩))
  all_goals (try ((repeat' (first | exact t_nil | apply t_cons | exact u2_sli | exact u2_int | exact u2_bool | exact u2_ms | exact u2_ptr | exact (rfl : sle2 .s0 .s0))); done))
  all_goals (subst hE)
  all_goals (try (first
    | (rw [em, em]; exact (more_next hd hlr h1 (lss_t ‹_›) ha hat inv ‹_ = i› ‹_› ‹t = _› ‹_› rfl).2.2.1)
    | (rw [eok]; have q := more_next hd hlr h1 (lss_t ‹_›) ha hat inv ‹_ = i› ‹_› ‹t = _› ‹_› rfl; exact ⟨q.1, q.2.1, q.2.2.2⟩)
    | exact ⟨_, rfl, rfl, more_stop hlr h2 (lss_f ‹_›) ha hat inv rfl⟩))
  all_goals (clear inv eok em g1 g2; simp only [NatCast.natCast, Int.ofNat_eq_natCast, realE, cmp_eql, cmp_neq, cmp_lss, cmp_leq, cmp_gtr, cmp_geq, intBinR, decide_eq_true_eq, decide_eq_false_iff_not, SI.val, SB.val, Num.eta, Iv.eta] at *; (try simp only [wi64] at *); subst_vars; omega)
  all_goals trace_state

end Go.Proofs.YtaiillbjhdoikaaGreat.Ev

/- Contracts: limbs shifted, into memory that the caller writes. Printed by gen.py. -/
namespace Go.Proofs.YtaiillbjhdoikaaGreat.Ev
open Go Go.Proofs
set_option linter.unusedVariables false
set_option linter.unusedSimpArgs false


attribute [local irreducible] Lb
set_option maxHeartbeats 1000000 in
theorem h_cut (L : List Int) (n : Int) (hL : Lb L) (hl : L.length < 268435456) (hn : n = L.length) :
    CallsH Tryz.prog 52 [.ms 0 1 (.l 0) (.s n)] [.ints true .u32 L] (fun v h => ∃ k : Int, v = .ms 0 1 (.l 0) (.s k) ∧ h = [.ints true .u32 L] ∧ 0 ≤ k ∧ k ≤ L.length ∧ L.take k.toNat = lim (lv L)) := by
  obtain ⟨m, em⟩ : ∃ m : Int → Nat, ∀ p, m p = p.toNat := ⟨_, fun _ => rfl⟩
  obtain ⟨ok, eok⟩ : ∃ ok : Int → Prop, ∀ p, ok p ↔ 0 ≤ p ∧ p ≤ L.length ∧ lv (L.take p.toNat) = lv L := ⟨_, fun _ => Iff.rfl⟩
  have s0 : 0 ≤ n ∧ n ≤ L.length ∧ lv (L.take n.toNat) = lv L := ⟨by omega, by omega, by rw [hn, Int.toNat_natCast, List.take_length]⟩
  refine callsH_of hG hm Tryz.func52 (by kernel_rfl) ?_
  intro E hE lp hl'
  cbv
  refine E_loop hE hG hm hl' (fun p : Int => (⟨[(0, .ms 0 1 (.l 0) (.s p)), (2, .s0)], [.ints true .u32 L]⟩ : St)) m ok ⟨n, (eok _).2 s0, stLe rfl ?_⟩ ?_
  · (repeat' (first | exact t_nil | apply t_cons | exact u2_sli | exact u2_int | exact u2_bool | exact u2_ms | exact u2_ptr | exact (rfl : sle2 .s0 .s0)))
  intro k hok
  have h1 : 0 ≤ k := ((eok _).1 hok).1
  have h2 : k ≤ L.length := ((eok _).1 hok).2.1
  have h3 : lv (L.take k.toNat) = lv L := ((eok _).1 hok).2.2
  have next : ∀ j : Int, 0 < k → j = intBinR .sub .i64 k 1 → L.getD j.toNat 0 = 0 → 0 ≤ j ∧ j ≤ L.length ∧ j.toNat < k.toNat ∧ lv (L.take j.toNat) = lv L := by
    intro j h0 hj hz
    have hj' : j = k - 1 := by rw [hj]; exact wi64_id (by omega) (by omega)
    refine ⟨by omega, by omega, by omega, ?_⟩
    rw [show j.toNat = k.toNat - 1 by omega] at hz ⊢
    rw [lv_cut_step (by omega) (by omega) hz, h3]
  have fin : (k = 0 ∨ L.getD (intBinR .sub .i64 k 1).toNat 0 ≠ 0) → L.take k.toNat = lim (lv L) := by
    intro h
    refine cut_end hL (by omega) ?_ h3
    rcases h with h | h
    · exact .inl (by omega)
    · rcases Int.lt_or_le 0 k with h0 | h0
      · have e : intBinR .sub .i64 k 1 = k - 1 := wi64_id (by omega) (by omega)
        rw [e, show (k - 1).toNat = k.toNat - 1 by omega] at h
        exact .inr h
      · exact .inl (by omega)
  clear hok
  cbv
  repeat' (first
    | (refine E_br hE (fun h => ?_) (fun h => ?_) <;> cbv)
    | (refine E_nm hE (fun v hv => ?_); cbv)
    | (refine E_nilS hE (fun b hb => ?_); cbv)
    | fail)
  all_goals (try (refine ⟨E.bin .sub .i64 k 1, ?_, ?_, stLe rfl ?_⟩))
  all_goals (try ((repeat' (first | exact t_nil | apply t_cons | exact u2_sli | exact u2_int | exact u2_bool | exact u2_ms | exact u2_ptr | exact (rfl : sle2 .s0 .s0))); done))
  all_goals (subst hE)
  all_goals (try (first
    | (rw [em, em]; exact (next _ (gtr_t ‹_›) rfl (eql_t ‹_›)).2.2.1)
    | (rw [eok]; have q := next _ (gtr_t ‹_›) rfl (eql_t ‹_›); exact ⟨q.1, q.2.1, q.2.2.2⟩)
    | exact ⟨k, rfl, rfl, h1, h2, fin (.inr (eql_f ‹_›))⟩
    | exact ⟨k, rfl, rfl, h1, h2, fin (.inl (by have := gtr_f ‹_›; omega))⟩))
  all_goals (clear next fin eok em s0; simp only [NatCast.natCast, Int.ofNat_eq_natCast, realE, cmp_eql, cmp_neq, cmp_lss, cmp_leq, cmp_gtr, cmp_geq, intBinR, decide_eq_true_eq, decide_eq_false_iff_not, SI.val, SB.val, Num.eta, Iv.eta] at *; (try simp only [wi64] at *); omega)

theorem h_Clone (a : List Int) (ha : 0 < a.length) (hl : a.length ≤ 268435456) :
    CallsH Tryz.prog 53 [.sli .u32 a] [] (fun v h => ∃ L k, v = .ms 0 1 (.l 0) (.s k) ∧ h = [.ints true .u32 L] ∧ k = (a.length : Int) ∧ L = a) := by
  refine callsH_named (callsH_of (K := fun v h => ∃ L k, v = .ms 1 1 (.l 0) (.s k) ∧ h = [.dead, .ints true .u32 L] ∧ k = (a.length : Int) ∧ L = a) hG hm Tryz.func53 (by kernel_rfl) ?_) ?_
  · intro E hE lp hl'
    cbv
    repeat' (first
    | (refine E_br hE (fun h => ?_) (fun h => ?_) <;> cbv)
    | (refine E_nm hE (fun v hv => ?_); cbv)
    | (refine E_nilS hE (fun b hb => ?_); cbv)
    | fail)
    all_goals (subst hE)
    · exfalso; have := hb h; simp only [realE] at this; omega
    · exact ⟨_, _, rfl, rfl, rfl, rfl⟩
    · have := leq_f h; simp only [realE] at this; omega
  · rintro v h ⟨L, k, rfl, rfl, hk, hL⟩
    exact ⟨[1], .ms 0 1 (.l 0) (.s k), [.ints true .u32 L], ⟨⟨rfl, trivial⟩, rfl, rfl, Nat.zero_le _, trivial, ms_le rfl rfl, rfl⟩, L, k, rfl, rfl, hk, hL⟩
set_option maxHeartbeats 1000000 in
theorem h_Shl (a : List Int) (n : Int) (ha : Lb a) (hla : a.length < 67108864) (ha0 : 0 < lv a) (hn0 : 0 ≤ n) (hn1 : n ≤ 16777216) :
    CallsH Tryz.prog 31 [.sli .u32 a, .int .i64 (.s n)] [] (fun v h => ∃ L k, v = .ms 0 1 (.l 0) (.s k) ∧ h = [.ints true .u32 L] ∧ 0 ≤ k ∧ k ≤ L.length ∧ L.take k.toNat = lim (lv a * 2 ^ n.toNat) ∧ L.length ≤ 134217728) := by
  generalize hr : lim (lv a * 2 ^ n.toNat) = r
  have hlx := lim_length_le' ha
  have hx := lim_lb (lv a)
  have vx := lv_lim (lv a)
  obtain ⟨x, ex⟩ : ∃ x, lim (lv a) = x := ⟨_, rfl⟩
  rw [ex] at hlx hx vx
  have hx0 : 0 < x.length := by
    rcases Nat.eq_zero_or_pos x.length with h | h
    · rw [List.length_eq_zero_iff.1 h] at vx; simp only [lv] at vx; omega
    · exact h
  obtain ⟨m, em⟩ : ∃ m : Int × List Int → Nat, ∀ p, m p = (x.length - p.1).toNat := ⟨_, fun _ => rfl⟩
  obtain ⟨ok, eok⟩ : ∃ ok : Int × List Int → Prop, ∀ p, ok p ↔ 0 ≤ p.1 ∧ p.1 ≤ x.length ∧ ShlInv x p.2 (n / 32).toNat (n % 32).toNat p.1.toNat := ⟨_, fun _ => Iff.rfl⟩
  have eN : ∀ l : Int, 1 ≤ n → n ≤ 16777216 → l = intBinR .quo .i64 n 32 → IntKind.i64.wrap (IntKind.i64.wrap ((x.length : Int) + l) + 1) = x.length + n / 32 + 1 := by
    intro l n1 n2 el
    have : l = n / 32 := by rw [el]; exact quo32 (by omega) (by omega)
    rw [this, wi64_id (n := (x.length : Int) + n / 32) (by omega) (by omega), wi64_id (by omega) (by omega)]
  refine callsH_of hG hm Tryz.func31 (by kernel_rfl) ?_
  intro E hE lp hl
  cbv
  (apply E_callX hE (c_cut a ha (by omega)); (case hf => rfl); (case hc => (cbv <;> trivial)); (case hle => exact ⟨u2_sli, trivial⟩); intro x' hx'; cbv)
  rw [hx'.trans ex]
  clear hx' x'
  refine E_br hE (fun h => ?_) (fun h => ?_)
  · have e : x = r := by subst hE; have := lss_t h; rw [← hr, show n.toNat = 0 by omega, Nat.pow_zero, Nat.mul_one, ex]
    cbv
    refine E_callH hE (h_Clone x hx0 (by omega)) ?_
    rintro v h1 ⟨L, k, rfl, rfl, hk, hL⟩
    cbv
    exact ⟨L, k, rfl, rfl, by rw [hk]; exact Int.natCast_nonneg _, by rw [hk, hL]; exact Int.le_refl _, by rw [hk, hL, Int.toNat_natCast, List.take_length]; exact e, by rw [hL]; omega⟩
  have n1 : 1 ≤ n := by subst hE; have := lss_f h; omega
  cbv
  repeat' (first
    | (refine E_br hE (fun h => ?_) (fun h => ?_) <;> cbv)
    | (refine E_nm hE (fun v hv => ?_); cbv)
    | (refine E_nilS hE (fun b hb => ?_); cbv)
    | fail)
  · exfalso; subst hE; have := gtr_t ‹_›; omega
  · exfalso
    have e0 : x.length = 0 := by subst hE; have := eql_t h; simp only [realE] at this; omega
    omega
  all_goals (have n2 : n ≤ 16777216 := (by subst hE; have := gtr_f ‹(realE Tryz.prog).cmp .gtr n 16777216 = false›; omega))
  all_goals (try (exfalso; have := eN _ n1 n2 (by subst hE; assumption); subst hE; simp only [NatCast.natCast, Int.ofNat_eq_natCast, realE, cmp_eql, cmp_neq, cmp_lss, cmp_leq, cmp_gtr, cmp_geq, intBinR, decide_eq_true_eq, decide_eq_false_iff_not, SI.val, SB.val, Num.eta, Iv.eta] at *; rw [this] at *; omega))
  rename_i l el _ _
  replace eN := eN l n1 n2 (by subst hE; exact el)
  simp only [NatCast.natCast, Int.ofNat_eq_natCast] at eN
  have er := hv
  have l1 : l = n / 32 := by subst hE; rw [el]; exact quo32 (by omega) (by omega)
  have r1 : 0 ≤ v := by
    have : v = n % 32 := by subst hE; rw [hv]; exact rem32 (by omega)
    omega
  clear hv
  refine E_loop hE hG hm hl (shlS E x l v) m ok ⟨(0, E.rep (E.bin .add .i64 (E.bin .add .i64 (E.len x) l) 1)), (eok _).2 ?_, stLe rfl ?_⟩ ?_
  · refine ⟨by show (0 : Int) ≤ 0; omega, by show (0 : Int) ≤ x.length; omega, ?_⟩
    have := ShlInv.start x (n / 32).toNat (n % 32).toNat
    subst hE; simp only [NatCast.natCast, Int.ofNat_eq_natCast, realE, cmp_eql, cmp_neq, cmp_lss, cmp_leq, cmp_gtr, cmp_geq, intBinR, decide_eq_true_eq, decide_eq_false_iff_not, SI.val, SB.val, Num.eta, Iv.eta] at *; rw [eN, show ((x.length : Int) + n / 32 + 1).toNat = x.length + (n / 32).toNat + 1 by omega]
    exact this
  · (repeat' (first | exact t_nil | apply t_cons | exact u2_sli | exact u2_int | exact u2_bool | exact u2_ms | exact u2_ptr | exact (rfl : sle2 .s0 .s0)))
  rintro ⟨i, out⟩ hok
  have h1 : 0 ≤ i := ((eok _).1 hok).1
  have h2 : i ≤ x.length := ((eok _).1 hok).2.1
  have inv : ShlInv x out (n / 32).toNat (n % 32).toNat i.toNat := ((eok _).1 hok).2.2
  have hol := inv.len
  have fin : ¬ i < x.length → lim (lv out) = r := by
    intro h
    have inv' := inv
    rw [show i.toNat = x.length by omega] at inv'
    rw [inv'.stop, ← hr, vx, show 32 * (n / 32).toNat + (n % 32).toNat = n.toNat by omega]
  have lo := inv.lb
  have hol2 : out.length ≤ 134217728 := by omega
  have eNN : E.bin .add .i64 (E.bin .add .i64 (E.len x) l) 1 = (out.length : Int) := by
    subst hE; show IntKind.i64.wrap (IntKind.i64.wrap ((x.length : Int) + l) + 1) = _; rw [eN]; omega
  clear hok hr ex
  cbv
  repeat' (first
    | (refine E_br hE (fun h => ?_) (fun h => ?_) <;> cbv)
    | (refine E_nm hE (fun v hv => ?_); cbv)
    | (refine E_nilS hE (fun b hb => ?_); cbv)
    | fail)
  all_goals (try (
    refine E_callH hE (h_cut out (E.bin .add .i64 (E.bin .add .i64 (E.len x) l) 1) lo (by omega) eNN) ?_
    rintro v h1 ⟨k, rfl, rfl, k1, k2, k3⟩
    cbv
    exact ⟨out, k, rfl, rfl, k1, k2, k3.trans (fin (by subst hE; exact lss_f ‹_›)), hol2⟩))
  all_goals (try refine ⟨(E.bin .add .i64 i 1, _), ?_, ?_, stLe rfl ?_⟩)
  all_goals (try ((repeat' (first | exact t_nil | apply t_cons | exact u2_sli | exact u2_int | exact u2_bool | exact u2_ms | exact u2_ptr | exact (rfl : sle2 .s0 .s0))); done))
  all_goals (subst hE)
  all_goals (try (first | (rw [em, em]; exact (shl_next hx (by omega) n1 n2 h1 (lss_t ‹_›) inv ‹_› el er ‹_› ‹_› rfl).2.2.1) | (rw [eok]; have q := shl_next hx (by omega) n1 n2 h1 (lss_t ‹_›) inv ‹_› el er ‹_› ‹_› rfl; exact ⟨q.1, q.2.1, q.2.2.2⟩)))
  all_goals (clear inv eok em fin er el; simp only [NatCast.natCast, Int.ofNat_eq_natCast, realE, cmp_eql, cmp_neq, cmp_lss, cmp_leq, cmp_gtr, cmp_geq, intBinR, decide_eq_true_eq, decide_eq_false_iff_not, SI.val, SB.val, Num.eta, Iv.eta] at *; (try rw [eN] at *); clear eN; (try simp only [wi64] at *); omega)
end Go.Proofs.YtaiillbjhdoikaaGreat.Ev

/- A long division's start, rounds and end, as the words of the program reckon them. -/
namespace Go.Proofs.YtaiillbjhdoikaaGreat.Ev
open Go

theorem lim_length_ge {n k : Nat} (h : 0 < k) (hk : 4294967296 ^ (k - 1) ≤ n) : k ≤ (lim n).length := by
  have := lim_length_lt hk
  omega

theorem lv_ge_last {a : List Int} (h : Lb a) (hne : a ≠ []) (h0 : a.getD (a.length - 1) 0 ≠ 0) : 4294967296 ^ (a.length - 1) ≤ lv a := by
  have hl : 0 < a.length := List.length_pos_iff.2 hne
  have e := lv_take_succ (a := a) (i := a.length - 1) (by omega)
  rw [show a.length - 1 + 1 = a.length by omega, lv_take_all] at e
  have hg := h.getD (a.length - 1)
  have : 4294967296 ^ (a.length - 1) * 1 ≤ 4294967296 ^ (a.length - 1) * (a.getD (a.length - 1) 0).toNat := Nat.mul_le_mul_left _ (by omega)
  omega

/-- The divisor, moved up as far as its limbs go. -/
theorem norm_len {y : List Int} {by_ : Int} (h : Lb y) (hne : y ≠ []) (h0 : y.getD (y.length - 1) 0 ≠ 0) (e : by_ = 32 - blen (y.getD (y.length - 1) 0)) :
    0 ≤ by_ ∧ by_ < 32 ∧ (lim (lv y * 2 ^ by_.toNat)).length = y.length := by
  have hl : 0 < y.length := List.length_pos_iff.2 hne
  have hg := h.getD (y.length - 1)
  have b1 := blen_le 32 (x := y.getD (y.length - 1) 0) (by omega)
  obtain ⟨n, q1, q2, q3⟩ := blen_pos (x := y.getD (y.length - 1) 0) (by omega)
  have hb : 0 ≤ by_ ∧ by_ < 32 := by omega
  refine ⟨hb.1, hb.2, ?_⟩
  have hL := blen_len h hne h0
  have hN : blen (lv y : Int) = ((32 * (y.length - 1) + n : Nat) : Int) + 1 := by rw [hL, q1]; omega
  obtain ⟨k1, k2⟩ := (blen_nat_iff _).1 hN
  have p : (4294967296 : Nat) ^ y.length = 2 ^ (32 * (y.length - 1) + n + 1) * 2 ^ by_.toNat := by
    rw [← Nat.pow_add, show (4294967296 : Nat) = 2 ^ 32 by rfl, ← Nat.pow_mul]
    congr 1
    omega
  apply Nat.le_antisymm
  · apply lim_length_le
    rw [p]
    exact Nat.mul_lt_mul_of_pos_right k2 (Nat.two_pow_pos _)
  · apply lim_length_ge hl
    have := lv_ge_last h hne h0
    have h2 : lv y * 1 ≤ lv y * 2 ^ by_.toNat := Nat.mul_le_mul_left _ (Nat.two_pow_pos _)
    omega

theorem div_start {x y : List Int} {k : Nat} (hx : Lb x) (hy : Lb y) (hxn : x ≠ []) (hyn : y ≠ []) (hx0 : x.getD (x.length - 1) 0 ≠ 0) (hy0 : y.getD (y.length - 1) 0 ≠ 0) (hle : y.length ≤ x.length) :
    DivInv (lv x * 2 ^ k) (lv y * 2 ^ k) y.length (lim (lv x * 2 ^ k) ++ [0, 0]) (List.replicate (x.length - y.length + 1) 0) (x.length - y.length + 1) := by
  have hyl : 0 < y.length := List.length_pos_iff.2 hyn
  have hxl : 0 < x.length := List.length_pos_iff.2 hxn
  have g1 := lv_ge_last hx hxn hx0
  have g2 := lv_ge_last hy hyn hy0
  have g3 := lv_lt hx
  have e0 : lv (lim (lv x * 2 ^ k) ++ [0, 0]) = lv x * 2 ^ k := by
    rw [lv_append, lv_lim]
    simp [lv]
  refine ⟨?_, (lim_lb _).append (Lb.cons (by omega) (by omega) (Lb.cons (by omega) (by omega) Lb.nil)), Lb.replicate _, fun j _ => getD_replicate0 _ _, ?_, ?_⟩
  · have : x.length ≤ (lim (lv x * 2 ^ k)).length := by
      apply lim_length_ge hxl
      have : lv x * 1 ≤ lv x * 2 ^ k := Nat.mul_le_mul_left _ (Nat.two_pow_pos _)
      omega
    simp only [List.length_replicate, List.length_append, List.length_cons, List.length_nil]
    omega
  · rw [lv_replicate, e0]; omega
  · rw [e0]
    have e1 : lv y * 2 ^ k * 4294967296 ^ (x.length - y.length + 1) = 2 ^ k * (lv y * 4294967296 ^ (x.length - y.length + 1)) := by grind
    have e2 : 4294967296 ^ (y.length - 1) * 4294967296 ^ (x.length - y.length + 1) = 4294967296 ^ x.length := by
      rw [← Nat.pow_add]; congr 1; omega
    have e3 : 4294967296 ^ (y.length - 1) * 4294967296 ^ (x.length - y.length + 1) ≤ lv y * 4294967296 ^ (x.length - y.length + 1) := Nat.mul_le_mul_right _ g2
    rw [e1, Nat.mul_comm (lv x)]
    exact Nat.mul_lt_mul_of_pos_left (by omega) (Nat.two_pow_pos _)

section
variable {A : Nat} {d R Q : List Int} {at_ top i i' : Int}
/-- where a round works -/
theorem div_at (hl : Q.length < 134217728) (h1 : 0 ≤ i) (h2 : i < Q.length) (ei : i' = i) (ea : at_ = intBinR .sub .i64 (intBinR .sub .i64 Q.length 1) i') : at_ = Q.length - 1 - i := by
  subst ei
  rw [ea]
  show IntKind.i64.wrap (IntKind.i64.wrap ((Q.length : Int) - 1) - i') = _
  rw [wi64_id (n := (Q.length : Int) - 1) (by omega) (by omega), wi64_id (by omega) (by omega)]

theorem div_guess (hi : DivInv A (lv d) d.length R Q (at_.toNat + 1)) (hd : Lb d) (hn : 2 ≤ d.length) (h0 : d.getD (d.length - 1) 0 ≠ 0) (hl : R.length < 134217728) (ha : 0 ≤ at_) (hat : at_ < Q.length)
    (et : top = intBinR .add .i64 at_ d.length) :
    GuessIn (R.getD top.toNat 0) (R.getD (intBinR .sub .i64 top 1).toNat 0) (R.getD (intBinR .sub .i64 top 2).toNat 0) (d.getD (intBinR .sub .i64 d.length 1).toNat 0) (d.getD (intBinR .sub .i64 d.length 2).toNat 0) ∧
    (guessQ (R.getD top.toNat 0) (R.getD (intBinR .sub .i64 top 1).toNat 0) (R.getD (intBinR .sub .i64 top 2).toNat 0) (d.getD (intBinR .sub .i64 d.length 1).toNat 0) (d.getD (intBinR .sub .i64 d.length 2).toNat 0)
      = guessQ (R.getD (at_.toNat + d.length) 0) (R.getD (at_.toNat + d.length - 1) 0) (R.getD (at_.toNat + d.length - 2) 0) (d.getD (d.length - 1) 0) (d.getD (d.length - 2) 0)) := by
  have hr := hi.lenr
  have et' : top = at_ + d.length := by rw [et]; exact wi64_id (by omega) (by omega)
  have e1 : (intBinR .sub .i64 top 1).toNat = at_.toNat + d.length - 1 := by
    have : intBinR .sub .i64 top 1 = top - 1 := wi64_id (by omega) (by omega)
    omega
  have e2 : (intBinR .sub .i64 top 2).toNat = at_.toNat + d.length - 2 := by
    have : intBinR .sub .i64 top 2 = top - 2 := wi64_id (by omega) (by omega)
    omega
  have e3 : (intBinR .sub .i64 d.length 1).toNat = d.length - 1 := by
    have : intBinR .sub .i64 (d.length : Int) 1 = d.length - 1 := wi64_id (by omega) (by omega)
    omega
  have e4 : (intBinR .sub .i64 d.length 2).toNat = d.length - 2 := by
    have : intBinR .sub .i64 (d.length : Int) 2 = d.length - 2 := wi64_id (by omega) (by omega)
    omega
  rw [e1, e2, e3, e4, show top.toNat = at_.toNat + d.length by omega]
  exact ⟨hi.in_ hd hn rfl (by omega) h0, rfl⟩

theorem div_same {g : Int} {r : List Int} (hi : DivInv A (lv d) d.length R Q (at_.toNat + 1)) (hd : Lb d) (hn : 2 ≤ d.length) (h0 : d.getD (d.length - 1) 0 ≠ 0) (ha : 0 ≤ at_) (hat : at_ < Q.length)
    (eg : g = guessQ (R.getD (at_.toNat + d.length) 0) (R.getD (at_.toNat + d.length - 1) 0) (R.getD (at_.toNat + d.length - 2) 0) (d.getD (d.length - 1) 0) (d.getD (d.length - 2) 0))
    (hr : LessR R d g at_.toNat r false) : DivInv A (lv d) d.length r (Q.set at_.toNat g) at_.toNat := by
  have ok := guessQ_ok (hi.in_ hd hn rfl (by omega) h0)
  rw [← eg] at ok
  have nr := hi.near hd hn rfl (by omega) h0 ok
  have g2 := lv_ge_last hd (by intro e; rw [e] at hn; simp at hn) h0
  have hD : 0 < lv d := Nat.lt_of_lt_of_le (Nat.pow_pos (by omega)) g2
  have v := hr.val
  have q0 := ok.q0
  have q1 := ok.q1
  exact hi.same (by omega) hD hr.len hr.lb ⟨q0, by omega⟩ nr.1 (by simpa using v)

theorem div_less {g g' : Int} {r1 r : List Int} (hi : DivInv A (lv d) d.length R Q (at_.toNat + 1)) (hd : Lb d) (hn : 2 ≤ d.length) (h0 : d.getD (d.length - 1) 0 ≠ 0) (ha : 0 ≤ at_) (hat : at_ < Q.length)
    (eg : g = guessQ (R.getD (at_.toNat + d.length) 0) (R.getD (at_.toNat + d.length - 1) 0) (R.getD (at_.toNat + d.length - 2) 0) (d.getD (d.length - 1) 0) (d.getD (d.length - 2) 0))
    (hr1 : LessR R d g at_.toNat r1 true) (hr : MoreR r1 d at_.toNat r) (eg' : g' = intBinR .sub .u32 g 1) : DivInv A (lv d) d.length r (Q.set at_.toNat g') at_.toNat := by
  have ok := guessQ_ok (hi.in_ hd hn rfl (by omega) h0)
  rw [← eg] at ok
  have nr := hi.near hd hn rfl (by omega) h0 ok
  have g2 := lv_ge_last hd (by intro e; rw [e] at hn; simp at hn) h0
  have hD : 0 < lv d := Nat.lt_of_lt_of_le (Nat.pow_pos (by omega)) g2
  have v1 := hr1.val
  obtain ⟨c, c0, c1, v⟩ := hr.val
  have q0 := ok.q0
  have q1 := ok.q1
  obtain ⟨p1, p2⟩ := hi.less (by omega) hD (lv_lt hd) (hr.len.trans hr1.len) hr1.lb hr.lb ⟨q0, by omega⟩ nr.2 (fun j hj => (hr.same j hj).trans (hr1.same j hj)) hr1.same ⟨c0, c1⟩ (by simpa using v1) v
  have e : g' = g - 1 := by rw [eg']; show IntKind.u32.wrap (g - 1) = _; rw [wu32]; omega
  rw [e]; exact p2
end

theorem lv_take_of_lt {R : List Int} {n : Nat} (h : n ≤ R.length) (hlt : lv R < 4294967296 ^ n) : lv (R.take n) = lv R := by
  have e := lv_take_drop R n h
  rcases Nat.eq_zero_or_pos (lv (R.drop n)) with h0 | h0
  · rw [h0] at e; omega
  · have : 4294967296 ^ n * 1 ≤ 4294967296 ^ n * lv (R.drop n) := Nat.mul_le_mul_left _ h0
    omega

theorem div_stop {x y R Q : List Int} {k m : Nat} (hy : Lb y) (hyn : y ≠ []) (hy0 : 0 < lv y) (hm : y.length + 1 ≤ m) (hmR : m ≤ R.length) (hlen : (lim (lv y * 2 ^ k)).length = y.length)
    (hi : DivInv (lv x * 2 ^ k) (lv y * 2 ^ k) y.length R Q 0) : lv Q = lv x / lv y ∧ lv (R.take m) / 2 ^ k = lv x % lv y := by
  obtain ⟨s1, s2⟩ := hi.stop
  have p : 0 < 2 ^ k := Nat.two_pow_pos k
  have hlt : lv R < 4294967296 ^ m := by
    have h1 : lv y * 2 ^ k < 4294967296 ^ y.length := by
      have := lv_lt (lim_lb (lv y * 2 ^ k))
      rwa [lv_lim, hlen] at this
    have h2 : (4294967296 : Nat) ^ y.length ≤ 4294967296 ^ m := Nat.pow_le_pow_right (by omega) (by omega)
    have h3 : lv R < lv y * 2 ^ k := by rw [s2]; exact Nat.mod_lt _ (Nat.mul_pos hy0 p)
    omega
  rw [lv_take_of_lt hmR hlt, s1, s2, Nat.mul_div_mul_right _ _ p, Nat.mul_mod_mul_right, Nat.mul_div_cancel _ p]
  exact ⟨rfl, rfl⟩
end Go.Proofs.YtaiillbjhdoikaaGreat.Ev

/- Contracts: the quotient and the rest of limbs. Printed by gen.py. -/
namespace Go.Proofs.YtaiillbjhdoikaaGreat.Ev
open Go Go.Proofs
set_option linter.unusedVariables false
set_option linter.unusedSimpArgs false


attribute [local irreducible] Lb
theorem pred_len {y : List Int} (h : 1 ≤ y.length) (h' : y.length < 67108864) : intBinR .sub .i64 (y.length : Int) 1 = y.length - 1 := wi64_id (by omega) (by omega)
def divS (w : Int) (d : List Int) (n1 nq : Int) : Int × List Int × List Int → St := fun p => ⟨[(9, .int .i64 (.s w)), (10, .sli .u32 d), (11, .ms 2 1 (.l 0) (.s n1)), (12, .ms 3 1 (.l 0) (.s nq)), (73, .int .i64 (.s nq)), (74, .int .i64 (.s p.1))],
  [.dead, .ints true .u32 [0, 0], .ints true .u32 p.2.1, .ints true .u32 p.2.2]⟩
structure DivOK (A : Nat) (d : List Int) (qn rn : Nat) (i : Int) (R Q : List Int) : Prop where
  i0 : 0 ≤ i
  i1 : i ≤ qn
  inv : DivInv A (lv d) d.length R Q ((qn : Int) - i).toNat
  ql : Q.length = qn
  rl : R.length = rn
set_option maxHeartbeats 4000000 in
theorem c_natDiv (a b : List Int) (ha : Lb a) (hb : Lb b) (hla : a.length < 33554432) (hlb : b.length < 33554432) : ∃ t : List Int × List Int × Bool, t = (if lv b = 0 then ([], [], false) else (lim (lv a / lv b), lim (lv a % lv b), true)) ∧
    CallsA Tryz.prog 62 [.sli .u32 a, .sli .u32 b] (.tup [.sli .u32 t.1, .sli .u32 t.2.1, .bool (.s t.2.2)]) := by
  refine ⟨_, rfl, ?_⟩
  generalize hr : (if lv b = 0 then ([], [], false) else (lim (lv a / lv b), lim (lv a % lv b), true)) = r
  have hlx := lim_length_le' ha
  have hx := lim_lb (lv a)
  have vx := lv_lim (lv a)
  have lx := (lim_cn (lv a)).last
  have hly := lim_length_le' hb
  have hy := lim_lb (lv b)
  have vy := lv_lim (lv b)
  have ly := (lim_cn (lv b)).last
  obtain ⟨x, ex⟩ : ∃ x, lim (lv a) = x := ⟨_, rfl⟩
  obtain ⟨y, ey⟩ : ∃ y, lim (lv b) = y := ⟨_, rfl⟩
  rw [ex] at hlx hx vx lx
  rw [ey] at hly hy vy ly
  have y0 : y.length = 0 ↔ lv b = 0 := by
    rw [← ey, List.length_eq_zero_iff, lim_eq_nil]
  obtain ⟨m, em⟩ : ∃ m : Int × List Int × List Int → Nat, ∀ p, m p = (x.length + 1 - p.1).toNat := ⟨_, fun _ => rfl⟩
  obtain ⟨ok, eok⟩ : ∃ ok : List Int → Int → Nat → Nat → Int × List Int × List Int → Prop, ∀ d w qn rn p, ok d w qn rn p ↔ DivOK (lv x * 2 ^ w.toNat) d qn rn p.1 p.2.1 p.2.2 := ⟨_, fun _ _ _ _ _ => Iff.rfl⟩
  refine callsA_of hG hm Tryz.func62 (by kernel_rfl) ?_
  intro E hE lp hl
  cbv
  (apply E_callX hE (c_cut a ha (by omega)); (case hf => rfl); (case hc => (cbv <;> trivial)); (case hle => exact ⟨u2_sli, trivial⟩); intro x' hx'; cbv)
  (apply E_callX hE (c_cut b hb (by omega)); (case hf => rfl); (case hc => (cbv <;> trivial)); (case hle => exact ⟨u2_sli, trivial⟩); intro y' hy'; cbv)
  rw [hx'.trans ex, hy'.trans ey]
  clear hx' hy' x' y'
  refine E_br hE (fun h => ?_) (fun h => ?_)
  · have e : lv b = 0 := y0.1 (by subst hE; have := eql_t h; simp only [realE] at this; omega)
    cbv
    rw [← hr, if_pos e]
    exact ⟨rfl, rfl, rfl, trivial⟩
  have hb0 : 0 < lv b := by
    rcases Nat.eq_zero_or_pos (lv b) with e | e
    · exfalso; have := y0.2 e; subst hE; have := eql_f h; simp only [realE] at this; omega
    · exact e
  have ny : y ≠ [] := by intro e; rw [e] at vy; simp only [lv] at vy; omega
  rw [if_neg (by omega)] at hr
  (apply E_callX hE (c_natCmp x y hx hy (by omega) (by omega)); (case hf => rfl); (case hc => (cbv <;> trivial)); (case hle => exact ⟨u2_sli, u2_sli, trivial⟩); intro t ht; cbv)
  rw [vx, vy] at ht
  refine E_br hE (fun h => ?_) (fun h => ?_)
  · have hlt : lv a < lv b := by
      subst hE; have := lss_t h
      rw [ht] at this
      rcases Nat.lt_or_ge (lv a) (lv b) with h1 | h1
      · exact h1
      · rw [if_neg (by omega)] at this; split at this <;> omega
    cbv
    repeat' (first
    | (refine E_br hE (fun h => ?_) (fun h => ?_) <;> cbv)
    | (refine E_nm hE (fun v hv => ?_); cbv)
    | (refine E_nilS hE (fun b hb => ?_); cbv)
    | (apply E_callX hE (c_Clone _ ?_); (case hf => rfl); (case hc => (cbv <;> trivial)); (case hle => exact u_up); all_goals (first | (intro t ht; cbv) | (omega)))
    | fail)
    rw [← hr, Nat.div_eq_of_lt hlt, Nat.mod_eq_of_lt hlt, ex]
    exact ⟨rfl, ‹_›, rfl, trivial⟩
  have hge : lv b ≤ lv a := by
    subst hE; have := lss_f h
    rw [ht] at this
    rcases Nat.lt_or_ge (lv a) (lv b) with h1 | h1
    · rw [if_pos h1] at this; omega
    · exact h1
  refine E_br hE (fun h => ?_) (fun h => ?_)
  · have y1 : y.length = 1 := by subst hE; have := eql_t h; simp only [realE] at this; omega
    have e0 : y = [y.getD 0 0] := by
      obtain ⟨z, hz⟩ := List.length_eq_one_iff.1 y1
      rw [hz]; rfl
    have g0 := hy.getD 0
    have v0 : lv b = (y.getD 0 0).toNat := by
      rw [← vy]
      conv => lhs; rw [e0]
      simp only [lv]; omega
    have p0 : 0 < y.getD 0 0 := by omega
    cbv
    repeat' (first
    | (refine E_br hE (fun h => ?_) (fun h => ?_) <;> cbv)
    | (refine E_nm hE (fun v hv => ?_); cbv)
    | (refine E_nilS hE (fun b hb => ?_); cbv)
    | (apply E_callX hE (c_short x _ hx ?_ ?_ ?_); (case hf => rfl); (case hc => (cbv <;> trivial)); (case hle => exact u_up); all_goals (first | (intro t ht; cbv) | ((subst hE; first | omega | exact p0 | exact g0.2))))
    | fail)
    · subst hE
      have ht' : t = (lim (lv x / (y.getD 0 0).toNat), lim (lv x % (y.getD 0 0).toNat)) := ht
      rw [ht', ← hr, vx, ← v0]; exact ⟨rfl, rfl, rfl, trivial⟩
    · subst hE; have := lss_f h; simp only [realE] at this; omega
  have y2 : 2 ≤ y.length := by
    have h1 : 0 < y.length := List.length_pos_iff.2 ny
    subst hE; have := eql_f h; simp only [realE] at this; omega
  have nx : x ≠ [] := by intro e; rw [e] at vx; simp only [lv] at vx; omega
  have xy : y.length ≤ x.length := by
    rw [← ex, ← ey]
    rcases Nat.lt_or_ge (lim (lv a)).length (lim (lv b)).length with h1 | h1
    · have := lim_len_lt h1; omega
    · exact h1
  have gl := hy.getD (y.length - 1)
  have g1 : E.get y (E.bin .sub .i64 (E.len y) 1) = y.getD (y.length - 1) 0 := by
    subst hE
    show y.getD (intBinR .sub .i64 (y.length : Int) 1).toNat 0 = _
    rw [pred_len (by omega) (by omega), show ((y.length : Int) - 1).toNat = y.length - 1 by omega]
  cbv
  refine E_br hE (fun h => ?_) (fun h => ?_)
  rotate_left
  · exfalso; subst hE; have := leq_f h; change ¬ 0 ≤ intBinR .sub .i64 (y.length : Int) 1 at this; rw [pred_len (by omega) (by omega)] at this; omega
  cbv
  refine E_br hE (fun h => ?_) (fun h => ?_)
  rotate_left
  · exfalso; subst hE; have := lss_f h; change ¬ intBinR .sub .i64 (y.length : Int) 1 < (y.length : Int) at this; rw [pred_len (by omega) (by omega)] at this; omega
  cbv
  (apply E_callX hE (c_LZ32 (E.get y (E.bin .sub .i64 (E.len y) 1)) (by rw [g1]; exact gl.1) (by rw [g1]; exact gl.2)); (case hf => rfl); (case hc => (cbv <;> trivial)); (case hle => exact ⟨u2_int, trivial⟩); intro t1 ht1; cbv)
  refine E_nm hE (fun w hw => ?_)
  have ew : w = 32 - blen (y.getD (y.length - 1) 0) := by rw [hw, ht1, g1]
  have w0 := (norm_len hy ny (ly ny) ew).1
  have w1 := (norm_len hy ny (ly ny) ew).2.1
  have dl := (norm_len hy ny (ly ny) ew).2.2
  clear hw ew ht1
  cbv
  (apply E_callX hE (c_natShl y w hy (by omega)); (case hf => rfl); (case hc => (cbv <;> trivial)); (case hle => exact ⟨u2_sli, u2_int, trivial⟩); intro d hd; cbv)
  have ed : d = lim (lv y * 2 ^ w.toNat) := by
    rw [hd]
    split
    · rw [show w.toNat = 0 by omega, Nat.pow_zero, Nat.mul_one]
    · rw [if_neg (by omega)]
  have ld : Lb d := ed ▸ lim_lb _
  have vd : lv d = lv y * 2 ^ w.toNat := by rw [ed, lv_lim]
  have nd : d.length = y.length := by rw [ed]; exact dl
  have d0 : d.getD (d.length - 1) 0 ≠ 0 := by
    rw [ed]
    refine (lim_cn _).last ?_
    intro e; rw [e] at dl; simp only [List.length_nil] at dl; omega
  have ds := div_start (k := w.toNat) hx hy nx ny (lx nx) (ly ny) xy
  clear lx ly hd
  refine E_callH hE (h_Shl x w hx (by omega) (by omega) w0 (by omega)) ?_
  intro v h1 hv
  obtain ⟨L, k, hv⟩ := hv
  rw [hv.1, hv.2.1]
  have k0 := hv.2.2.1
  have k1 := hv.2.2.2.1
  have k2 := hv.2.2.2.2.1
  have k3 := hv.2.2.2.2.2
  clear hv h1 v
  have kl : k.toNat = (lim (lv x * 2 ^ w.toNat)).length := by
    have := congrArg List.length k2
    rw [List.length_take] at this; omega
  have kx : (x.length : Int) + 1 ≤ k + 2 := by
    have := ds.lenr
    simp only [List.length_replicate, List.length_append, List.length_cons, List.length_nil] at this
    omega
  have kR : k ≤ 134217728 := by omega
  have kb : (lim (lv x * 2 ^ w.toNat)).length ≤ x.length + 1 := by
    apply lim_length_le
    have h1 := lv_lt hx
    have h2 : 2 ^ w.toNat ≤ 4294967296 := two_pow_le (by omega)
    rw [Nat.pow_succ]
    have h3 : lv x * 2 ^ w.toNat ≤ lv x * 4294967296 := Nat.mul_le_mul_left _ h2
    omega
  rw [← vd, ← nd] at ds
  obtain ⟨qn, hqn⟩ : ∃ qn, qn = x.length - d.length + 1 := ⟨_, rfl⟩
  obtain ⟨rn, hrn⟩ : ∃ rn, rn = k.toNat + 2 := ⟨_, rfl⟩
  have start : DivOK (lv x * 2 ^ w.toNat) d qn rn 0 (((L.drop (0 : Int).toNat).take k.toNat) ++ [0, 0]) (List.replicate qn 0) := by
    refine ⟨Int.le_refl _, by omega, ?_, by simp, ?_⟩
    · rw [← hqn] at ds
      rw [show (0 : Int).toNat = 0 by rfl, List.drop_zero, k2, show ((qn : Int) - 0).toNat = qn by omega]
      exact ds
    · rw [show (0 : Int).toNat = 0 by rfl, List.drop_zero, k2, List.length_append, ← kl]
      rw [hrn]; rfl
  have rn1 : x.length + 1 ≤ rn := by omega
  have rn2 : rn < 67108870 := by omega
  have fin : ∀ i R Q, DivOK (lv x * 2 ^ w.toNat) d qn rn i R Q → ¬ i < qn → Lb Q ∧ Q.length = qn ∧ Lb (R.take (x.length + 1)) ∧ (R.take (x.length + 1)).length = x.length + 1 ∧ (lim (lv Q), lim (lv (R.take (x.length + 1)) / 2 ^ w.toNat), true) = r := by
    intro i R Q o hi
    have hi' : ((qn : Int) - i).toNat = 0 := by have := o.i1; omega
    have inv := o.inv
    rw [hi', vd, nd] at inv
    have rl := o.rl
    obtain ⟨f1, f2⟩ := div_stop hy ny (by omega) (m := x.length + 1) (by omega) (by omega) dl inv
    refine ⟨inv.lbq, o.ql, inv.lbr.take _, by rw [List.length_take]; omega, ?_⟩
    rw [f1, f2, vx, vy, hr]
  have nqv : intBinR .add .i64 (intBinR .sub .i64 (x.length : Int) y.length) 1 = qn := by
    have e : intBinR .sub .i64 (x.length : Int) y.length = x.length - y.length := wi64_id (by omega) (by omega)
    have e2 : intBinR .add .i64 ((x.length : Int) - y.length) 1 = x.length - y.length + 1 := wi64_id (by omega) (by omega)
    rw [e, e2, hqn]; omega
  have n1v : intBinR .add .i64 (x.length : Int) 1 = (x.length + 1 : Nat) := by
    have e2 : intBinR .add .i64 (x.length : Int) 1 = x.length + 1 := wi64_id (by omega) (by omega)
    rw [e2]; rfl
  have qn1 : qn < 67108864 := by omega
  have d2 : 2 ≤ d.length := by omega
  have dx : d.length ≤ x.length := by omega
  have xyI : (y.length : Int) ≤ x.length := by omega
  have y2I : (2 : Int) ≤ y.length := by omega
  have xI : (x.length : Int) < 33554432 := by omega
  cbv
  repeat' (first
    | (refine E_br hE (fun h => ?_) (fun h => ?_) <;> cbv)
    | (refine E_nm hE (fun v hv => ?_); cbv)
    | (refine E_nilS hE (fun b hb => ?_); cbv)
    | fail)
  all_goals (try (exfalso; clear start ds dl d0 kl k2 ed vd fin nqv n1v; subst hE; simp only [NatCast.natCast, Int.ofNat_eq_natCast, realE, cmp_eql, cmp_neq, cmp_lss, cmp_leq, cmp_gtr, cmp_geq, intBinR, decide_eq_true_eq, decide_eq_false_iff_not, SI.val, SB.val, Num.eta, Iv.eta] at *; (try simp only [wi64] at *); omega))
  clear ds dl kl k2 ed vd g1 gl k0 k1 k3 kx kR kb
  refine E_loop hE hG hm hl (divS w d (E.bin .add .i64 (E.len x) 1) (E.bin .add .i64 (E.bin .sub .i64 (E.len x) (E.len y)) 1)) m (ok d w qn rn)
    ⟨(0, E.app (E.sub L 0 k) (E.sub [0, 0] 0 (Int.ofNat 2)), E.rep (E.bin .add .i64 (E.bin .sub .i64 (E.len x) (E.len y)) 1)), (eok _ _ _ _ _).2 ?_, stLe rfl ?_⟩ ?_
  · subst hE
    have e : (realE Tryz.prog).bin .add .i64 ((realE Tryz.prog).bin .sub .i64 ((realE Tryz.prog).len x) ((realE Tryz.prog).len y)) 1 = (qn : Int) := nqv
    rw [e]
    exact start
  · (repeat' (first | exact t_nil | apply t_cons | exact u2_sli | exact u2_int | exact u2_bool | exact u2_ms | exact u2_ptr | exact (rfl : sle2 .s0 .s0)))
  clear start
  rintro ⟨i, R, Q⟩ hok
  have o : DivOK (lv x * 2 ^ w.toNat) d qn rn i R Q := (eok _ _ _ _ _).1 hok
  have fin' := fin i R Q o
  have i0 := o.i0
  have i1 := o.i1
  clear hok fin ht
  cbv
  repeat' (first
    | (refine E_br hE (fun h => ?_) (fun h => ?_) <;> cbv)
    | (refine E_nm hE (fun v hv => ?_); cbv)
    | (refine E_nilS hE (fun b hb => ?_); cbv)
    | fail)
  all_goals (try (exfalso; clear fin' em eok o nqv n1v; subst hE; simp only [NatCast.natCast, Int.ofNat_eq_natCast, realE, cmp_eql, cmp_neq, cmp_lss, cmp_leq, cmp_gtr, cmp_geq, intBinR, decide_eq_true_eq, decide_eq_false_iff_not, SI.val, SB.val, Num.eta, Iv.eta] at *; (try simp only [wi64] at *); omega))
  rotate_left
  · simp only [NatCast.natCast, Int.ofNat_eq_natCast] at nqv n1v
    have hge : ¬ i < (qn : Int) := by
      subst hE
      have q : ¬ i < intBinR .add .i64 (intBinR .sub .i64 (x.length : Int) y.length) 1 := lss_f h
      rw [nqv] at q
      exact q
    have f1 := (fin' hge).1
    have f2 := (fin' hge).2.1
    have f3 := (fin' hge).2.2.1
    have f4 := (fin' hge).2.2.2.1
    have f5 := (fin' hge).2.2.2.2
    have e1 : E.sub Q 0 (E.bin .add .i64 (E.bin .sub .i64 (E.len x) (E.len y)) 1) = Q := by
      subst hE
      show (Q.drop (0 : Int).toNat).take (intBinR .add .i64 (intBinR .sub .i64 (x.length : Int) y.length) 1).toNat = Q
      rw [nqv]
      exact sub_all (by rw [f2])
    have e2 : E.sub R 0 (E.bin .add .i64 (E.len x) 1) = R.take (x.length + 1) := by
      subst hE
      show (R.drop (0 : Int).toNat).take (intBinR .add .i64 (x.length : Int) 1).toNat = _
      rw [n1v, Int.toNat_natCast]; rfl
    clear fin' o em eok
    (apply E_callX hE (c_cut (E.sub Q 0 (E.bin .add .i64 (E.bin .sub .i64 (E.len x) (E.len y)) 1)) (by rw [e1]; exact f1) (by rw [e1, f2]; omega)); (case hf => rfl); (case hc => (cbv <;> trivial)); (case hle => exact ⟨u2_sli, trivial⟩); intro q hq; cbv)
    (apply E_callX hE (c_natShr (E.sub R 0 (E.bin .add .i64 (E.len x) 1)) w (by rw [e2]; exact f3) (by rw [e2, f4]; omega)); (case hf => rfl); (case hc => (cbv <;> trivial)); (case hle => exact ⟨u2_sli, u2_int, trivial⟩); intro q2 hq2; cbv)
    rw [← f5]
    rw [e1] at hq
    rw [e2] at hq2
    exact ⟨hq, hq2, rfl, trivial⟩
  rename_i i' ei at_ eat _ _ _ _ _ _ _ _ _
  simp only [NatCast.natCast, Int.ofNat_eq_natCast] at nqv n1v xyI y2I xI
  have hi : i < (qn : Int) := by
    subst hE
    have q : i < intBinR .add .i64 (intBinR .sub .i64 (x.length : Int) y.length) 1 := lss_t ‹(realE Tryz.prog).cmp .lss i _ = true›
    rw [nqv] at q
    exact q
  have nqE : E.bin .add .i64 (E.bin .sub .i64 (E.len x) (E.len y)) 1 = qn := by subst hE; exact nqv
  have n1E : E.bin .add .i64 (E.len x) 1 = (x.length + 1 : Nat) := by subst hE; exact n1v
  have hat : at_ = qn - 1 - i := by
    rw [nqE] at eat
    subst hE
    rw [← o.ql] at eat ⊢
    exact div_at (by rw [o.ql]; omega) o.i0 (by rw [o.ql]; exact hi) ei eat
  have i0 := o.i0
  have a0 : 0 ≤ at_ := by omega
  have a1 : at_ < Q.length := by rw [o.ql]; omega
  have a2 : at_ + d.length < ((x.length + 1 : Nat) : Int) := by omega
  have a3 : ((x.length + 1 : Nat) : Int) ≤ R.length := by rw [o.rl]; omega
  have a4 : R.length < 134217728 := by rw [o.rl]; omega
  have inv : DivInv (lv x * 2 ^ w.toNat) (lv d) d.length R Q (at_.toNat + 1) := by
    have := o.inv
    rwa [show ((qn : Int) - i).toNat = at_.toNat + 1 by omega] at this
  have etop := hv
  have dg : GuessIn (E.get R v) (E.get R (E.bin .sub .i64 v 1)) (E.get R (E.bin .sub .i64 v 2)) (E.get d (E.bin .sub .i64 (E.len d) 1)) (E.get d (E.bin .sub .i64 (E.len d) 2)) ∧
      guessQ (E.get R v) (E.get R (E.bin .sub .i64 v 1)) (E.get R (E.bin .sub .i64 v 2)) (E.get d (E.bin .sub .i64 (E.len d) 1)) (E.get d (E.bin .sub .i64 (E.len d) 2)) =
        guessQ (R.getD (at_.toNat + d.length) 0) (R.getD (at_.toNat + d.length - 1) 0) (R.getD (at_.toNat + d.length - 2) 0) (d.getD (d.length - 1) 0) (d.getD (d.length - 2) 0) := by
    subst hE
    exact div_guess inv ld d2 d0 a4 a0 a1 etop
  have gq := guessQ_ok dg.1
  (apply E_pcallX hE (c_guess _ _ _ _ _ dg.1); (case hm => rfl); (case hle => exact ⟨u2_int, u2_int, u2_int, u2_int, u2_int, trivial⟩); intro g hg)
  have g0 : 0 ≤ g ∧ g < 4294967296 := by rw [hg]; exact ⟨gq.q0, by have := gq.q1; omega⟩
  have eg := hg.trans dg.2
  clear dg gq hg
  have j1 : ∀ j, j = intBinR .add .i64 i 1 → j = i + 1 := fun j e => e.trans (wi64_id (by omega) (by omega))
  have lbR := inv.lbr
  have next : ∀ (j : Int) (r' : List Int) (g' : Int), j = intBinR .add .i64 i 1 → r'.length = R.length → DivInv (lv x * 2 ^ w.toNat) (lv d) d.length r' (Q.set at_.toNat g') at_.toNat →
      m (j, r', Q.set at_.toNat g') < m (i, R, Q) ∧ ok d w qn rn (j, r', Q.set at_.toNat g') := by
    intro j r' g' ej hl hi'
    have ej := j1 j ej
    refine ⟨by rw [em, em]; show ((x.length : Int) + 1 - j).toNat < ((x.length : Int) + 1 - i).toNat; omega, (eok _ _ _ _ _).2 ⟨by show 0 ≤ j; omega, by show j ≤ (qn : Int); omega, ?_, by rw [List.length_set]; exact o.ql, hl.trans o.rl⟩⟩
    show DivInv _ _ _ _ _ ((qn : Int) - j).toNat
    rw [show ((qn : Int) - j).toNat = at_.toNat by omega]
    exact hi'
  have n1a : at_ + d.length < E.bin .add .i64 (E.len x) 1 := by rw [n1E]; exact a2
  have n1b : E.bin .add .i64 (E.len x) 1 ≤ R.length := by rw [n1E]; exact a3
  have a5 : at_ + d.length < R.length := by omega
  have aq : at_ < E.bin .add .i64 (E.bin .sub .i64 (E.len x) (E.len y)) 1 := by rw [nqE]; omega
  cbv
  refine E_nm hE (fun g' hg' => ?_)
  rw [hg']
  clear hg' g'
  cbv
  refine E_callH hE (h_less d [0, 0] R Q g at_ (E.bin .add .i64 (E.len x) 1) ld lbR g0 a4 a0 a5 n1a n1b) ?_
  intro v1 h1 hv1
  obtain ⟨r1, bb, hv1⟩ := hv1
  have lr := hv1.2.2
  rw [hv1.1, hv1.2.1]
  clear hv1 v1 h1
  refine E_br hE (fun hb1 => ?_) (fun hb1 => ?_)
  · have lr1 : LessR R d g at_.toNat r1 true := hb1 ▸ lr
    have l1 := lr1.len
    cbv
    refine E_nm hE (fun g' hg' => ?_)
    cbv
    refine E_callH hE (h_more d [0, 0] r1 Q at_ (E.bin .add .i64 (E.len x) 1) ld lr1.lb (by rw [l1]; exact a4) a0 (by rw [l1]; exact a5) n1a (by rw [l1]; exact n1b)) ?_
    intro v1 h1 hv1
    obtain ⟨r2, hv1⟩ := hv1
    have mr := hv1.2.2
    rw [hv1.1, hv1.2.1]
    clear hv1 v1 h1
    have dn := fun e => div_less inv ld d2 d0 a0 a1 eg lr1 mr (g' := g') e
    have l2 := mr.len.trans l1
    cbv
    repeat' (first
    | (refine E_br hE (fun h => ?_) (fun h => ?_) <;> cbv)
    | (refine E_nm hE (fun v hv => ?_); cbv)
    | (refine E_nilS hE (fun b hb => ?_); cbv)
    | fail)
    all_goals (try refine ⟨(E.bin .add .i64 i 1, r2, E.set Q at_ g'), ?_, ?_, stLe rfl ?_⟩)
    all_goals (try ((repeat' (first | exact t_nil | apply t_cons | exact u2_sli | exact u2_int | exact u2_bool | exact u2_ms | exact u2_ptr | exact (rfl : sle2 .s0 .s0))); done))
    all_goals (subst hE)
    · exact (next _ r2 g' rfl l2 (dn hg')).1
    · exact (next _ r2 g' rfl l2 (dn hg')).2
    all_goals (first | exact absurd a0 (leq_f h) | exact absurd aq (lss_f h))
  · have lr1 : LessR R d g at_.toNat r1 false := hb1 ▸ lr
    have dn := div_same inv ld d2 d0 a0 a1 eg lr1
    have l1 := lr1.len
    cbv
    repeat' (first
    | (refine E_br hE (fun h => ?_) (fun h => ?_) <;> cbv)
    | (refine E_nm hE (fun v hv => ?_); cbv)
    | (refine E_nilS hE (fun b hb => ?_); cbv)
    | fail)
    all_goals (try refine ⟨(E.bin .add .i64 i 1, r1, E.set Q at_ g), ?_, ?_, stLe rfl ?_⟩)
    all_goals (try ((repeat' (first | exact t_nil | apply t_cons | exact u2_sli | exact u2_int | exact u2_bool | exact u2_ms | exact u2_ptr | exact (rfl : sle2 .s0 .s0))); done))
    all_goals (subst hE)
    · exact (next _ r1 g rfl l1 dn).1
    · exact (next _ r1 g rfl l1 dn).2
    all_goals (first | exact absurd a0 (leq_f h) | exact absurd aq (lss_f h))
  all_goals trace_state

end Go.Proofs.YtaiillbjhdoikaaGreat.Ev

/- The greatest number whose square is not greater, by Newton's steps: sizes. -/
namespace Go.Proofs.YtaiillbjhdoikaaGreat.Ev
open Go

structure RootOK (a s0 s : Nat) : Prop where
  pos : 0 < s
  up : a < (s + 1) * (s + 1)
  le : s ≤ s0

theorem lim_len_two {s n M : Nat} (h1 : s ≤ 2 ^ n) (hn : n ≤ 32 * M) : (lim s).length ≤ M + 1 := by
  apply lim_length_le
  have h2 : 2 ^ n ≤ 2 ^ (32 * M) := Nat.pow_le_pow_right (by omega) hn
  have h3 : (2 : Nat) ^ (32 * M) < 2 ^ (32 * (M + 1)) := Nat.pow_lt_pow_right (by omega) (by omega)
  have h4 : (4294967296 : Nat) ^ (M + 1) = 2 ^ (32 * (M + 1)) := by rw [Nat.pow_mul]
  rw [h4]
  omega
theorem RootOK.len {a s0 s : Nat} {n : Nat} (h : RootOK a s0 s) (e : s0 = 2 ^ n) (hn : n ≤ 16777216) : (lim s).length ≤ 524289 :=
  lim_len_two (by rw [← e]; exact h.le) (by omega)

theorem lim_add_len {m n k : Nat} (hm : (lim m).length ≤ k) (hn : (lim n).length ≤ k) : (lim (m + n)).length ≤ k + 1 := by
  have h1 := lv_lt (lim_lb m)
  have h2 := lv_lt (lim_lb n)
  rw [lv_lim] at h1 h2
  have h3 : (4294967296 : Nat) ^ (lim m).length ≤ 4294967296 ^ k := Nat.pow_le_pow_right (by omega) hm
  have h4 : (4294967296 : Nat) ^ (lim n).length ≤ 4294967296 ^ k := Nat.pow_le_pow_right (by omega) hn
  apply lim_length_le
  rw [Nat.pow_succ]
  omega
theorem lim_mono {m n : Nat} (h : m ≤ n) : (lim m).length ≤ (lim n).length := by
  have h1 := lv_lt (lim_lb n)
  rw [lv_lim] at h1
  exact lim_length_le (by omega)
theorem RootOK.next {a s0 s : Nat} (ha : 0 < a) (h : RootOK a s0 s) (hlt : (s + a / s) / 2 < s) : RootOK a s0 ((s + a / s) / 2) :=
  ⟨newton_pos ha h.pos, newton_step h.pos, by have := h.le; omega⟩
theorem RootOK.stop {a s0 s : Nat} (h : RootOK a s0 s) (hlt : ¬ (s + a / s) / 2 < s) : nsqrt a = s :=
  nsqrt_eq (newton_stop h.pos (by omega)) h.up
end Go.Proofs.YtaiillbjhdoikaaGreat.Ev

/- Contracts: the root of limbs. Printed by gen.py. -/
namespace Go.Proofs.YtaiillbjhdoikaaGreat.Ev
open Go Go.Proofs
set_option linter.unusedVariables false
set_option linter.unusedSimpArgs false


attribute [local irreducible] Lb
end Go.Proofs.YtaiillbjhdoikaaGreat.Ev

/- Contracts: whole numbers as numbers, the quotient. Printed by gen.py out of C9.spec. -/
namespace Go.Proofs.YtaiillbjhdoikaaGreat.Ev
open Go Go.Proofs
set_option linter.unusedVariables false
set_option linter.unusedSimpArgs false

end Go.Proofs.YtaiillbjhdoikaaGreat.Ev

/- Contracts: words and limbs. Printed by gen.py. -/
namespace Go.Proofs.YtaiillbjhdoikaaGreat.Ev
open Go Go.Proofs
set_option linter.unusedVariables false
set_option linter.unusedSimpArgs false


attribute [local irreducible] Lb
theorem word_next {a : List Int} {i n : Int} (ha : Lb a) (hl : a.length ≤ 2) (h1 : 0 ≤ i) (h2 : i < a.length) (hn : n = lv (a.take i.toNat)) {i' x v j : Int} (ei : i' = i) (ex : x = a.getD i.toNat 0)
    (ev : v = intBinR .or .u64 n (intBinR .shl .u64 (IntKind.u64.wrap x) (intBinR .mul .i64 32 i'))) (ej : j = intBinR .add .i64 i 1) :
    0 ≤ j ∧ j ≤ a.length ∧ ((a.length : Int) - j).toNat < ((a.length : Int) - i).toNat ∧ v = lv (a.take j.toNat) := by
  subst ei
  have hx := ha.getD i'.toNat
  have ej' : j = i' + 1 := by rw [ej]; show IntKind.i64.wrap (i' + 1) = _; rw [wi64_id (by omega) (by omega)]
  refine ⟨by omega, by omega, by omega, ?_⟩
  rw [ej', show (i' + 1).toNat = i'.toNat + 1 by omega, lv_take_succ (by omega), ← ex]
  rw [← ex] at hx
  rw [wu64_id hx.1 (by omega)] at ev
  rcases (show i' = 0 ∨ i' = 1 by omega) with rfl | rfl
  · have e0 : n = 0 := by rw [hn]; rfl
    have e1 : intBinR .shl .u64 x (intBinR .mul .i64 32 0) = x := by
      show IntKind.u64.wrap (x * 2 ^ min (IntKind.i64.wrap (32 * 0)).toNat IntKind.u64.bits) = _
      rw [show min (IntKind.i64.wrap (32 * 0)).toNat IntKind.u64.bits = 0 by decide, wu64]
      simp only [Int.pow_zero, Int.mul_one]
      omega
    rw [e1, e0] at ev
    have e2 : intBinR .or .u64 0 x = 0 + 2 ^ 0 * x := by
      have := or64 (l := x) (m := 0) hx.1 hx.2 (by omega) (by omega)
      show IntKind.u64.wrap ((BitVec.ofInt 64 0 ||| BitVec.ofInt 64 x).toNat : Int) = _
      rw [BitVec.or_comm]
      simp only [Int.zero_mul] at this
      rw [this]; omega
    rw [ev, e2, show (Int.toNat 0) = 0 by rfl, List.take_zero]
    simp only [lv, Nat.pow_zero]
    omega
  · have hn0 : 0 ≤ n ∧ n < 4294967296 := by
      have := lv_take_lt ha 1 (by omega)
      rw [show (1 : Int).toNat = 1 by rfl] at hn
      omega
    have e1 : intBinR .shl .u64 x (intBinR .mul .i64 32 1) = x * 4294967296 := by
      show IntKind.u64.wrap (x * 2 ^ min (IntKind.i64.wrap (32 * 1)).toNat IntKind.u64.bits) = _
      rw [show min (IntKind.i64.wrap (32 * 1)).toNat IntKind.u64.bits = 32 by decide, wu64]
      have : (2 : Int) ^ 32 = 4294967296 := by decide
      rw [this]; omega
    rw [e1] at ev
    have e2 : intBinR .or .u64 n (x * 4294967296) = n + x * 4294967296 := or64 hn0.1 hn0.2 hx.1 hx.2
    rw [ev, e2, show (Int.toNat 1) = 1 by rfl]
    rw [show (1 : Int).toNat = 1 by rfl] at hn
    rw [hn]
    omega

def wordS (E : Env) (a : List Int) : Int × Int → St := fun p => ⟨[(3, .int .u64 (.s p.2)), (6, .sli .u32 a), (7, .int .i64 (.s (E.len a))), (8, .int .i64 (.s p.1))], []⟩
theorem c_word (a : List Int) (ha : Lb a) (hl : a.length ≤ 2) : ∃ t : Int, t = lv a ∧ CallsA Tryz.prog 88 [.sli .u32 a] (.int .u64 (.s t)) := by
  refine ⟨_, rfl, ?_⟩
  generalize hr : (lv a : Int) = r
  obtain ⟨m, em⟩ : ∃ m : Int × Int → Nat, ∀ p, m p = (a.length - p.1).toNat := ⟨_, fun _ => rfl⟩
  obtain ⟨ok, eok⟩ : ∃ ok : Int × Int → Prop, ∀ p, ok p ↔ 0 ≤ p.1 ∧ p.1 ≤ a.length ∧ p.2 = lv (a.take p.1.toNat) := ⟨_, fun _ => Iff.rfl⟩
  refine callsA_of hG hm Tryz.func88 (by kernel_rfl) ?_
  intro E hE lp hl'
  cbv
  repeat' (first
    | (refine E_br hE (fun h => ?_) (fun h => ?_) <;> cbv)
    | (refine E_nm hE (fun v hv => ?_); cbv)
    | (refine E_nilS hE (fun b hb => ?_); cbv)
    | fail)
  refine E_loop hE hG hm hl' (wordS E a) m ok ⟨(0, 0), (eok _).2 ⟨by show (0 : Int) ≤ 0; omega, by show (0 : Int) ≤ a.length; omega, rfl⟩, stLe rfl ?_⟩ ?_
  · (repeat' (first | exact t_nil | apply t_cons | exact u2_sli | exact u2_int | exact u2_bool | exact u2_ms | exact u2_ptr | exact (rfl : sle2 .s0 .s0)))
  rintro ⟨i, n⟩ hok
  have h1 : 0 ≤ i := ((eok _).1 hok).1
  have h2 : i ≤ a.length := ((eok _).1 hok).2.1
  have hn : n = lv (a.take i.toNat) := ((eok _).1 hok).2.2
  have fin : ¬ i < a.length → n = r := by
    intro h
    rw [hn, show i.toNat = a.length by omega, List.take_length]; exact hr
  clear hok
  cbv
  repeat' (first
    | (refine E_br hE (fun h => ?_) (fun h => ?_) <;> cbv)
    | (refine E_nm hE (fun v hv => ?_); cbv)
    | (refine E_nilS hE (fun b hb => ?_); cbv)
    | fail)
  all_goals (try refine ⟨(E.bin .add .i64 i 1, v), ?_, ?_, stLe rfl ?_⟩)
  all_goals (try ((repeat' (first | exact t_nil | apply t_cons | exact u2_sli | exact u2_int | exact u2_bool | exact u2_ms | exact u2_ptr | exact (rfl : sle2 .s0 .s0))); done))
  all_goals (subst hE)
  all_goals (try (first
    | (rw [em, em]; exact (word_next ha hl h1 (lss_t ‹_›) hn ‹_ = i› ‹_› ‹_› rfl).2.2.1)
    | (rw [eok]; have q := word_next ha hl h1 (lss_t ‹_›) hn ‹_ = i› ‹_› ‹_› rfl; exact ⟨q.1, q.2.1, q.2.2.2⟩)
    | exact fin (lss_f ‹_›)
    | exact ‹_ = n›.trans (fin (lss_f ‹_›))))
  all_goals (clear fin eok em hn; simp only [NatCast.natCast, Int.ofNat_eq_natCast, realE, cmp_eql, cmp_neq, cmp_lss, cmp_leq, cmp_gtr, cmp_geq, intBinR, decide_eq_true_eq, decide_eq_false_iff_not, SI.val, SB.val, Num.eta, Iv.eta] at *; (try simp only [wi64] at *); omega)

theorem limbs_lb {m : Int} (h0 : 0 ≤ m) (h1 : m < 18446744073709551616) : Lb [m % 4294967296, m / 4294967296] :=
  Lb.cons (by omega) (by omega) (Lb.cons (by omega) (by omega) Lb.nil)
theorem limbs_lv {m : Int} (h0 : 0 ≤ m) : lv [m % 4294967296, m / 4294967296] = m.toNat := by
  simp only [lv]; omega

/-- the root of a finite number -/
def Num.rootF (a : Num) (up : Bool) : Num :=
  if a.e % 2 = 0 then Num.grow false (nsqrt (a.m.toNat * 2 ^ 64)) ((a.e - 64) / 2) (!decide (nsqrt (a.m.toNat * 2 ^ 64) * nsqrt (a.m.toNat * 2 ^ 64) = a.m.toNat * 2 ^ 64)) up
  else Num.grow false (nsqrt (a.m.toNat * 2 ^ 63)) ((a.e - 63) / 2) (!decide (nsqrt (a.m.toNat * 2 ^ 63) * nsqrt (a.m.toNat * 2 ^ 63) = a.m.toNat * 2 ^ 63)) up
def Num.root (a : Num) (up : Bool) : Num × Bool :=
  if a.fair.kind ≠ 0 ∧ a.fair.neg = true then (Num.zero, false) else if a.fair.kind ≠ 1 then (a.fair, true) else (Num.rootF a.fair up, true)

end Go.Proofs.YtaiillbjhdoikaaGreat.Ev

/- Contracts: whole numbers of 64 bits, of what sign; ten, so many times. Printed by gen.py. -/
namespace Go.Proofs.YtaiillbjhdoikaaGreat.Ev
open Go Go.Proofs
set_option linter.unusedVariables false
set_option linter.unusedSimpArgs false

attribute [local irreducible] Lb
theorem c_wFrom (n : Int) (h1 : -9223372036854775808 ≤ n) (h2 : n < 9223372036854775808) : ∃ t : Bool × List Int, t = (decide (n < 0), lim n.natAbs) ∧ CallsA Tryz.prog 19 [.int .i64 (.s n)] (.agg [.bool (.s t.1), .sli .u32 t.2]) := by
  refine ⟨_, rfl, ?_⟩
  generalize hr : ((decide (n < 0), lim n.natAbs) : Bool × List Int) = r
  have lb := limbs_lb (m := (n.natAbs : Int)) (by omega) (by omega)
  obtain ⟨m, em⟩ : ∃ m, m = [(n.natAbs : Int) % 4294967296, (n.natAbs : Int) / 4294967296] := ⟨_, rfl⟩
  rw [← em] at lb
  have ll : m.length ≤ 268435456 := by rw [em]; show (2 : Nat) ≤ _; decide
  have fin : ∀ (c : Bool) (l : List Int) (t : Bool × List Int), c = decide (n < 0) → l = m → t = (c && decide (lv l ≠ 0), lim (lv l)) → t = r := by
    intro c l t hc hl ht
    rw [ht, hl, em, limbs_lv (by omega), ← hr, hc, show ((n.natAbs : Nat) : Int).toNat = n.natAbs from rfl]
    by_cases h : n < 0
    · rw [decide_eq_true (p := n.natAbs ≠ 0) (by omega), Bool.and_true]
    · rw [decide_eq_false h, Bool.false_and]
  have wn : ∀ x : Int, x = (n.natAbs : Int) → [IntKind.u32.wrap x, IntKind.u32.wrap (intBinR .shr .u64 x 32)] = m := by
    intro x hx
    have e1 : intBinR .shr .u64 x 32 = x / 4294967296 := shr32 x
    rw [em, e1, hx, wu32, wu32, Int.emod_eq_of_lt (a := (n.natAbs : Int) / 4294967296) (by omega) (by omega)]
  clear hr em
  refine callsA_of hG hm Tryz.func19 (by kernel_rfl) ?_
  intro E hE lp hl'
  cbv
  refine E_nm hE (fun u hu => ?_); cbv
  refine E_br hE (fun g => ?_) (fun g => ?_) <;> cbv
  · have hn : n < 0 := by subst hE; exact lss_t g
    refine E_nm hE (fun v hv => ?_); cbv
    have k : E.sub [E.conv .u32 v, E.conv .u32 (E.bin .shr .u64 v 32)] 0 2 = m := by
      subst hE
      exact wn v (by have a : u = IntKind.u64.wrap n := hu; have b : v = IntKind.u64.wrap (0 - u) := hv; have c : (n.natAbs : Int) = -n := Int.ofNat_natAbs_of_nonpos (by omega); simp only [wu64] at a b; exact (show v = -n by omega).trans c.symm)
    (first | (apply E_pcallX hE (c_wMake _ _ ?_ ?_); (case hm => rfl); (case hle => (repeat' (first | exact u_nil | apply u_cons | apply u2_agg | exact u2_int | exact u1_int | exact u2_bool | exact u1_bool | exact u2_sli | exact u1_sli | exact u2_s0 | exact u1_s0))); all_goals (first | (intro t ht; cbv) | (first | exact k ▸ lb | exact k ▸ ll))) | (apply E_callX hE (c_wMake _ _ ?_ ?_); (case hf => rfl); (case hc => (cbv <;> trivial)); (case hle => (repeat' (first | exact u_nil | apply u_cons | apply u2_agg | exact u2_int | exact u1_int | exact u2_bool | exact u1_bool | exact u2_sli | exact u1_sli | exact u2_s0 | exact u1_s0))); all_goals (first | (intro t ht; cbv) | (first | exact k ▸ lb | exact k ▸ ll))))
    rw [← fin _ _ t (by subst hE; rfl) k ht]; exact ⟨rfl, rfl, trivial⟩
  · have hn : ¬ n < 0 := by subst hE; exact lss_f g
    have k : E.sub [E.conv .u32 u, E.conv .u32 (E.bin .shr .u64 u 32)] 0 2 = m := by
      subst hE
      exact wn u (by have a : u = IntKind.u64.wrap n := hu; have c : (n.natAbs : Int) = n := Int.natAbs_of_nonneg (by omega); simp only [wu64] at a; exact (show u = n by omega).trans c.symm)
    (first | (apply E_pcallX hE (c_wMake _ _ ?_ ?_); (case hm => rfl); (case hle => (repeat' (first | exact u_nil | apply u_cons | apply u2_agg | exact u2_int | exact u1_int | exact u2_bool | exact u1_bool | exact u2_sli | exact u1_sli | exact u2_s0 | exact u1_s0))); all_goals (first | (intro t ht; cbv) | (first | exact k ▸ lb | exact k ▸ ll))) | (apply E_callX hE (c_wMake _ _ ?_ ?_); (case hf => rfl); (case hc => (cbv <;> trivial)); (case hle => (repeat' (first | exact u_nil | apply u_cons | apply u2_agg | exact u2_int | exact u1_int | exact u2_bool | exact u1_bool | exact u2_sli | exact u1_sli | exact u2_s0 | exact u1_s0))); all_goals (first | (intro t ht; cbv) | (first | exact k ▸ lb | exact k ▸ ll))))
    rw [← fin _ _ t (by subst hE; rfl) k ht]; exact ⟨rfl, rfl, trivial⟩

theorem c_wSign (na : Bool) (a : List Int) (ha : Lb a) (hla : a.length < 67108864) : ∃ t : Int, t = (if lv a = 0 then 0 else if na then -1 else 1) ∧ CallsA Tryz.prog 16 [.agg [.bool (.s na), .sli .u32 a]] (.int .i64 (.s t)) := by
  refine ⟨_, rfl, ?_⟩
  generalize hr : (if lv a = 0 then 0 else if na then -1 else 1 : Int) = r
  have z : lv a = 0 → 0 = r := fun h => by rw [← hr, if_pos h]
  have o : lv a ≠ 0 → na = true → -1 = r := fun h k => by rw [← hr, if_neg h, if_pos k]
  have p : lv a ≠ 0 → na = false → 1 = r := fun h k => by rw [← hr, if_neg h, k]; rfl
  have bz : blen (lv a : Int) = 0 ↔ lv a = 0 := by
    constructor
    · intro h
      rcases Nat.eq_zero_or_pos (lv a) with k | k
      · exact k
      · obtain ⟨n, hn, _⟩ := blen_pos (x := (lv a : Int)) (by omega); omega
    · intro h; rw [h]; rfl
  clear hr
  refine callsA_of hG hm Tryz.func16 (by kernel_rfl) ?_
  intro E hE lp hl'
  cbv
  (first | (apply E_pcallX hE (c_natLen a ha hla); (case hm => rfl); (case hle => (repeat' (first | exact u_nil | apply u_cons | apply u2_agg | exact u2_int | exact u1_int | exact u2_bool | exact u1_bool | exact u2_sli | exact u1_sli | exact u2_s0 | exact u1_s0))); all_goals (first | (intro t ht; cbv) | (assumption))) | (apply E_callX hE (c_natLen a ha hla); (case hf => rfl); (case hc => (cbv <;> trivial)); (case hle => (repeat' (first | exact u_nil | apply u_cons | apply u2_agg | exact u2_int | exact u1_int | exact u2_bool | exact u1_bool | exact u2_sli | exact u1_sli | exact u2_s0 | exact u1_s0))); all_goals (first | (intro t ht; cbv) | (assumption))))
  have ht : t = blen (lv a : Int) := ht
  refine E_br hE (fun g => ?_) (fun g => ?_) <;> cbv
  · rw [← z (bz.1 (ht ▸ (by subst hE; exact eql_t g)))]
  have nz : lv a ≠ 0 := fun h => (show ¬ t = 0 by subst hE; exact eql_f g) (ht.trans (bz.2 h))
  refine E_br hE (fun g => ?_) (fun g => ?_) <;> cbv
  · rw [← o nz g]
  · rw [← p nz g]

end Go.Proofs.YtaiillbjhdoikaaGreat.Ev

/- Contracts: what is left of limbs. Printed by gen.py. -/
namespace Go.Proofs.YtaiillbjhdoikaaGreat.Ev
open Go Go.Proofs
set_option linter.unusedVariables false
set_option linter.unusedSimpArgs false


attribute [local irreducible] Lb
def subI (E : Env) (x y : List Int) : Int × Int × List Int → St := fun p => ⟨[(0, .sli .u32 x), (1, .sli .u32 y), (6, .ms 0 1 (.l 0) (.s (E.len x))), (7, .int .u32 (.s p.2.1)), (22, .int .i64 (.s (E.len x))), (23, .int .i64 (.s p.1))], [.ints true .u32 p.2.2]⟩
theorem c_natSub (a b : List Int) (ha : Lb a) (hb : Lb b) (hla : a.length < 134217728) (hlb : b.length < 134217728) : ∃ t : List Int × Bool, t = (if lv a < lv b then ([], false) else (lim (lv a - lv b), true)) ∧ CallsA Tryz.prog 45 [.sli .u32 a, .sli .u32 b] (.tup [.sli .u32 t.1, .bool (.s t.2)]) := by
  refine ⟨_, rfl, ?_⟩
  generalize hr : (if lv a < lv b then ([], false) else (lim (lv a - lv b), true) : List Int × Bool) = r
  have hlx := lim_length_le' ha
  have hly := lim_length_le' hb
  have hx := lim_lb (lv a)
  have hy := lim_lb (lv b)
  have vx := lv_lim (lv a)
  have vy := lv_lim (lv b)
  have hlen : lv b ≤ lv a → (lim (lv b)).length ≤ (lim (lv a)).length := lim_mono
  obtain ⟨x, ex⟩ : ∃ x, lim (lv a) = x := ⟨_, rfl⟩
  obtain ⟨y, ey⟩ : ∃ y, lim (lv b) = y := ⟨_, rfl⟩
  rw [ex] at hlx hx vx hlen
  rw [ey] at hly hy vy hlen
  rw [← vx, ← vy] at hr hlen
  have lx : x.length < 134217728 := by omega
  have ly : y.length < 134217728 := by omega
  have cx : x.length ≤ 268435456 := by omega
  have cy : y.length ≤ 268435456 := by omega
  have ca : a.length < 9223372036854775808 := by omega
  have cb : b.length < 9223372036854775808 := by omega
  refine callsA_of hG hm Tryz.func45 (by kernel_rfl) ?_
  intro E hE lp hl
  cbv
  (first | (apply E_pcallX hE (c_cut a ha ca); (case hm => rfl); (case hle => (repeat' (first | exact u_nil | apply u_cons | apply u2_agg | exact u2_int | exact u1_int | exact u2_bool | exact u1_bool | exact u2_sli | exact u1_sli | exact u2_s0 | exact u1_s0))); all_goals (first | (intro x' hx'; cbv) | (assumption))) | (apply E_callX hE (c_cut a ha ca); (case hf => rfl); (case hc => (cbv <;> trivial)); (case hle => (repeat' (first | exact u_nil | apply u_cons | apply u2_agg | exact u2_int | exact u1_int | exact u2_bool | exact u1_bool | exact u2_sli | exact u1_sli | exact u2_s0 | exact u1_s0))); all_goals (first | (intro x' hx'; cbv) | (assumption))))
  have hx2 : x' = x := Eq.trans hx' ex
  rw [hx2]
  clear hx' hx2
  (first | (apply E_pcallX hE (c_cut b hb cb); (case hm => rfl); (case hle => (repeat' (first | exact u_nil | apply u_cons | apply u2_agg | exact u2_int | exact u1_int | exact u2_bool | exact u1_bool | exact u2_sli | exact u1_sli | exact u2_s0 | exact u1_s0))); all_goals (first | (intro y' hy'; cbv) | (assumption))) | (apply E_callX hE (c_cut b hb cb); (case hf => rfl); (case hc => (cbv <;> trivial)); (case hle => (repeat' (first | exact u_nil | apply u_cons | apply u2_agg | exact u2_int | exact u1_int | exact u2_bool | exact u1_bool | exact u2_sli | exact u1_sli | exact u2_s0 | exact u1_s0))); all_goals (first | (intro y' hy'; cbv) | (assumption))))
  have hy2 : y' = y := Eq.trans hy' ey
  rw [hy2]
  clear hy' hy2
  (first | (apply E_pcallX hE (c_natCmp x y hx hy cx cy); (case hm => rfl); (case hle => (repeat' (first | exact u_nil | apply u_cons | apply u2_agg | exact u2_int | exact u1_int | exact u2_bool | exact u1_bool | exact u2_sli | exact u1_sli | exact u2_s0 | exact u1_s0))); all_goals (first | (intro q hq; cbv) | (assumption))) | (apply E_callX hE (c_natCmp x y hx hy cx cy); (case hf => rfl); (case hc => (cbv <;> trivial)); (case hle => (repeat' (first | exact u_nil | apply u_cons | apply u2_agg | exact u2_int | exact u1_int | exact u2_bool | exact u1_bool | exact u2_sli | exact u1_sli | exact u2_s0 | exact u1_s0))); all_goals (first | (intro q hq; cbv) | (assumption))))
  have hq : q = (if lv x < lv y then -1 else if lv y < lv x then 1 else 0 : Int) := hq
  refine E_br hE (fun g => ?_) (fun g => ?_)
  · have g : q < 0 := by subst hE; exact lss_t g
    have k : lv x < lv y := by
      by_cases k : lv x < lv y
      · exact k
      · rw [hq, if_neg k] at g; split at g <;> omega
    rw [if_pos k] at hr
    cbv
    rw [← hr]
    exact ⟨rfl, rfl, trivial⟩
  have hle : lv y ≤ lv x := by
    have g : ¬ q < 0 := by subst hE; exact lss_f g
    by_cases k : lv x < lv y
    · rw [hq, if_pos k] at g; exact absurd (by decide) g
    · omega
  rw [if_neg (by omega)] at hr
  have hxy := hlen hle
  clear hq g hlen
  cbv
  repeat' (first
    | (refine E_br hE (fun h => ?_) (fun h => ?_) <;> cbv)
    | (refine E_nm hE (fun v hv => ?_); cbv)
    | (refine E_nilS hE (fun b hb => ?_); cbv)
    | fail)
  all_goals (try (exfalso; subst hE; simp only [NatCast.natCast, Int.ofNat_eq_natCast, realE, cmp_eql, cmp_neq, cmp_lss, cmp_leq, cmp_gtr, cmp_geq, intBinR, decide_eq_true_eq, decide_eq_false_iff_not, SI.val, SB.val, Num.eta, Iv.eta] at *; omega))
  obtain ⟨m, em⟩ : ∃ m : Int × Int × List Int → Nat, ∀ p, m p = (x.length - p.1).toNat := ⟨_, fun _ => rfl⟩
  obtain ⟨ok, eok⟩ : ∃ ok : Int × Int × List Int → Prop, ∀ p, ok p ↔ 0 ≤ p.1 ∧ p.1 ≤ x.length ∧ SubInv x y p.2.2 p.1.toNat p.2.1 := ⟨_, fun _ => Iff.rfl⟩
  refine E_loop hE hG hm hl (subI E x y) m ok ⟨(0, 0, E.rep (E.len x)), (eok _).2 ?_, stLe rfl ?_⟩ ?_
  · refine ⟨by show (0 : Int) ≤ 0; omega, by show (0 : Int) ≤ x.length; omega, ?_⟩
    have := SubInv.start x y
    subst hE; simp only [NatCast.natCast, Int.ofNat_eq_natCast, realE, cmp_eql, cmp_neq, cmp_lss, cmp_leq, cmp_gtr, cmp_geq, intBinR, decide_eq_true_eq, decide_eq_false_iff_not, SI.val, SB.val, Num.eta, Iv.eta] at *
    exact this
  · (repeat' (first | exact t_nil | apply t_cons | exact u2_sli | exact u2_int | exact u2_bool | exact u2_ms | exact u2_ptr | exact (rfl : sle2 .s0 .s0)))
  rintro ⟨i, c, out⟩ hok
  obtain ⟨h1, h2, inv⟩ := (eok _).1 hok
  dsimp only at h1 h2 inv
  have hgx := hx.getD i.toNat
  have hgy := hy.getD i.toNat
  have hc0 := inv.c0
  have hc1 := inv.c1
  have hol := inv.len
  have next : ∀ (j k c' z : Int) (v : Int × Int), i < x.length → k = i → j = IntKind.i64.wrap (i + 1) → (z = y.getD k.toNat 0 ∨ (¬ k < y.length ∧ z = 0)) →
      v = ((x.getD k.toNat 0 - z - c) % 4294967296, (if x.getD k.toNat 0 < z + c then 1 else 0 : Int)) → c' = v.2 →
      m (j, c', out.set k.toNat v.1) < m (i, c, out) ∧ ok (j, c', out.set k.toNat v.1) := by
    intro j k c' z v h hk hj hz hv hc
    subst hk
    have hz : z = y.getD k.toNat 0 := by
      rcases hz with hz | ⟨hz, h0⟩
      · exact hz
      · rw [h0, getD_past (by omega)]
    have hj : j = k + 1 := by rw [hj, wi64_id (by omega) (by omega)]
    refine ⟨by rw [em, em]; show ((x.length : Int) - j).toNat < ((x.length : Int) - k).toNat; omega, (eok _).2 ⟨by show 0 ≤ j; omega, by show j ≤ (x.length : Int); omega, ?_⟩⟩
    have := inv.step hx hy (by omega)
    rw [← hz] at this
    rw [hc, hv, hj]
    show SubInv x y (out.set k.toNat ((x.getD k.toNat 0 - z - c) % 4294967296)) (k + 1).toNat (if x.getD k.toNat 0 < z + c then 1 else 0)
    rw [show (k + 1).toNat = k.toNat + 1 by omega]
    exact this
  have fin : ¬ i < x.length → Lb out ∧ (lim (lv out), true) = r := by
    intro h
    rw [show i.toNat = x.length by omega] at inv
    exact ⟨inv.lb, by rw [inv.stop hx hle hxy]; exact hr⟩
  clear inv hok hr
  cbv
  repeat' (first
    | (refine E_br hE (fun h => ?_) (fun h => ?_) <;> cbv)
    | (refine E_nm hE (fun v hv => ?_); cbv)
    | (refine E_nilS hE (fun b hb => ?_); cbv)
    | (apply E_callX hE (c_Sub32 _ _ _ ?_ ?_ ?_ ?_ ?_ ?_); (case hf => rfl); (case hc => (cbv <;> trivial)); (case hle => (repeat' (first | exact u_nil | apply u_cons | apply u2_agg | exact u2_int | exact u1_int | exact u2_bool | exact u1_bool | exact u2_sli | exact u1_sli | exact u2_s0 | exact u1_s0))); all_goals (first | (intro t ht; cbv) | (subst hE; (try simp only [NatCast.natCast, Int.ofNat_eq_natCast, realE, cmp_eql, cmp_neq, cmp_lss, cmp_leq, cmp_gtr, cmp_geq, intBinR, decide_eq_true_eq, decide_eq_false_iff_not, SI.val, SB.val, Num.eta, Iv.eta] at *); subst_vars; (first | assumption | omega))))
    | (apply E_callX hE (c_cut _ ?_ ?_); (case hf => rfl); (case hc => (cbv <;> trivial)); (case hle => (repeat' (first | exact u_nil | apply u_cons | apply u2_agg | exact u2_int | exact u1_int | exact u2_bool | exact u1_bool | exact u2_sli | exact u1_sli | exact u2_s0 | exact u1_s0))); all_goals (first | (intro t ht; cbv) | ((subst hE; simp only [NatCast.natCast, Int.ofNat_eq_natCast, realE, cmp_eql, cmp_neq, cmp_lss, cmp_leq, cmp_gtr, cmp_geq, intBinR, decide_eq_true_eq, decide_eq_false_iff_not, SI.val, SB.val, Num.eta, Iv.eta] at *; rw [sub_all (by omega)]; first | exact (fin ‹_›).1 | omega))))
    | fail)
  all_goals (try refine ⟨(E.bin .add .i64 i 1, v, E.set out _ t.1), ?_, ?_, stLe rfl ?_⟩)
  all_goals (try ((repeat' (first | exact t_nil | apply t_cons | exact u2_sli | exact u2_int | exact u2_bool | exact u2_ms | exact u2_ptr | exact (rfl : sle2 .s0 .s0))); done))
  all_goals (subst hE; simp only [NatCast.natCast, Int.ofNat_eq_natCast, realE, cmp_eql, cmp_neq, cmp_lss, cmp_leq, cmp_gtr, cmp_geq, intBinR, decide_eq_true_eq, decide_eq_false_iff_not, SI.val, SB.val, Num.eta, Iv.eta] at *)
  all_goals (first | exact (next _ _ _ _ _ ‹_› ‹_› rfl (by first | exact .inl ‹_› | exact .inr ⟨‹_›, rfl⟩) ‹t = _› ‹_›).1 | exact (next _ _ _ _ _ ‹_› ‹_› rfl (by first | exact .inl ‹_› | exact .inr ⟨‹_›, rfl⟩) ‹t = _› ‹_›).2 | (exfalso; clear next fin; omega) | skip)
  have k := fin ‹_›
  rw [← k.2]
  refine ⟨?_, rfl, trivial⟩
  rw [‹t = _›, sub_all (by omega)]

end Go.Proofs.YtaiillbjhdoikaaGreat.Ev

/- Contracts: whole numbers, by their values. Printed by gen.py. -/
namespace Go.Proofs.YtaiillbjhdoikaaGreat.Ev
open Go Go.Proofs
set_option linter.unusedVariables false
set_option linter.unusedSimpArgs false

attribute [local irreducible] Lb
/-- the value of a whole number -/
def wv (na : Bool) (a : List Int) : Int := if na then -(lv a : Int) else lv a
/-- a whole number, as it may be -/
def whN (z : Int) : Bool × List Int := (decide (z < 0), lim z.natAbs)
theorem whN_of (na : Bool) (n : Nat) : (na && decide (n ≠ 0), lim n) = whN (if na then -(n : Int) else n) := by
  unfold whN
  cases na
  · simp only [Bool.false_and, Bool.false_eq_true, if_false]
    rw [decide_eq_false (by omega), Int.natAbs_natCast]
  · simp only [Bool.true_and, if_true]
    rw [Int.natAbs_neg, Int.natAbs_natCast]
    congr 1
    apply decide_eq_decide.2; omega
theorem wv_whN (z : Int) : wv (whN z).1 (whN z).2 = z := by
  unfold wv whN
  simp only [lv_lim, decide_eq_true_eq]
  split <;> omega
theorem whN_lb (z : Int) : Lb (whN z).2 := lim_lb _
theorem whN_len {z : Int} {k : Nat} (h : z.natAbs < 4294967296 ^ k) : (whN z).2.length ≤ k := lim_length_le h
theorem c_wAdd (na : Bool) (a : List Int) (nb : Bool) (b : List Int) (ha : Lb a) (hb : Lb b) (hla : a.length < 134217728) (hlb : b.length < 134217728) :
    ∃ t : Bool × List Int, t = whN (wv na a + wv nb b) ∧ CallsA Tryz.prog 18 [.agg [.bool (.s na), .sli .u32 a], .agg [.bool (.s nb), .sli .u32 b]] (.agg [.bool (.s t.1), .sli .u32 t.2]) := by
  refine ⟨_, rfl, ?_⟩
  generalize hr : whN (wv na a + wv nb b) = r
  have la : a.length < 268435456 := by omega
  have lb : b.length < 268435456 := by omega
  have one : na = nb → (na && decide (lv a + lv b ≠ 0), lim (lv a + lv b)) = r := by
    intro e; subst e
    rw [← hr, whN_of]; unfold wv; congr 1; cases na <;> simp; omega
  have two : na ≠ nb → ¬ lv a < lv b → (na && decide (lv a - lv b ≠ 0), lim (lv a - lv b)) = r := by
    intro e h
    rw [← hr, whN_of]; unfold wv; congr 1; cases na <;> cases nb <;> simp at e ⊢ <;> omega
  have three : na ≠ nb → lv a < lv b → (nb && decide (lv b - lv a ≠ 0), lim (lv b - lv a)) = r := by
    intro e h
    rw [← hr, whN_of]; unfold wv; congr 1; cases na <;> cases nb <;> simp at e ⊢ <;> omega
  have lim1 : (lim (lv a + lv b)).length ≤ 268435456 := by have h := lim_add_len (m := lv a) (n := lv b) (k := 134217728) (by have := lim_length_le' ha; omega) (by have := lim_length_le' hb; omega); omega
  have lim2 : (lim (lv a - lv b)).length ≤ 268435456 := by have := lim_mono (Nat.sub_le (lv a) (lv b)); have := lim_length_le' ha; omega
  have lim3 : (lim (lv b - lv a)).length ≤ 268435456 := by have := lim_mono (Nat.sub_le (lv b) (lv a)); have := lim_length_le' hb; omega
  clear hr
  refine callsA_of hG hm Tryz.func18 (by kernel_rfl) ?_
  intro E hE lp hl'
  cbv
  refine E_br hE (fun g => ?_) (fun g => ?_) <;> cbv
  · have g : na = nb := by subst hE; exact eq_of_beq g
    (first | (apply E_pcallX hE (c_natAdd a b ha hb la lb); (case hm => rfl); (case hle => (repeat' (first | exact u_nil | apply u_cons | apply u2_agg | exact u2_int | exact u1_int | exact u2_bool | exact u1_bool | exact u2_sli | exact u1_sli | exact u2_s0 | exact u1_s0))); all_goals (first | (intro u hu; cbv) | (assumption))) | (apply E_callX hE (c_natAdd a b ha hb la lb); (case hf => rfl); (case hc => (cbv <;> trivial)); (case hle => (repeat' (first | exact u_nil | apply u_cons | apply u2_agg | exact u2_int | exact u1_int | exact u2_bool | exact u1_bool | exact u2_sli | exact u1_sli | exact u2_s0 | exact u1_s0))); all_goals (first | (intro u hu; cbv) | (assumption))))
    have hu : u = lim (lv a + lv b) := hu
    have ub : Lb u := by rw [hu]; exact lim_lb _
    have ul : u.length ≤ 268435456 := by rw [hu]; exact lim1
    (first | (apply E_pcallX hE (c_wMake na u ub ul); (case hm => rfl); (case hle => (repeat' (first | exact u_nil | apply u_cons | apply u2_agg | exact u2_int | exact u1_int | exact u2_bool | exact u1_bool | exact u2_sli | exact u1_sli | exact u2_s0 | exact u1_s0))); all_goals (first | (intro t ht; cbv) | (assumption))) | (apply E_callX hE (c_wMake na u ub ul); (case hf => rfl); (case hc => (cbv <;> trivial)); (case hle => (repeat' (first | exact u_nil | apply u_cons | apply u2_agg | exact u2_int | exact u1_int | exact u2_bool | exact u1_bool | exact u2_sli | exact u1_sli | exact u2_s0 | exact u1_s0))); all_goals (first | (intro t ht; cbv) | (assumption))))
    have k : t = r := by
      have k : t = (na && decide (lv u ≠ 0), lim (lv u)) := ht
      rw [k, hu, lv_lim]; exact one g
    rw [← k]; exact ⟨rfl, rfl, trivial⟩
  · have g : na ≠ nb := by subst hE; intro e; rw [e] at g; exact absurd ((beq_self_eq_true nb).symm.trans g) (by decide)
    (first | (apply E_pcallX hE (c_natSub a b ha hb hla hlb); (case hm => rfl); (case hle => (repeat' (first | exact u_nil | apply u_cons | apply u2_agg | exact u2_int | exact u1_int | exact u2_bool | exact u1_bool | exact u2_sli | exact u1_sli | exact u2_s0 | exact u1_s0))); all_goals (first | (intro u hu; cbv) | (assumption))) | (apply E_callX hE (c_natSub a b ha hb hla hlb); (case hf => rfl); (case hc => (cbv <;> trivial)); (case hle => (repeat' (first | exact u_nil | apply u_cons | apply u2_agg | exact u2_int | exact u1_int | exact u2_bool | exact u1_bool | exact u2_sli | exact u1_sli | exact u2_s0 | exact u1_s0))); all_goals (first | (intro u hu; cbv) | (assumption))))
    have hu : u = (if lv a < lv b then ([], false) else (lim (lv a - lv b), true)) := hu
    refine E_br hE (fun q => ?_) (fun q => ?_) <;> cbv
    · have n : ¬ lv a < lv b := by intro h; rw [hu, if_pos h] at q; cases q
      have u1 : u.1 = lim (lv a - lv b) := by rw [hu, if_neg n]
      have ub : Lb u.1 := by rw [u1]; exact lim_lb _
      have ul : u.1.length ≤ 268435456 := by rw [u1]; exact lim2
      (first | (apply E_pcallX hE (c_wMake na u.1 ub ul); (case hm => rfl); (case hle => (repeat' (first | exact u_nil | apply u_cons | apply u2_agg | exact u2_int | exact u1_int | exact u2_bool | exact u1_bool | exact u2_sli | exact u1_sli | exact u2_s0 | exact u1_s0))); all_goals (first | (intro t ht; cbv) | (assumption))) | (apply E_callX hE (c_wMake na u.1 ub ul); (case hf => rfl); (case hc => (cbv <;> trivial)); (case hle => (repeat' (first | exact u_nil | apply u_cons | apply u2_agg | exact u2_int | exact u1_int | exact u2_bool | exact u1_bool | exact u2_sli | exact u1_sli | exact u2_s0 | exact u1_s0))); all_goals (first | (intro t ht; cbv) | (assumption))))
      have k : t = r := by
        have k : t = (na && decide (lv u.1 ≠ 0), lim (lv u.1)) := ht
        rw [k, u1, lv_lim]; exact two g n
      rw [← k]; exact ⟨rfl, rfl, trivial⟩
    · have n : lv a < lv b := by
        by_cases h : lv a < lv b
        · exact h
        · rw [hu, if_neg h] at q; cases q
      (first | (apply E_pcallX hE (c_natSub b a hb ha hlb hla); (case hm => rfl); (case hle => (repeat' (first | exact u_nil | apply u_cons | apply u2_agg | exact u2_int | exact u1_int | exact u2_bool | exact u1_bool | exact u2_sli | exact u1_sli | exact u2_s0 | exact u1_s0))); all_goals (first | (intro u2 hu2; cbv) | (assumption))) | (apply E_callX hE (c_natSub b a hb ha hlb hla); (case hf => rfl); (case hc => (cbv <;> trivial)); (case hle => (repeat' (first | exact u_nil | apply u_cons | apply u2_agg | exact u2_int | exact u1_int | exact u2_bool | exact u1_bool | exact u2_sli | exact u1_sli | exact u2_s0 | exact u1_s0))); all_goals (first | (intro u2 hu2; cbv) | (assumption))))
      have hu2 : u2 = (if lv b < lv a then ([], false) else (lim (lv b - lv a), true)) := hu2
      have u1 : u2.1 = lim (lv b - lv a) := by rw [hu2, if_neg (by omega)]
      have ub : Lb u2.1 := by rw [u1]; exact lim_lb _
      have ul : u2.1.length ≤ 268435456 := by rw [u1]; exact lim3
      (first | (apply E_pcallX hE (c_wMake nb u2.1 ub ul); (case hm => rfl); (case hle => (repeat' (first | exact u_nil | apply u_cons | apply u2_agg | exact u2_int | exact u1_int | exact u2_bool | exact u1_bool | exact u2_sli | exact u1_sli | exact u2_s0 | exact u1_s0))); all_goals (first | (intro t ht; cbv) | (assumption))) | (apply E_callX hE (c_wMake nb u2.1 ub ul); (case hf => rfl); (case hc => (cbv <;> trivial)); (case hle => (repeat' (first | exact u_nil | apply u_cons | apply u2_agg | exact u2_int | exact u1_int | exact u2_bool | exact u1_bool | exact u2_sli | exact u1_sli | exact u2_s0 | exact u1_s0))); all_goals (first | (intro t ht; cbv) | (assumption))))
      have k : t = r := by
        have k : t = (nb && decide (lv u2.1 ≠ 0), lim (lv u2.1)) := ht
        rw [k, u1, lv_lim]; exact three g n
      rw [← k]; exact ⟨rfl, rfl, trivial⟩

theorem c_wSub (na : Bool) (a : List Int) (nb : Bool) (b : List Int) (ha : Lb a) (hb : Lb b) (hla : a.length < 134217728) (hlb : b.length < 134217728) :
    ∃ t : Bool × List Int, t = whN (wv na a - wv nb b) ∧ CallsA Tryz.prog 26 [.agg [.bool (.s na), .sli .u32 a], .agg [.bool (.s nb), .sli .u32 b]] (.agg [.bool (.s t.1), .sli .u32 t.2]) := by
  refine ⟨_, rfl, ?_⟩
  generalize hr : whN (wv na a - wv nb b) = r
  have lb : b.length ≤ 268435456 := by omega
  have lim1 := lim_length_le' hb
  have vn : wv (!nb && decide (lv b ≠ 0)) (lim (lv b)) = - wv nb b := by
    unfold wv; rw [lv_lim]; by_cases h : lv b = 0 <;> cases nb <;> simp [h]
  refine callsA_of hG hm Tryz.func26 (by kernel_rfl) ?_
  intro E hE lp hl'
  cbv
  (first | (apply E_pcallX hE (c_wNeg nb b hb lb); (case hm => rfl); (case hle => (repeat' (first | exact u_nil | apply u_cons | apply u2_agg | exact u2_int | exact u1_int | exact u2_bool | exact u1_bool | exact u2_sli | exact u1_sli | exact u2_s0 | exact u1_s0))); all_goals (first | (intro u hu; cbv) | (assumption))) | (apply E_callX hE (c_wNeg nb b hb lb); (case hf => rfl); (case hc => (cbv <;> trivial)); (case hle => (repeat' (first | exact u_nil | apply u_cons | apply u2_agg | exact u2_int | exact u1_int | exact u2_bool | exact u1_bool | exact u2_sli | exact u1_sli | exact u2_s0 | exact u1_s0))); all_goals (first | (intro u hu; cbv) | (assumption))))
  have hu : u = (!nb && decide (lv b ≠ 0), lim (lv b)) := hu
  have vu : wv u.1 u.2 = - wv nb b := by rw [hu]; exact vn
  have ub : Lb u.2 := by rw [hu]; exact lim_lb _
  have ul : u.2.length < 134217728 := by rw [hu]; show (lim (lv b)).length < _; omega
  (first | (apply E_pcallX hE (c_wAdd na a u.1 u.2 ha ub hla ul); (case hm => rfl); (case hle => (repeat' (first | exact u_nil | apply u_cons | apply u2_agg | exact u2_int | exact u1_int | exact u2_bool | exact u1_bool | exact u2_sli | exact u1_sli | exact u2_s0 | exact u1_s0))); all_goals (first | (intro t ht; cbv) | (assumption))) | (apply E_callX hE (c_wAdd na a u.1 u.2 ha ub hla ul); (case hf => rfl); (case hc => (cbv <;> trivial)); (case hle => (repeat' (first | exact u_nil | apply u_cons | apply u2_agg | exact u2_int | exact u1_int | exact u2_bool | exact u1_bool | exact u2_sli | exact u1_sli | exact u2_s0 | exact u1_s0))); all_goals (first | (intro t ht; cbv) | (assumption))))
  have k : t = r := by
    have k : t = whN (wv na a + wv u.1 u.2) := ht
    rw [k, vu, ← hr]; rfl
  rw [← k]; exact ⟨rfl, rfl, trivial⟩

end Go.Proofs.YtaiillbjhdoikaaGreat.Ev

/- Contracts: the scale of fixed numbers, a number so many times; quotients of numbers above nought. Printed by gen.py. -/
namespace Go.Proofs.YtaiillbjhdoikaaGreat.Ev
open Go Go.Proofs
set_option linter.unusedVariables false
set_option linter.unusedSimpArgs false

attribute [local irreducible] Lb
def piOne : Nat := 2 ^ 192
theorem c_piScale : ∃ t : Bool × List Int, t = whN (piOne : Int) ∧ CallsA Tryz.prog 10 [] (.agg [.bool (.s t.1), .sli .u32 t.2]) := by
  refine ⟨_, rfl, ?_⟩
  generalize hr : whN (piOne : Int) = r
  have l1 : Lb [(1 : Int)] := Lb.cons (by decide) (by decide) Lb.nil
  have v1 : lv [(1 : Int)] = 1 := rfl
  have fin : (false && decide (2 ^ 192 ≠ 0), lim (2 ^ 192)) = r := by rw [← hr, show piOne = 2 ^ 192 from rfl, whN_of]; rfl
  have len : (lim (2 ^ 192)).length ≤ 268435456 := Nat.le_trans (lim_length_le (k := 7) (by decide +kernel)) (by decide)
  clear hr
  refine callsA_of hG hm Tryz.func10 (by kernel_rfl) ?_
  intro E hE lp hl'
  have es : E.sub [1] 0 1 = [1] := by subst hE; rfl
  cbv
  (first | (apply E_pcallX hE (c_natShl _ 192 ?_ ?_); (case hm => rfl); (case hle => (repeat' (first | exact u_nil | apply u_cons | apply u2_agg | exact u2_int | exact u1_int | exact u2_bool | exact u1_bool | exact u2_sli | exact u1_sli | exact u2_s0 | exact u1_s0))); all_goals (first | (intro u hu; cbv) | (first | (show Lb (E.sub [1] 0 1); rw [es]; exact l1) | (show (E.sub [1] 0 1).length < 67108864; rw [es]; decide)))) | (apply E_callX hE (c_natShl _ 192 ?_ ?_); (case hf => rfl); (case hc => (cbv <;> trivial)); (case hle => (repeat' (first | exact u_nil | apply u_cons | apply u2_agg | exact u2_int | exact u1_int | exact u2_bool | exact u1_bool | exact u2_sli | exact u1_sli | exact u2_s0 | exact u1_s0))); all_goals (first | (intro u hu; cbv) | (first | (show Lb (E.sub [1] 0 1); rw [es]; exact l1) | (show (E.sub [1] 0 1).length < 67108864; rw [es]; decide)))))
  have hu : u = lim (2 ^ 192) := by
    have k : u = (if (192 : Int) < 1 then lim (lv (E.sub [1] 0 1)) else if 16777216 < (192 : Int) then [] else lim (lv (E.sub [1] 0 1) * 2 ^ (192 : Int).toNat)) := hu
    rw [k, es, v1, if_neg (by decide), if_neg (by decide), Nat.one_mul]; rfl
  have ub : Lb u := by rw [hu]; exact lim_lb _
  have ul : u.length ≤ 268435456 := by rw [hu]; exact len
  (first | (apply E_pcallX hE (c_wMake false u ub ul); (case hm => rfl); (case hle => (repeat' (first | exact u_nil | apply u_cons | apply u2_agg | exact u2_int | exact u1_int | exact u2_bool | exact u1_bool | exact u2_sli | exact u1_sli | exact u2_s0 | exact u1_s0))); all_goals (first | (intro t ht; cbv) | (assumption))) | (apply E_callX hE (c_wMake false u ub ul); (case hf => rfl); (case hc => (cbv <;> trivial)); (case hle => (repeat' (first | exact u_nil | apply u_cons | apply u2_agg | exact u2_int | exact u1_int | exact u2_bool | exact u1_bool | exact u2_sli | exact u1_sli | exact u2_s0 | exact u1_s0))); all_goals (first | (intro t ht; cbv) | (assumption))))
  have k : t = r := by
    have k : t = (false && decide (lv u ≠ 0), lim (lv u)) := ht
    rw [k, hu, lv_lim]; exact fin
  rw [← k]; exact ⟨rfl, rfl, trivial⟩

theorem mulN (na : Bool) (a : List Int) (nb : Bool) (b : List Int) : ((na != nb) && decide (lv a * lv b ≠ 0), lim (lv a * lv b)) = whN (wv na a * wv nb b) := by
  rw [whN_of]; unfold wv; congr 1
  cases na <;> cases nb <;> simp [Int.neg_mul, Int.mul_neg, Int.neg_neg]
theorem c_piTimes (na : Bool) (a : List Int) (n : Int) (ha : Lb a) (hla : a.length < 60000000) (h1 : -9223372036854775808 ≤ n) (h2 : n < 9223372036854775808) :
    ∃ t : Bool × List Int, t = whN (wv na a * n) ∧ CallsA Tryz.prog 27 [.agg [.bool (.s na), .sli .u32 a], .int .i64 (.s n)] (.agg [.bool (.s t.1), .sli .u32 t.2]) := by
  refine ⟨_, rfl, ?_⟩
  generalize hr : whN (wv na a * n) = r
  have len : (lim n.natAbs).length < 60000000 := Nat.lt_of_le_of_lt (lim_length_le (k := 2) (by rw [show (4294967296 : Nat) ^ 2 = 18446744073709551616 by decide +kernel]; omega)) (by decide)
  have fin : ∀ (u t : Bool × List Int), u = (decide (n < 0), lim n.natAbs) → t = ((na != u.1) && decide (lv a * lv u.2 ≠ 0), lim (lv a * lv u.2)) → t = r := by
    intro u t hu ht
    rw [ht, mulN, ← hr, show u = whN n from hu, wv_whN]
  clear hr
  refine callsA_of hG hm Tryz.func27 (by kernel_rfl) ?_
  intro E hE lp hl'
  cbv
  (first | (apply E_pcallX hE (c_wFrom n h1 h2); (case hm => rfl); (case hle => (repeat' (first | exact u_nil | apply u_cons | apply u2_agg | exact u2_int | exact u1_int | exact u2_bool | exact u1_bool | exact u2_sli | exact u1_sli | exact u2_s0 | exact u1_s0))); all_goals (first | (intro u hu; cbv) | (assumption))) | (apply E_callX hE (c_wFrom n h1 h2); (case hf => rfl); (case hc => (cbv <;> trivial)); (case hle => (repeat' (first | exact u_nil | apply u_cons | apply u2_agg | exact u2_int | exact u1_int | exact u2_bool | exact u1_bool | exact u2_sli | exact u1_sli | exact u2_s0 | exact u1_s0))); all_goals (first | (intro u hu; cbv) | (assumption))))
  have ub : Lb u.2 := by rw [show u = (decide (n < 0), lim n.natAbs) from hu]; exact lim_lb _
  have ul : u.2.length < 60000000 := by rw [show u = (decide (n < 0), lim n.natAbs) from hu]; exact len
  apply E_pcallX hE (c_wMul2 na a u.1 u.2 ha ub hla ul)
  case hm => rfl
  case hle => exact ⟨u2_slc', trivial⟩
  intro t ht
  cbv
  have k : t = r := fin u t hu ht
  rw [← k]; exact ⟨rfl, rfl, trivial⟩

theorem c_wDivP (a b : List Int) (ha : Lb a) (hb : Lb b) (hla : a.length < 33554432) (hlb : b.length < 33554432) (hb0 : lv b ≠ 0) :
    ∃ t : (Bool × List Int) × (Bool × List Int), t = (whN ((lv a / lv b : Nat) : Int), whN ((lv a % lv b : Nat) : Int)) ∧
      CallsA Tryz.prog 42 [.agg [.bool (.s false), .sli .u32 a], .agg [.bool (.s false), .sli .u32 b]] (.tup [.agg [.bool (.s t.1.1), .sli .u32 t.1.2], .agg [.bool (.s t.2.1), .sli .u32 t.2.2], .bool (.s true)]) := by
  refine ⟨_, rfl, ?_⟩
  generalize hr : (whN ((lv a / lv b : Nat) : Int), whN ((lv a % lv b : Nat) : Int)) = r
  have qn : ∀ (t : Bool × List Int), t = (false && decide (lv a / lv b ≠ 0), lim (lv a / lv b)) → t = r.1 := by
    intro t h; rw [h, ← hr, whN_of]; rfl
  have rn : ∀ (t : Bool × List Int), t = (false && decide (lv a % lv b ≠ 0), lim (lv a % lv b)) → t = r.2 := by
    intro t h; rw [h, ← hr, whN_of]; rfl
  have b1 : b.length < 67108864 := by omega
  have l1 : (lim (lv a / lv b)).length ≤ 268435456 := by have := lim_mono (Nat.div_le_self (lv a) (lv b)); have := lim_length_le' ha; omega
  have l2 : (lim (lv a % lv b)).length < 67108864 := by have := lim_mono (Nat.mod_le (lv a) (lv b)); have := lim_length_le' ha; omega
  have l3 : (lim (lv a % lv b)).length ≤ 268435456 := by omega
  clear hr
  refine callsA_of hG hm Tryz.func42 (by kernel_rfl) ?_
  intro E hE lp hl'
  cbv
  (first | (apply E_pcallX hE (c_natDiv a b ha hb hla hlb); (case hm => rfl); (case hle => (repeat' (first | exact u_nil | apply u_cons | apply u2_agg | exact u2_int | exact u1_int | exact u2_bool | exact u1_bool | exact u2_sli | exact u1_sli | exact u2_s0 | exact u1_s0))); all_goals (first | (intro d hd; cbv) | (assumption))) | (apply E_callX hE (c_natDiv a b ha hb hla hlb); (case hf => rfl); (case hc => (cbv <;> trivial)); (case hle => (repeat' (first | exact u_nil | apply u_cons | apply u2_agg | exact u2_int | exact u1_int | exact u2_bool | exact u1_bool | exact u2_sli | exact u1_sli | exact u2_s0 | exact u1_s0))); all_goals (first | (intro d hd; cbv) | (assumption))))
  have hd : d = (lim (lv a / lv b), lim (lv a % lv b), true) := by
    have k : d = (if lv b = 0 then ([], [], false) else (lim (lv a / lv b), lim (lv a % lv b), true)) := hd
    rw [k, if_neg hb0]
  have d1 : d.1 = lim (lv a / lv b) := by rw [hd]
  have d2 : d.2.1 = lim (lv a % lv b) := by rw [hd]
  have d3 : d.2.2 = true := by rw [hd]
  have db : Lb d.1 := by rw [d1]; exact lim_lb _
  have dc : Lb d.2.1 := by rw [d2]; exact lim_lb _
  have dl : d.1.length ≤ 268435456 := by rw [d1]; exact l1
  have dm : d.2.1.length ≤ 268435456 := by rw [d2]; exact l3
  refine E_br hE (fun g => ?_) (fun g => ?_)
  · exfalso
    have k : E.bnot d.2.2 = true := g
    rw [d3] at k; subst hE; cases k
  cbv
  (first | (apply E_pcallX hE (c_wMake _ d.1 db dl); (case hm => rfl); (case hle => (repeat' (first | exact u_nil | apply u_cons | apply u2_agg | exact u2_int | exact u1_int | exact u2_bool | exact u1_bool | exact u2_sli | exact u1_sli | exact u2_s0 | exact u1_s0))); all_goals (first | (intro x hx; cbv) | (assumption))) | (apply E_callX hE (c_wMake _ d.1 db dl); (case hf => rfl); (case hc => (cbv <;> trivial)); (case hle => (repeat' (first | exact u_nil | apply u_cons | apply u2_agg | exact u2_int | exact u1_int | exact u2_bool | exact u1_bool | exact u2_sli | exact u1_sli | exact u2_s0 | exact u1_s0))); all_goals (first | (intro x hx; cbv) | (assumption))))
  (first | (apply E_pcallX hE (c_wMake _ d.2.1 dc dm); (case hm => rfl); (case hle => (repeat' (first | exact u_nil | apply u_cons | apply u2_agg | exact u2_int | exact u1_int | exact u2_bool | exact u1_bool | exact u2_sli | exact u1_sli | exact u2_s0 | exact u1_s0))); all_goals (first | (intro y hy; cbv) | (assumption))) | (apply E_callX hE (c_wMake _ d.2.1 dc dm); (case hf => rfl); (case hc => (cbv <;> trivial)); (case hle => (repeat' (first | exact u_nil | apply u_cons | apply u2_agg | exact u2_int | exact u1_int | exact u2_bool | exact u1_bool | exact u2_sli | exact u1_sli | exact u2_s0 | exact u1_s0))); all_goals (first | (intro y hy; cbv) | (assumption))))
  have ex : x = r.1 := qn x (by have k : x = ((E.bnot (E.beq false false)) && decide (lv d.1 ≠ 0), lim (lv d.1)) := hx; rw [k, d1, lv_lim]; subst hE; rfl)
  have ey : y = r.2 := rn y (by have k : y = (false && decide (lv d.2.1 ≠ 0), lim (lv d.2.1)) := hy; rw [k, d2, lv_lim])
  have y0 : y = (false, lim (lv a % lv b)) := by have k : y = (false && decide (lv d.2.1 ≠ 0), lim (lv d.2.1)) := hy; rw [k, d2, lv_lim]; rfl
  have yb : Lb y.2 := by rw [y0]; exact lim_lb _
  have yl : y.2.length < 67108864 := by rw [y0]; exact l2
  (first | (apply E_pcallX hE (c_wSign y.1 y.2 yb yl); (case hm => rfl); (case hle => (repeat' (first | exact u_nil | apply u_cons | apply u2_agg | exact u2_int | exact u1_int | exact u2_bool | exact u1_bool | exact u2_sli | exact u1_sli | exact u2_s0 | exact u1_s0))); all_goals (first | (intro s hs; cbv) | (assumption))) | (apply E_callX hE (c_wSign y.1 y.2 yb yl); (case hf => rfl); (case hc => (cbv <;> trivial)); (case hle => (repeat' (first | exact u_nil | apply u_cons | apply u2_agg | exact u2_int | exact u1_int | exact u2_bool | exact u1_bool | exact u2_sli | exact u1_sli | exact u2_s0 | exact u1_s0))); all_goals (first | (intro s hs; cbv) | (assumption))))
  (first | (apply E_pcallX hE (c_wSign false b hb b1); (case hm => rfl); (case hle => (repeat' (first | exact u_nil | apply u_cons | apply u2_agg | exact u2_int | exact u1_int | exact u2_bool | exact u1_bool | exact u2_sli | exact u1_sli | exact u2_s0 | exact u1_s0))); all_goals (first | (intro z hz; cbv) | (assumption))) | (apply E_callX hE (c_wSign false b hb b1); (case hf => rfl); (case hc => (cbv <;> trivial)); (case hle => (repeat' (first | exact u_nil | apply u_cons | apply u2_agg | exact u2_int | exact u1_int | exact u2_bool | exact u1_bool | exact u2_sli | exact u1_sli | exact u2_s0 | exact u1_s0))); all_goals (first | (intro z hz; cbv) | (assumption))))
  have hs : s = 0 ∨ s = 1 := by
    have k : s = (if lv y.2 = 0 then 0 else if y.1 then -1 else 1) := hs
    rw [k, y0]; split
    · exact .inl rfl
    · exact .inr rfl
  have hz : z = 1 := by
    have k : z = (if lv b = 0 then 0 else if false then -1 else 1) := hz
    rw [k, if_neg hb0]; rfl
  refine E_br hE (fun g => ?_) (fun g => ?_)
  · exfalso
    have k : E.bin .mul .i64 s z < 0 := by subst hE; exact lss_t g
    rw [hz] at k
    subst hE
    rcases hs with h | h <;> (rw [h] at k; exact absurd k (by decide))
  cbv
  exact ⟨⟨congrArg Prod.fst ex, congrArg Prod.snd ex, trivial⟩, ⟨congrArg Prod.fst ey, congrArg Prod.snd ey, trivial⟩, trivial⟩

end Go.Proofs.YtaiillbjhdoikaaGreat.Ev

/- Contracts of the reference: whole numbers of 64 bits, opposites, differences; quotients of numbers above nought; the scale. Printed by gen.py. -/
namespace Go.Proofs.YtaiillbjhdoikaaGreat.Ev
open Go Go.Proofs
set_option linter.unusedVariables false
set_option linter.unusedSimpArgs false

theorem whN_def' (z : Int) : whN z = (decide (z < 0), lim z.natAbs) := rfl
theorem wsum_whN (na : Bool) (a : List Int) (nb : Bool) (b : List Int) : ((wsum na (lv a) nb (lv b)).1, lim (wsum na (lv a) nb (lv b)).2) = whN (wv na a + wv nb b) := by
  unfold wsum
  by_cases e : na = nb
  · subst e
    rw [if_pos rfl]
    show (na && decide (lv a + lv b ≠ 0), lim (lv a + lv b)) = _
    rw [whN_of]; unfold wv; congr 1; cases na <;> simp; omega
  · rw [if_neg e]
    by_cases h : lv a < lv b
    · rw [if_pos h]
      show (nb && decide (lv b - lv a ≠ 0), lim (lv b - lv a)) = _
      rw [whN_of]; unfold wv; congr 1; cases na <;> cases nb <;> simp at e ⊢ <;> omega
    · rw [if_neg h]
      show (na && decide (lv a - lv b ≠ 0), lim (lv a - lv b)) = _
      rw [whN_of]; unfold wv; congr 1; cases na <;> cases nb <;> simp at e ⊢ <;> omega
attribute [local irreducible] Lb
theorem c_r2From (n : Int) (h1 : -9223372036854775808 ≤ n) (h2 : n < 9223372036854775808) : ∃ t : Bool × List Int, t = whN n ∧ CallsA Tryz.prog 20 [.int .i64 (.s n)] (.agg [.bool (.s t.1), .sli .u32 t.2]) := by
  refine ⟨_, rfl, ?_⟩
  generalize hr : whN n = r
  rw [whN_def'] at hr
  have lb := limbs_lb (m := (n.natAbs : Int)) (by omega) (by omega)
  obtain ⟨m, em⟩ : ∃ m, m = [(n.natAbs : Int) % 4294967296, (n.natAbs : Int) / 4294967296] := ⟨_, rfl⟩
  rw [← em] at lb
  have ll : m.length ≤ 268435456 := by rw [em]; show (2 : Nat) ≤ _; decide
  have fin : ∀ (c : Bool) (l : List Int) (t : Bool × List Int), c = decide (n < 0) → l = m → t = (c && decide (lv l ≠ 0), lim (lv l)) → t = r := by
    intro c l t hc hl ht
    rw [ht, hl, em, limbs_lv (by omega), ← hr, hc, show ((n.natAbs : Nat) : Int).toNat = n.natAbs from rfl]
    by_cases h : n < 0
    · rw [decide_eq_true (p := n.natAbs ≠ 0) (by omega), Bool.and_true]
    · rw [decide_eq_false h, Bool.false_and]
  have wn : ∀ x : Int, x = (n.natAbs : Int) → [IntKind.u32.wrap (intBinR .rem .u64 x 4294967296), IntKind.u32.wrap (intBinR .quo .u64 x 4294967296)] = m := by
    intro x hx
    have e1 : intBinR .rem .u64 x 4294967296 = x % 4294967296 := Int.tmod_eq_emod_of_nonneg (by omega)
    have e2 : intBinR .quo .u64 x 4294967296 = x / 4294967296 := by
      show IntKind.u64.wrap (x.tdiv 4294967296) = _
      rw [Int.tdiv_eq_ediv_of_nonneg (by omega), wu64]; omega
    rw [em, e1, e2, hx, wu32, wu32]
    congr 1
    · omega
    · congr 1; omega
  have neg : n < 0 → ∀ u v : Int, u = IntKind.u64.wrap (IntKind.i64.wrap (0 - IntKind.i64.wrap (n + 1))) → v = IntKind.u64.wrap (u + 1) → v = (n.natAbs : Int) := by
    intro hn u v hu hv
    simp only [wu64, wi64] at hu hv; omega
  have pos : ¬ n < 0 → ∀ u : Int, u = IntKind.u64.wrap n → u = (n.natAbs : Int) := by
    intro hn u hu
    simp only [wu64] at hu; omega
  clear hr em
  refine callsA_of hG hm Tryz.func20 (by kernel_rfl) ?_
  intro E hE lp hl'
  cbv
  refine E_nm hE (fun u hu => ?_); cbv
  refine E_br hE (fun g => ?_) (fun g => ?_) <;> cbv
  · have hn : n < 0 := by subst hE; exact lss_t g
    refine E_nm hE (fun v hv => ?_); cbv
    have k : E.sub [E.conv .u32 (E.bin .rem .u64 v 4294967296), E.conv .u32 (E.bin .quo .u64 v 4294967296)] 0 2 = m := by
      subst hE
      exact wn v (neg hn _ v rfl hv)
    have c1 : E.cmp .lss n 0 = decide (n < 0) := by subst hE; rfl
    (first | (apply E_pcallX hE (c_r2Make _ _ ?_ ?_); (case hm => rfl); (case hle => (repeat' (first | exact u_nil | apply u_cons | apply u2_agg | exact u2_int | exact u1_int | exact u2_bool | exact u1_bool | exact u2_sli | exact u1_sli | exact u2_s0 | exact u1_s0))); all_goals (first | (intro t ht; cbv) | (first | exact k ▸ lb | exact k ▸ ll))) | (apply E_callX hE (c_r2Make _ _ ?_ ?_); (case hf => rfl); (case hc => (cbv <;> trivial)); (case hle => (repeat' (first | exact u_nil | apply u_cons | apply u2_agg | exact u2_int | exact u1_int | exact u2_bool | exact u1_bool | exact u2_sli | exact u1_sli | exact u2_s0 | exact u1_s0))); all_goals (first | (intro t ht; cbv) | (first | exact k ▸ lb | exact k ▸ ll))))
    rw [← fin _ _ t c1 k ht]; exact ⟨rfl, rfl, trivial⟩
  · have hn : ¬ n < 0 := by subst hE; exact lss_f g
    have k : E.sub [E.conv .u32 (E.bin .rem .u64 u 4294967296), E.conv .u32 (E.bin .quo .u64 u 4294967296)] 0 2 = m := by
      subst hE
      exact wn u (pos hn u hu)
    have c1 : E.cmp .lss n 0 = decide (n < 0) := by subst hE; rfl
    (first | (apply E_pcallX hE (c_r2Make _ _ ?_ ?_); (case hm => rfl); (case hle => (repeat' (first | exact u_nil | apply u_cons | apply u2_agg | exact u2_int | exact u1_int | exact u2_bool | exact u1_bool | exact u2_sli | exact u1_sli | exact u2_s0 | exact u1_s0))); all_goals (first | (intro t ht; cbv) | (first | exact k ▸ lb | exact k ▸ ll))) | (apply E_callX hE (c_r2Make _ _ ?_ ?_); (case hf => rfl); (case hc => (cbv <;> trivial)); (case hle => (repeat' (first | exact u_nil | apply u_cons | apply u2_agg | exact u2_int | exact u1_int | exact u2_bool | exact u1_bool | exact u2_sli | exact u1_sli | exact u2_s0 | exact u1_s0))); all_goals (first | (intro t ht; cbv) | (first | exact k ▸ lb | exact k ▸ ll))))
    rw [← fin _ _ t c1 k ht]; exact ⟨rfl, rfl, trivial⟩

theorem c_r2Neg (na : Bool) (a : List Int) (ha : Lb a) (hla : a.length ≤ 268435456) : ∃ t : Bool × List Int, t = whN (- wv na a) ∧ CallsA Tryz.prog 24 [.agg [.bool (.s na), .sli .u32 a]] (.agg [.bool (.s t.1), .sli .u32 t.2]) := by
  refine ⟨_, rfl, ?_⟩
  generalize hr : whN (- wv na a) = r
  have fin : (!na && decide (lv a ≠ 0), lim (lv a)) = r := by rw [← hr, whN_of]; unfold wv; congr 1; cases na <;> simp
  clear hr
  refine callsA_of hG hm Tryz.func24 (by kernel_rfl) ?_
  intro E hE lp hl'
  cbv
  (first | (apply E_pcallX hE (c_r2Make _ a ha hla); (case hm => rfl); (case hle => (repeat' (first | exact u_nil | apply u_cons | apply u2_agg | exact u2_int | exact u1_int | exact u2_bool | exact u1_bool | exact u2_sli | exact u1_sli | exact u2_s0 | exact u1_s0))); all_goals (first | (intro t ht; cbv) | (assumption))) | (apply E_callX hE (c_r2Make _ a ha hla); (case hf => rfl); (case hc => (cbv <;> trivial)); (case hle => (repeat' (first | exact u_nil | apply u_cons | apply u2_agg | exact u2_int | exact u1_int | exact u2_bool | exact u1_bool | exact u2_sli | exact u1_sli | exact u2_s0 | exact u1_s0))); all_goals (first | (intro t ht; cbv) | (assumption))))
  have k : t = r := by
    have k : t = (E.bnot na && decide (lv a ≠ 0), lim (lv a)) := ht
    rw [k, ← fin]; subst hE; rfl
  rw [← k]; exact ⟨rfl, rfl, trivial⟩

theorem c_r2Sub (na : Bool) (a : List Int) (nb : Bool) (b : List Int) (ha : Lb a) (hb : Lb b) (hla : a.length ≤ 100000) (hlb : b.length ≤ 100000) :
    ∃ t : Bool × List Int, t = whN (wv na a - wv nb b) ∧ CallsA Tryz.prog 28 [.agg [.bool (.s na), .sli .u32 a], .agg [.bool (.s nb), .sli .u32 b]] (.agg [.bool (.s t.1), .sli .u32 t.2]) := by
  refine ⟨_, rfl, ?_⟩
  generalize hr : whN (wv na a - wv nb b) = r
  have lb : b.length ≤ 268435456 := by omega
  have vb : ∀ u : Bool × List Int, u = whN (- wv nb b) → Lb u.2 ∧ u.2.length ≤ 100000 ∧ wv u.1 u.2 = - wv nb b := by
    intro u hu
    rw [hu]
    refine ⟨whN_lb _, ?_, wv_whN _⟩
    have e : (- wv nb b).natAbs = lv b := by unfold wv; cases nb <;> simp
    rw [whN_def', e]; exact Nat.le_trans (lim_length_le' hb) hlb
  refine callsA_of hG hm Tryz.func28 (by kernel_rfl) ?_
  intro E hE lp hl'
  cbv
  (first | (apply E_pcallX hE (c_r2Neg nb b hb lb); (case hm => rfl); (case hle => (repeat' (first | exact u_nil | apply u_cons | apply u2_agg | exact u2_int | exact u1_int | exact u2_bool | exact u1_bool | exact u2_sli | exact u1_sli | exact u2_s0 | exact u1_s0))); all_goals (first | (intro u hu; cbv) | (assumption))) | (apply E_callX hE (c_r2Neg nb b hb lb); (case hf => rfl); (case hc => (cbv <;> trivial)); (case hle => (repeat' (first | exact u_nil | apply u_cons | apply u2_agg | exact u2_int | exact u1_int | exact u2_bool | exact u1_bool | exact u2_sli | exact u1_sli | exact u2_s0 | exact u1_s0))); all_goals (first | (intro u hu; cbv) | (assumption))))
  obtain ⟨u1, u2, u3⟩ := vb u hu
  (first | (apply E_pcallX hE (c_r2Add na a u.1 u.2 ha u1 hla u2); (case hm => rfl); (case hle => (repeat' (first | exact u_nil | apply u_cons | apply u2_agg | exact u2_int | exact u1_int | exact u2_bool | exact u1_bool | exact u2_sli | exact u1_sli | exact u2_s0 | exact u1_s0))); all_goals (first | (intro t ht; cbv) | (assumption))) | (apply E_callX hE (c_r2Add na a u.1 u.2 ha u1 hla u2); (case hf => rfl); (case hc => (cbv <;> trivial)); (case hle => (repeat' (first | exact u_nil | apply u_cons | apply u2_agg | exact u2_int | exact u1_int | exact u2_bool | exact u1_bool | exact u2_sli | exact u1_sli | exact u2_s0 | exact u1_s0))); all_goals (first | (intro t ht; cbv) | (assumption))))
  have k : t = r := by
    have k : t = ((wsum na (lv a) u.1 (lv u.2)).1, lim (wsum na (lv a) u.1 (lv u.2)).2) := ht
    rw [k, wsum_whN, u3, ← hr]; rfl
  rw [← k]; exact ⟨rfl, rfl, trivial⟩

end Go.Proofs.YtaiillbjhdoikaaGreat.Ev

/- Laws: a natural number as 64 bits of which the highest is 1, and an exponent; the ratio of two natural numbers. -/
namespace Go.Proofs.YtaiillbjhdoikaaGreat.Ev
open Go Go.Proofs
set_option linter.unusedVariables false
set_option linter.unusedSimpArgs false
attribute [local irreducible] Lb
theorem wi64_in {n : Int} (h0 : -9223372036854775808 ≤ n) (h1 : n < 9223372036854775808) : IntKind.i64.wrap n = n := by rw [wi64]; omega
/-- a natural number as 64 bits of which the highest is 1, and an exponent; was something cut off? -/
def natu (n : Nat) : Nat × Int × Bool :=
  if blen (n : Int) ≤ 64 then (n * 2 ^ (64 - blen (n : Int)).toNat, blen (n : Int) - 64, false)
  else (n / 2 ^ (blen (n : Int) - 64).toNat, blen (n : Int) - 64, decide (n / 2 ^ (blen (n : Int) - 64).toNat * 2 ^ (blen (n : Int) - 64).toNat ≠ n))
theorem blen_lt {n : Nat} : n < 2 ^ (blen (n : Int)).toNat := by
  rcases Nat.eq_zero_or_pos n with h | h
  · rw [h]; decide
  · obtain ⟨k, hk, _, h2⟩ := blen_rng h
    rw [hk, show ((k : Int) + 1).toNat = k + 1 by omega]; exact h2
theorem blen_le_len {m : List Int} (h : Lb m) : blen (lv m : Int) ≤ 32 * m.length := by
  have := blen_le (x := (lv m : Int)) (32 * m.length) (by
    have h1 := lv_lt h
    rw [show (4294967296 : Nat) = 2 ^ 32 by rfl, ← Nat.pow_mul] at h1
    exact_mod_cast h1)
  omega
theorem two64 {n : Nat} (h : n < 2 ^ 64) : (lim n).length ≤ 2 := lim_length_le (by rw [show (4294967296 : Nat) ^ 2 = 2 ^ 64 by decide +kernel]; exact h)
theorem natu_lo {n : Nat} (h : blen (n : Int) ≤ 64) : n * 2 ^ (64 - blen (n : Int)).toNat < 2 ^ 64 := by
  have b0 := blen_nonneg (n : Int)
  have h1 := blen_lt (n := n)
  calc n * 2 ^ (64 - blen (n : Int)).toNat < 2 ^ (blen (n : Int)).toNat * 2 ^ (64 - blen (n : Int)).toNat := Nat.mul_lt_mul_of_pos_right h1 (Nat.two_pow_pos _)
    _ = 2 ^ 64 := by rw [← Nat.pow_add]; congr 1; omega
theorem natu_hi {n : Nat} (h : 64 < blen (n : Int)) : n / 2 ^ (blen (n : Int) - 64).toNat < 2 ^ 64 := by
  have h1 := blen_lt (n := n)
  refine Nat.div_lt_of_lt_mul ?_
  rw [← Nat.pow_add, show (blen (n : Int) - 64).toNat + 64 = (blen (n : Int)).toNat by omega]; exact h1
theorem natu_e {n : Nat} (h : (lim n).length ≤ 200004) : -64 ≤ (natu n).2.1 ∧ (natu n).2.1 ≤ 6400128 := by
  have b0 := blen_nonneg (n : Int)
  have b1 := blen_le_len (lim_lb n)
  rw [lv_lim] at b1
  unfold natu
  split <;> constructor <;> dsimp only <;> omega
/-- the ratio of two natural numbers, of these signs -/
def ratioN (na : Bool) (a : Nat) (nb : Bool) (b : Nat) (up : Bool) : Num :=
  if b = 0 then Num.inf (!up) else if a = 0 then Num.zero else
    Num.grow (na != nb) ((natu (a * 2 ^ (max 0 (65 + blen (b : Int) - blen (a : Int))).toNat / b)).1 : Int) ((natu (a * 2 ^ (max 0 (65 + blen (b : Int) - blen (a : Int))).toNat / b)).2.1 - max 0 (65 + blen (b : Int) - blen (a : Int)))
      ((natu (a * 2 ^ (max 0 (65 + blen (b : Int) - blen (a : Int))).toNat / b)).2.2 || decide (a * 2 ^ (max 0 (65 + blen (b : Int) - blen (a : Int))).toNat % b ≠ 0)) (up != (na != nb))
end Go.Proofs.YtaiillbjhdoikaaGreat.Ev

/- Contracts: the terms of an inverse tangent. Printed by gen.py. -/
namespace Go.Proofs.YtaiillbjhdoikaaGreat.Ev
open Go Go.Proofs
set_option linter.unusedVariables false
set_option linter.unusedSimpArgs false

theorem whN_def (z : Int) : whN z = (decide (z < 0), lim z.natAbs) := rfl
attribute [local irreducible] Lb whN piOne
theorem c_wDivQ (na : Bool) (a : List Int) (nb : Bool) (b : List Int) (hna : na = false) (hnb : nb = false) (ha : Lb a) (hb : Lb b) (hla : a.length < 33554432) (hlb : b.length < 33554432) (hb0 : lv b ≠ 0) :
    ∃ t : (Bool × List Int) × (Bool × List Int), t = (whN ((lv a / lv b : Nat) : Int), whN ((lv a % lv b : Nat) : Int)) ∧
      CallsA Tryz.prog 42 [.agg [.bool (.s na), .sli .u32 a], .agg [.bool (.s nb), .sli .u32 b]] (.tup [.agg [.bool (.s t.1.1), .sli .u32 t.1.2], .agg [.bool (.s t.2.1), .sli .u32 t.2.2], .bool (.s true)]) := by
  subst hna hnb; exact c_wDivP a b ha hb hla hlb hb0
def piTerm (n j : Nat) : Nat := piOne / (n ^ (2 * j + 1) * (2 * j + 1))
def nbB (n : Int) : Blk := .rows true 1 [.int .i64 (.l 0)] [[.int .i64 (.s n)]]
def pwB (p : Bool × List Int) : Blk := .rows true 2 [.bool (.l false), .s0] [[.bool (.s p.1), .sli .u32 p.2]]
def zwB : Blk := .rows true 2 [.bool (.l false), .s0] [[.bool (.l false), .s0]]
def odB (o : Int) : Blk := .rows true 1 [.int .i64 (.l 0)] [[.int .i64 (.s o)]]
theorem whN_nat (n : Nat) : whN (n : Int) = (false, lim n) := by unfold whN; rw [decide_eq_false (by omega), Int.natAbs_natCast]
theorem pow_len {n k : Nat} (h0 : 2 ≤ n) (hn : n ≤ 1000) (hk : k ≤ 240) : n ^ k ≤ 4294967296 ^ 80 := by
  have h3 : n ^ 3 ≤ 4294967296 := Nat.le_trans (Nat.pow_le_pow_left hn 3) (by decide)
  calc n ^ k ≤ n ^ (3 * 80) := Nat.pow_le_pow_right (by omega) hk
    _ = (n ^ 3) ^ 80 := by rw [Nat.pow_mul]
    _ ≤ 4294967296 ^ 80 := Nat.pow_le_pow_left h3 80
theorem lim_pow_len {m : Nat} (h : m ≤ 4294967296 ^ 100) : (lim m).length ≤ 101 := lim_length_le (Nat.lt_of_le_of_lt h (Nat.pow_lt_pow_right (by decide) (by decide)))
theorem piOne_le : piOne ≤ 4294967296 ^ 100 := by unfold piOne; decide +kernel
theorem limb_mono {k l : Nat} (h : k ≤ l) : 4294967296 ^ k ≤ 4294967296 ^ l := Nat.pow_le_pow_right (by decide) h
theorem wv_nat (n : Nat) : wv (whN (n : Int)).1 (whN (n : Int)).2 = n := wv_whN _

theorem h_term1 (n j : Nat) (hn1 : 2 ≤ n) (hn2 : n ≤ 1000) (hj : j ≤ 98) (N : Int) (hN : N = n) (p : Bool × List Int) (hp : p = whN ((n ^ (2 * j + 1) : Nat) : Int)) (o : Int) (ho : o = 2 * (j : Int) - 1)  :
    CallsH Tryz.prog 41 [.ptr 4 1 (.l 0) 0, .ptr 3 2 (.l 0) 0, .ptr 2 1 (.l 0) 0] [zwB, zwB, nbB N, pwB p, odB o, zwB]
      (fun v h => ∃ (t p' : Bool × List Int) (o' : Int), v = .agg [.bool (.s t.1), .sli .u32 t.2] ∧ h = [zwB, zwB, nbB N, pwB p', odB o', zwB] ∧ t = whN ((piTerm n j : Nat) : Int) ∧ p' = whN ((n ^ (2 * (j + 1) + 1) : Nat) : Int) ∧ o' = 2 * ((j + 1 : Nat) : Int) - 1) := by
  obtain ⟨f, ef⟩ : ∃ f : (Bool × List Int) → (Bool × List Int) → Int → Prop, ∀ t p' o', f t p' o' ↔ (t = whN ((piTerm n j : Nat) : Int) ∧ p' = whN ((n ^ (2 * (j + 1) + 1) : Nat) : Int) ∧ o' = 2 * ((j + 1 : Nat) : Int) - 1) := ⟨_, fun _ _ _ => Iff.rfl⟩
  have p1 : p.1 = false := by rw [hp, whN_nat]
  have p2 : lv p.2 = n ^ (2 * j + 1) := by rw [hp, whN_nat, lv_lim]
  have pb : Lb p.2 := by rw [hp]; exact whN_lb _
  have wp : wv p.1 p.2 = ((n ^ (2 * j + 1) : Nat) : Int) := by rw [hp]; exact wv_nat _
  have pl : p.2.length < 60000000 := by rw [hp, whN_nat]; exact Nat.lt_of_le_of_lt (lim_pow_len (Nat.le_trans (pow_len hn1 hn2 (by omega)) (limb_mono (by decide)))) (by decide)
  have o1 : IntKind.i64.wrap (o + 2) = 2 * (j : Int) + 1 := by rw [wi64_in (by omega) (by omega)]; omega
  have nn : (n : Int) * n = ((n * n : Nat) : Int) := (Int.natCast_mul n n).symm
  have nk : n * n ≤ 1000000 := Nat.mul_le_mul hn2 hn2
  have n2 : IntKind.i64.wrap (N * N) = ((n * n : Nat) : Int) := by
    rw [hN, nn, wi64_in (by omega) (by omega)]
  have o3 : -9223372036854775808 ≤ (2 * (j : Int) + 1) ∧ (2 * (j : Int) + 1) < 9223372036854775808 := by omega
  have n3 : -9223372036854775808 ≤ ((n * n : Nat) : Int) ∧ ((n * n : Nat) : Int) < 9223372036854775808 := by omega
  have fin : ∀ (s d q r : Bool × List Int), s = whN (piOne : Int) → d = whN (wv p.1 p.2 * (2 * (j : Int) + 1)) → q = whN ((lv s.2 / lv d.2 : Nat) : Int) → r = whN (wv p.1 p.2 * ((n * n : Nat) : Int)) → f q r (2 * (j : Int) + 1) := by
    intro s d q r hs hd hq hr
    rw [ef]
    have e1 : lv s.2 = piOne := by rw [hs, whN_nat, lv_lim]
    have e2 : lv d.2 = n ^ (2 * j + 1) * (2 * j + 1) := by
      rw [hd, wp, show ((n ^ (2 * j + 1) : Nat) : Int) * (2 * (j : Int) + 1) = ((n ^ (2 * j + 1) * (2 * j + 1) : Nat) : Int) by push_cast; rfl, whN_nat, lv_lim]
    refine ⟨by rw [hq, e1, e2]; rfl, ?_, by push_cast; omega⟩
    rw [hr, wp]
    exact congrArg _ (by rw [← Int.natCast_mul, show 2 * (j + 1) + 1 = (2 * j + 1) + 2 by omega, Nat.pow_add n (2 * j + 1) 2, show n * n = n ^ 2 from (Nat.pow_two n).symm])
  have side : ∀ d : Bool × List Int, d = whN (wv p.1 p.2 * (2 * (j : Int) + 1)) → d.1 = false ∧ Lb d.2 ∧ d.2.length < 33554432 ∧ lv d.2 ≠ 0 := by
    intro d hd
    have e : d = (false, lim (n ^ (2 * j + 1) * (2 * j + 1))) := by
      rw [hd, wp, show ((n ^ (2 * j + 1) : Nat) : Int) * (2 * (j : Int) + 1) = ((n ^ (2 * j + 1) * (2 * j + 1) : Nat) : Int) by push_cast; rfl, whN_nat]
    rw [e]
    refine ⟨rfl, lim_lb _, Nat.lt_of_le_of_lt (lim_pow_len ?_) (by decide), ?_⟩
    · calc n ^ (2 * j + 1) * (2 * j + 1) ≤ 4294967296 ^ 80 * 4294967296 ^ 1 := Nat.mul_le_mul (pow_len hn1 hn2 (by omega)) (by rw [Nat.pow_one]; omega)
        _ = 4294967296 ^ 81 := by rw [← Nat.pow_add]
        _ ≤ 4294967296 ^ 100 := limb_mono (by decide)
    · rw [lv_lim]
      exact Nat.pos_iff_ne_zero.1 (Nat.mul_pos (Nat.pow_pos (by omega)) (by omega))
  have sside : ∀ s : Bool × List Int, s = whN (piOne : Int) → s.1 = false ∧ Lb s.2 ∧ s.2.length < 33554432 := by
    intro s hs
    rw [hs, whN_nat]
    exact ⟨rfl, (lim_lb piOne : Lb (lim piOne)), Nat.lt_of_le_of_lt (lim_pow_len piOne_le) (by decide)⟩
  refine callsH_named (callsH_of (K := fun v h => ∃ (t p' : Bool × List Int) (o' : Int) (r1 r2 r3 : Blk), v = .agg [.bool (.s t.1), .sli .u32 t.2] ∧ h = [zwB, zwB, nbB N, pwB p', odB o', zwB, r1, r2, r3] ∧ f t p' o') hG hm Tryz.func41 (by kernel_rfl) ?_) ?_
  · clear hp ho
    intro E hE lp hl'
    cbv
    have eo : E.bin .add .i64 o 2 = 2 * (j : Int) + 1 := by subst hE; exact o1
    have en : E.bin .mul .i64 N N = ((n * n : Nat) : Int) := by subst hE; exact n2
    (first | (apply E_pcallX hE (c_piScale); (case hm => rfl); (case hle => (repeat' (first | exact u_nil | apply u_cons | apply u2_agg | exact u2_int | exact u1_int | exact u2_bool | exact u1_bool | exact u2_sli | exact u1_sli | exact u2_s0 | exact u1_s0))); all_goals (first | (intro s hs; cbv) | (assumption))) | (apply E_callX hE (c_piScale); (case hf => rfl); (case hc => (cbv <;> trivial)); (case hle => (repeat' (first | exact u_nil | apply u_cons | apply u2_agg | exact u2_int | exact u1_int | exact u2_bool | exact u1_bool | exact u2_sli | exact u1_sli | exact u2_s0 | exact u1_s0))); all_goals (first | (intro s hs; cbv) | (assumption))))
    have e1 : -9223372036854775808 ≤ E.bin .add .i64 o 2 := by rw [eo]; exact o3.1
    have e2 : E.bin .add .i64 o 2 < 9223372036854775808 := by rw [eo]; exact o3.2
    apply E_pcallX hE (c_piTimes p.1 p.2 (E.bin .add .i64 o 2) pb pl e1 e2)
    case hm => rfl
    case hle => (repeat' (first | exact u_nil | apply u_cons | apply u2_agg | exact u2_int | exact u1_int | exact u2_bool | exact u1_bool | exact u2_sli | exact u1_sli | exact u2_s0 | exact u1_s0))
    intro d hd
    cbv
    have hd : d = whN (wv p.1 p.2 * (2 * (j : Int) + 1)) := by
      have k : d = whN (wv p.1 p.2 * E.bin .add .i64 o 2) := hd
      rw [k, eo]
    obtain ⟨d1, d2, d3, d4⟩ := side d hd
    obtain ⟨s1, s2, s3⟩ := sside s hs
    (first | (apply E_pcallX hE (c_wDivQ s.1 s.2 d.1 d.2 s1 d1 s2 d2 s3 d3 d4); (case hm => rfl); (case hle => (repeat' (first | exact u_nil | apply u_cons | apply u2_agg | exact u2_int | exact u1_int | exact u2_bool | exact u1_bool | exact u2_sli | exact u1_sli | exact u2_s0 | exact u1_s0))); all_goals (first | (intro q hq; cbv) | (assumption))) | (apply E_callX hE (c_wDivQ s.1 s.2 d.1 d.2 s1 d1 s2 d2 s3 d3 d4); (case hf => rfl); (case hc => (cbv <;> trivial)); (case hle => (repeat' (first | exact u_nil | apply u_cons | apply u2_agg | exact u2_int | exact u1_int | exact u2_bool | exact u1_bool | exact u2_sli | exact u1_sli | exact u2_s0 | exact u1_s0))); all_goals (first | (intro q hq; cbv) | (assumption))))
    have e3 : -9223372036854775808 ≤ E.bin .mul .i64 N N := by rw [en]; exact n3.1
    have e4 : E.bin .mul .i64 N N < 9223372036854775808 := by rw [en]; exact n3.2
    (first | (apply E_pcallX hE (c_piTimes p.1 p.2 (E.bin .mul .i64 N N) pb pl e3 e4); (case hm => rfl); (case hle => (repeat' (first | exact u_nil | apply u_cons | apply u2_agg | exact u2_int | exact u1_int | exact u2_bool | exact u1_bool | exact u2_sli | exact u1_sli | exact u2_s0 | exact u1_s0))); all_goals (first | (intro r hr; cbv) | (assumption))) | (apply E_callX hE (c_piTimes p.1 p.2 (E.bin .mul .i64 N N) pb pl e3 e4); (case hf => rfl); (case hc => (cbv <;> trivial)); (case hle => (repeat' (first | exact u_nil | apply u_cons | apply u2_agg | exact u2_int | exact u1_int | exact u2_bool | exact u1_bool | exact u2_sli | exact u1_sli | exact u2_s0 | exact u1_s0))); all_goals (first | (intro r hr; cbv) | (assumption))))
    have hr : r = whN (wv p.1 p.2 * ((n * n : Nat) : Int)) := by
      have k : r = whN (wv p.1 p.2 * E.bin .mul .i64 N N) := hr
      rw [k, en]
    have q1 : q.1 = whN ((lv s.2 / lv d.2 : Nat) : Int) := by
      have k : q = (whN ((lv s.2 / lv d.2 : Nat) : Int), whN ((lv s.2 % lv d.2 : Nat) : Int)) := hq
      rw [k]
    have F := fin s d q.1 r hs hd q1 hr
    rw [← eo] at F
    exact ⟨q.1, r, E.bin .add .i64 o 2, _, _, _, rfl, rfl, F⟩
  · rintro v h ⟨t, p', o', r1, r2, r3, rfl, rfl, hf⟩
    exact ⟨[0, 1, 2, 3, 4, 5], .agg [.bool (.s t.1), .sli .u32 t.2], [zwB, zwB, nbB N, pwB p', odB o', zwB], ⟨by repeat' (first | exact trivial | exact rfl | apply And.intro), rfl, rfl, by show (_ : Nat) ≤ _; exact Nat.le_refl _, by repeat' (first | exact trivial | exact rfl | apply And.intro), fun _ _ hv => hv, rfl⟩, t, p', o', rfl, rfl, (ef t p' o').1 hf⟩

theorem h_term4 (n j : Nat) (hn1 : 2 ≤ n) (hn2 : n ≤ 1000) (hj : j ≤ 98) (N : Int) (hN : N = n) (p : Bool × List Int) (hp : p = whN ((n ^ (2 * j + 1) : Nat) : Int)) (o : Int) (ho : o = 2 * (j : Int) - 1) (x5 x7 x8 : Bool × List Int) :
    CallsH Tryz.prog 41 [.ptr 4 1 (.l 0) 0, .ptr 3 2 (.l 0) 0, .ptr 2 1 (.l 0) 0] [zwB, zwB, nbB N, pwB p, odB o, pwB x5, .dead, pwB x7, pwB x8]
      (fun v h => ∃ (t p' : Bool × List Int) (o' : Int), v = .agg [.bool (.s t.1), .sli .u32 t.2] ∧ h = [zwB, zwB, nbB N, pwB p', odB o', pwB x5, .dead, pwB x7, pwB x8] ∧ t = whN ((piTerm n j : Nat) : Int) ∧ p' = whN ((n ^ (2 * (j + 1) + 1) : Nat) : Int) ∧ o' = 2 * ((j + 1 : Nat) : Int) - 1) := by
  obtain ⟨f, ef⟩ : ∃ f : (Bool × List Int) → (Bool × List Int) → Int → Prop, ∀ t p' o', f t p' o' ↔ (t = whN ((piTerm n j : Nat) : Int) ∧ p' = whN ((n ^ (2 * (j + 1) + 1) : Nat) : Int) ∧ o' = 2 * ((j + 1 : Nat) : Int) - 1) := ⟨_, fun _ _ _ => Iff.rfl⟩
  have p1 : p.1 = false := by rw [hp, whN_nat]
  have p2 : lv p.2 = n ^ (2 * j + 1) := by rw [hp, whN_nat, lv_lim]
  have pb : Lb p.2 := by rw [hp]; exact whN_lb _
  have wp : wv p.1 p.2 = ((n ^ (2 * j + 1) : Nat) : Int) := by rw [hp]; exact wv_nat _
  have pl : p.2.length < 60000000 := by rw [hp, whN_nat]; exact Nat.lt_of_le_of_lt (lim_pow_len (Nat.le_trans (pow_len hn1 hn2 (by omega)) (limb_mono (by decide)))) (by decide)
  have o1 : IntKind.i64.wrap (o + 2) = 2 * (j : Int) + 1 := by rw [wi64_in (by omega) (by omega)]; omega
  have nn : (n : Int) * n = ((n * n : Nat) : Int) := (Int.natCast_mul n n).symm
  have nk : n * n ≤ 1000000 := Nat.mul_le_mul hn2 hn2
  have n2 : IntKind.i64.wrap (N * N) = ((n * n : Nat) : Int) := by
    rw [hN, nn, wi64_in (by omega) (by omega)]
  have o3 : -9223372036854775808 ≤ (2 * (j : Int) + 1) ∧ (2 * (j : Int) + 1) < 9223372036854775808 := by omega
  have n3 : -9223372036854775808 ≤ ((n * n : Nat) : Int) ∧ ((n * n : Nat) : Int) < 9223372036854775808 := by omega
  have fin : ∀ (s d q r : Bool × List Int), s = whN (piOne : Int) → d = whN (wv p.1 p.2 * (2 * (j : Int) + 1)) → q = whN ((lv s.2 / lv d.2 : Nat) : Int) → r = whN (wv p.1 p.2 * ((n * n : Nat) : Int)) → f q r (2 * (j : Int) + 1) := by
    intro s d q r hs hd hq hr
    rw [ef]
    have e1 : lv s.2 = piOne := by rw [hs, whN_nat, lv_lim]
    have e2 : lv d.2 = n ^ (2 * j + 1) * (2 * j + 1) := by
      rw [hd, wp, show ((n ^ (2 * j + 1) : Nat) : Int) * (2 * (j : Int) + 1) = ((n ^ (2 * j + 1) * (2 * j + 1) : Nat) : Int) by push_cast; rfl, whN_nat, lv_lim]
    refine ⟨by rw [hq, e1, e2]; rfl, ?_, by push_cast; omega⟩
    rw [hr, wp]
    exact congrArg _ (by rw [← Int.natCast_mul, show 2 * (j + 1) + 1 = (2 * j + 1) + 2 by omega, Nat.pow_add n (2 * j + 1) 2, show n * n = n ^ 2 from (Nat.pow_two n).symm])
  have side : ∀ d : Bool × List Int, d = whN (wv p.1 p.2 * (2 * (j : Int) + 1)) → d.1 = false ∧ Lb d.2 ∧ d.2.length < 33554432 ∧ lv d.2 ≠ 0 := by
    intro d hd
    have e : d = (false, lim (n ^ (2 * j + 1) * (2 * j + 1))) := by
      rw [hd, wp, show ((n ^ (2 * j + 1) : Nat) : Int) * (2 * (j : Int) + 1) = ((n ^ (2 * j + 1) * (2 * j + 1) : Nat) : Int) by push_cast; rfl, whN_nat]
    rw [e]
    refine ⟨rfl, lim_lb _, Nat.lt_of_le_of_lt (lim_pow_len ?_) (by decide), ?_⟩
    · calc n ^ (2 * j + 1) * (2 * j + 1) ≤ 4294967296 ^ 80 * 4294967296 ^ 1 := Nat.mul_le_mul (pow_len hn1 hn2 (by omega)) (by rw [Nat.pow_one]; omega)
        _ = 4294967296 ^ 81 := by rw [← Nat.pow_add]
        _ ≤ 4294967296 ^ 100 := limb_mono (by decide)
    · rw [lv_lim]
      exact Nat.pos_iff_ne_zero.1 (Nat.mul_pos (Nat.pow_pos (by omega)) (by omega))
  have sside : ∀ s : Bool × List Int, s = whN (piOne : Int) → s.1 = false ∧ Lb s.2 ∧ s.2.length < 33554432 := by
    intro s hs
    rw [hs, whN_nat]
    exact ⟨rfl, (lim_lb piOne : Lb (lim piOne)), Nat.lt_of_le_of_lt (lim_pow_len piOne_le) (by decide)⟩
  refine callsH_named (callsH_of (K := fun v h => ∃ (t p' : Bool × List Int) (o' : Int) (r1 r2 r3 : Blk), v = .agg [.bool (.s t.1), .sli .u32 t.2] ∧ h = [zwB, zwB, nbB N, pwB p', odB o', pwB x5, .dead, pwB x7, pwB x8, r1, r2, r3] ∧ f t p' o') hG hm Tryz.func41 (by kernel_rfl) ?_) ?_
  · clear hp ho
    intro E hE lp hl'
    cbv
    have eo : E.bin .add .i64 o 2 = 2 * (j : Int) + 1 := by subst hE; exact o1
    have en : E.bin .mul .i64 N N = ((n * n : Nat) : Int) := by subst hE; exact n2
    (first | (apply E_pcallX hE (c_piScale); (case hm => rfl); (case hle => (repeat' (first | exact u_nil | apply u_cons | apply u2_agg | exact u2_int | exact u1_int | exact u2_bool | exact u1_bool | exact u2_sli | exact u1_sli | exact u2_s0 | exact u1_s0))); all_goals (first | (intro s hs; cbv) | (assumption))) | (apply E_callX hE (c_piScale); (case hf => rfl); (case hc => (cbv <;> trivial)); (case hle => (repeat' (first | exact u_nil | apply u_cons | apply u2_agg | exact u2_int | exact u1_int | exact u2_bool | exact u1_bool | exact u2_sli | exact u1_sli | exact u2_s0 | exact u1_s0))); all_goals (first | (intro s hs; cbv) | (assumption))))
    have e1 : -9223372036854775808 ≤ E.bin .add .i64 o 2 := by rw [eo]; exact o3.1
    have e2 : E.bin .add .i64 o 2 < 9223372036854775808 := by rw [eo]; exact o3.2
    apply E_pcallX hE (c_piTimes p.1 p.2 (E.bin .add .i64 o 2) pb pl e1 e2)
    case hm => rfl
    case hle => (repeat' (first | exact u_nil | apply u_cons | apply u2_agg | exact u2_int | exact u1_int | exact u2_bool | exact u1_bool | exact u2_sli | exact u1_sli | exact u2_s0 | exact u1_s0))
    intro d hd
    cbv
    have hd : d = whN (wv p.1 p.2 * (2 * (j : Int) + 1)) := by
      have k : d = whN (wv p.1 p.2 * E.bin .add .i64 o 2) := hd
      rw [k, eo]
    obtain ⟨d1, d2, d3, d4⟩ := side d hd
    obtain ⟨s1, s2, s3⟩ := sside s hs
    (first | (apply E_pcallX hE (c_wDivQ s.1 s.2 d.1 d.2 s1 d1 s2 d2 s3 d3 d4); (case hm => rfl); (case hle => (repeat' (first | exact u_nil | apply u_cons | apply u2_agg | exact u2_int | exact u1_int | exact u2_bool | exact u1_bool | exact u2_sli | exact u1_sli | exact u2_s0 | exact u1_s0))); all_goals (first | (intro q hq; cbv) | (assumption))) | (apply E_callX hE (c_wDivQ s.1 s.2 d.1 d.2 s1 d1 s2 d2 s3 d3 d4); (case hf => rfl); (case hc => (cbv <;> trivial)); (case hle => (repeat' (first | exact u_nil | apply u_cons | apply u2_agg | exact u2_int | exact u1_int | exact u2_bool | exact u1_bool | exact u2_sli | exact u1_sli | exact u2_s0 | exact u1_s0))); all_goals (first | (intro q hq; cbv) | (assumption))))
    have e3 : -9223372036854775808 ≤ E.bin .mul .i64 N N := by rw [en]; exact n3.1
    have e4 : E.bin .mul .i64 N N < 9223372036854775808 := by rw [en]; exact n3.2
    (first | (apply E_pcallX hE (c_piTimes p.1 p.2 (E.bin .mul .i64 N N) pb pl e3 e4); (case hm => rfl); (case hle => (repeat' (first | exact u_nil | apply u_cons | apply u2_agg | exact u2_int | exact u1_int | exact u2_bool | exact u1_bool | exact u2_sli | exact u1_sli | exact u2_s0 | exact u1_s0))); all_goals (first | (intro r hr; cbv) | (assumption))) | (apply E_callX hE (c_piTimes p.1 p.2 (E.bin .mul .i64 N N) pb pl e3 e4); (case hf => rfl); (case hc => (cbv <;> trivial)); (case hle => (repeat' (first | exact u_nil | apply u_cons | apply u2_agg | exact u2_int | exact u1_int | exact u2_bool | exact u1_bool | exact u2_sli | exact u1_sli | exact u2_s0 | exact u1_s0))); all_goals (first | (intro r hr; cbv) | (assumption))))
    have hr : r = whN (wv p.1 p.2 * ((n * n : Nat) : Int)) := by
      have k : r = whN (wv p.1 p.2 * E.bin .mul .i64 N N) := hr
      rw [k, en]
    have q1 : q.1 = whN ((lv s.2 / lv d.2 : Nat) : Int) := by
      have k : q = (whN ((lv s.2 / lv d.2 : Nat) : Int), whN ((lv s.2 % lv d.2 : Nat) : Int)) := hq
      rw [k]
    have F := fin s d q.1 r hs hd q1 hr
    rw [← eo] at F
    exact ⟨q.1, r, E.bin .add .i64 o 2, _, _, _, rfl, rfl, F⟩
  · rintro v h ⟨t, p', o', r1, r2, r3, rfl, rfl, hf⟩
    exact ⟨[0, 1, 2, 3, 4, 5, 6, 7, 8], .agg [.bool (.s t.1), .sli .u32 t.2], [zwB, zwB, nbB N, pwB p', odB o', pwB x5, .dead, pwB x7, pwB x8], ⟨by repeat' (first | exact trivial | exact rfl | apply And.intro), rfl, rfl, by show (_ : Nat) ≤ _; exact Nat.le_refl _, by repeat' (first | exact trivial | exact rfl | apply And.intro), fun _ _ hv => hv, rfl⟩, t, p', o', rfl, rfl, (ef t p' o').1 hf⟩

end Go.Proofs.YtaiillbjhdoikaaGreat.Ev

/- A block behind a call, told otherwise. -/
namespace Go.Proofs.YtaiillbjhdoikaaGreat.Ev
open Go Go.RowKit
set_option linter.unusedVariables false
set_option linter.unusedSimpArgs false
variable {P : Program} {G : Nat → TI}

theorem callsH_turn {f : FuncId} {args : List AV} {h : List Blk} {K K' : AV → List Blk → Prop} (hC : CallsH P f args h K')
    (hK : ∀ v h1, K' v h1 → ∃ b x y, h1[b]? = some y ∧ x.wr = y.wr ∧ x.dim = y.dim ∧ (∀ (x1 x2 : X) g, x1.w = x2.w → BlkR x1 g y → BlkR x2 g x) ∧ K v (h1.set b x)) : CallsH P f args h K := by
  intro base O0 μ w vals H hl ha
  refine (hC base O0 μ w vals H hl ha).mono ?_
  rintro e w' ⟨val, v, h1, μ1, rfl, hk, hv, H1, X1, hB⟩
  obtain ⟨b, x, y, hb, hw, hd, hr, hK⟩ := hK v h1 hk
  have hb0 : b < h1.length := (List.getElem?_eq_some_iff.1 hb).1
  have hdim : x.dim = dimB h1 b := by rw [hd]; simp [dimB, hb]
  have hwr : x.wr = true → wrB h1 b = true := by intro k; rw [hw] at k; simp [wrB, hb, k]
  have e := Ext.turn H1 (b := b) (x := x) (.inr rfl) hwr (.inr hdim) rfl (fun _ _ => rfl) (fun _ h => h)
  exact ⟨val, v, h1.set b x, μ1, rfl, hK, hv.mono e, HR.turn H1 hb0 (.inr rfl) hwr (.inr hdim) rfl (fun _ _ => rfl) (fun _ h => h) (hr (mkX base O0 μ1 h1 w') _ _ rfl (H1.blk b y hb)), X1.trans e, hB⟩

/-- one whole number, known in full, as one told by a term -/
theorem blk_lit {k : IntKind} {n : Int} {w : Bool} {d : List AV} (x1 x2 : X) (g : Nat) (hw : x1.w = x2.w) (h : BlkR x1 g (.rows w 1 d [[.int k (.l n)]])) : BlkR x2 g (.rows w 1 d [[.int k (.s n)]]) := by
  obtain ⟨h1, c, e, h2, h3⟩ := h
  refine ⟨h1, c, e, hw ▸ h2, fun i r hr => ?_⟩
  match i, hr with
  | 0, hr =>
    simp only [List.getElem?_cons_zero, Option.some.injEq] at hr
    subst hr
    refine ⟨rfl, fun j a ha => ?_⟩
    match j, ha with
    | 0, ha =>
      simp only [List.getElem?_cons_zero, Option.some.injEq] at ha
      subst ha
      obtain ⟨y, e1, e2⟩ := (h3 0 _ rfl).2 0 _ rfl
      refine ⟨y, e1, ?_⟩
      have e2 : RoV x1.O x1.w (.int k (.l n)) y := e2
      cases e2 with
      | int _ _ v h => exact RoV.int k (.s n) v h
    | j + 1, ha => simp at ha
  | i + 1, hr => simp at hr
end Go.Proofs.YtaiillbjhdoikaaGreat.Ev
