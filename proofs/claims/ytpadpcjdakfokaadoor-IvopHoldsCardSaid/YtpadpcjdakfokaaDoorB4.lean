/- Texts of the proof, joined: N2 N3 Pu6 Pu8 Pu9 Pu11 Pu7 Pu12 Pu13 Pu10 Pu14 Pu15 Pu16 Pu17 Br5 Br8 W1 D1 Ev26 R1 R2 R3 R4 R5 R6 R7 R8 R9 R10 R11 R12 R13 R14 N4 C5 C6 C7 -/
import Derived.Test.YtpadpcjdakfokaaDoorB3
set_option linter.unusedVariables false
set_option linter.unusedSimpArgs false

/- Contracts: the sum of limbs. Printed by gen.py. -/
namespace Go.Proofs.YtpadpcjdakfokaaDoor.Ev
open Go Go.Proofs
set_option linter.unusedVariables false
set_option linter.unusedSimpArgs false


attribute [local irreducible] Lb
theorem sub_all {l : List Int} {n : Int} (h : n = l.length) : (l.drop (0 : Int).toNat).take n.toNat = l := by subst h; simp

def addI (E : Env) (x y : List Int) : Int × Int × List Int → St := fun p => ⟨[(0, .sli .u32 x), (1, .sli .u32 y), (5, .ms 0 1 (.l 0) (.s (E.bin .add .i64 (E.len x) 1))), (6, .int .u32 (.s p.2.1)), (21, .int .i64 (.s (E.len x))), (22, .int .i64 (.s p.1))], [.ints true .u32 p.2.2]⟩

theorem c_natAdd (a b : List Int) (ha : Lb a) (hb : Lb b) (hla : a.length < 268435456) (hlb : b.length < 268435456) : ∃ t : List Int, t = lim (lv a + lv b) ∧ CallsA Tryd.prog 38 [.sli .u32 a, .sli .u32 b] (.sli .u32 t) := by
  refine ⟨_, rfl, ?_⟩
  generalize hr : lim (lv a + lv b) = r
  refine callsA_of hG hm Tryd.func38 (by kernel_rfl) ?_
  intro E hE lp hl
  cbv
  refine E_br hE (fun h => ?_) (fun h => ?_)
  · have hsum : lv b + lv a = lv a + lv b := Nat.add_comm _ _
    have hxy : a.length ≤ b.length := by subst hE; simp only [NatCast.natCast, Int.ofNat_eq_natCast, realE, cmp_eql, cmp_neq, cmp_lss, cmp_leq, cmp_gtr, cmp_geq, intBinR, decide_eq_true_eq, decide_eq_false_iff_not, SI.val, SB.val, Num.eta, Iv.eta] at *; omega

    have h32 : IntKind.i64.wrap ((b.length : Int) + 1) = b.length + 1 := wi64_id (by omega) (by omega)
    cbv
    repeat' (first
    | (refine E_br hE (fun h => ?_) (fun h => ?_) <;> cbv)
    | (refine E_nm hE (fun v hv => ?_); cbv)
    | (refine E_nilS hE (fun b hb => ?_); cbv)
    | fail)
    all_goals (try (exfalso; subst hE; simp only [NatCast.natCast, Int.ofNat_eq_natCast, realE, cmp_eql, cmp_neq, cmp_lss, cmp_leq, cmp_gtr, cmp_geq, intBinR, decide_eq_true_eq, decide_eq_false_iff_not, SI.val, SB.val, Num.eta, Iv.eta] at *; rw [h32] at *; omega))
    obtain ⟨m, em⟩ : ∃ m : Int × Int × List Int → Nat, ∀ p, m p = (b.length - p.1).toNat := ⟨_, fun _ => rfl⟩
    obtain ⟨ok, eok⟩ : ∃ ok : Int × Int × List Int → Prop, ∀ p, ok p ↔ 0 ≤ p.1 ∧ p.1 ≤ b.length ∧ AddInv b a p.2.2 p.1.toNat p.2.1 := ⟨_, fun _ => Iff.rfl⟩
    refine E_loop hE hG hm hl (addI E b a) m ok ⟨(0, 0, E.rep (E.bin .add .i64 (E.len b) 1)), (eok _).2 ?_, stLe rfl ?_⟩ ?_
    · refine ⟨by show (0 : Int) ≤ 0; omega, by show (0 : Int) ≤ b.length; omega, ?_⟩
      have := AddInv.start b a
      subst hE; simp only [NatCast.natCast, Int.ofNat_eq_natCast, realE, cmp_eql, cmp_neq, cmp_lss, cmp_leq, cmp_gtr, cmp_geq, intBinR, decide_eq_true_eq, decide_eq_false_iff_not, SI.val, SB.val, Num.eta, Iv.eta] at *; rw [h32]
      exact this
    · (repeat' (first | exact t_nil | apply t_cons | exact u2_sli | exact u2_int | exact u2_bool | exact u2_ms | exact u2_ptr | exact (rfl : sle2 .s0 .s0)))
    rintro ⟨i, c, out⟩ hok
    obtain ⟨h1, h2, inv⟩ := (eok _).1 hok
    dsimp only at h1 h2 inv
    have hgx := hb.getD i.toNat
    have hgy := ha.getD i.toNat
    have hc0 := inv.c0
    have hc1 := inv.c1
    have hol := inv.len
    have next : ∀ (j k c' z : Int) (v : Int × Int), i < b.length → k = i → j = IntKind.i64.wrap (i + 1) → (z = a.getD k.toNat 0 ∨ (¬ k < a.length ∧ z = 0)) →
        v = ((b.getD k.toNat 0 + z + c) % 4294967296, (b.getD k.toNat 0 + z + c) / 4294967296) → c' = v.2 →
        m (j, c', out.set k.toNat v.1) < m (i, c, out) ∧ ok (j, c', out.set k.toNat v.1) := by
      intro j k c' z v h hk hj hz hv hc
      subst hk
      have hz : z = a.getD k.toNat 0 := by
        rcases hz with hz | ⟨hz, h0⟩
        · exact hz
        · rw [h0, getD_past (by omega)]
      have hj : j = k + 1 := by rw [hj, wi64_id (by omega) (by omega)]
      refine ⟨by rw [em, em]; show ((b.length : Int) - j).toNat < ((b.length : Int) - k).toNat; omega, (eok _).2 ⟨by show 0 ≤ j; omega, by show j ≤ (b.length : Int); omega, ?_⟩⟩
      have := inv.step hb ha (by omega)
      rw [← hz] at this
      rw [hc, hv, hj]
      show AddInv b a (out.set k.toNat ((b.getD k.toNat 0 + z + c) % 4294967296)) (k + 1).toNat ((b.getD k.toNat 0 + z + c) / 4294967296)
      rw [show (k + 1).toNat = k.toNat + 1 by omega]
      exact this
    have fin : ¬ i < b.length → Lb (out.set (b.length : Int).toNat c) ∧ lim (lv (out.set (b.length : Int).toNat c)) = r := by
      intro h
      rw [show i.toNat = b.length by omega] at inv
      obtain ⟨k1, k2⟩ := inv.stop hxy
      rw [Int.toNat_natCast]
      exact ⟨k1, by rw [k2, hsum, hr]⟩
    clear inv hok hr
    cbv
    repeat' (first
    | (refine E_br hE (fun h => ?_) (fun h => ?_) <;> cbv)
    | (refine E_nm hE (fun v hv => ?_); cbv)
    | (refine E_nilS hE (fun b hb => ?_); cbv)
    | (apply E_callX hE (c_Add32 _ _ _ ?_ ?_ ?_ ?_ ?_ ?_); (case hf => rfl); (case hc => (cbv <;> trivial)); (case hle => (repeat' (first | exact u_nil | apply u_cons | apply u2_agg | exact u2_int | exact u1_int | exact u2_bool | exact u1_bool | exact u2_sli | exact u1_sli | exact u2_s0 | exact u1_s0))); all_goals (first | (intro t ht; cbv) | (subst hE; (try simp only [NatCast.natCast, Int.ofNat_eq_natCast, realE, cmp_eql, cmp_neq, cmp_lss, cmp_leq, cmp_gtr, cmp_geq, intBinR, decide_eq_true_eq, decide_eq_false_iff_not, SI.val, SB.val, Num.eta, Iv.eta] at *); subst_vars; (first | assumption | omega))))
    | (apply E_callX hE (c_cut _ ?_ ?_); (case hf => rfl); (case hc => (cbv <;> trivial)); (case hle => (repeat' (first | exact u_nil | apply u_cons | apply u2_agg | exact u2_int | exact u1_int | exact u2_bool | exact u1_bool | exact u2_sli | exact u1_sli | exact u2_s0 | exact u1_s0))); all_goals (first | (intro t ht; cbv) | ((subst hE; simp only [NatCast.natCast, Int.ofNat_eq_natCast, realE, cmp_eql, cmp_neq, cmp_lss, cmp_leq, cmp_gtr, cmp_geq, intBinR, decide_eq_true_eq, decide_eq_false_iff_not, SI.val, SB.val, Num.eta, Iv.eta] at *; rw [h32] at *; rw [sub_all (by rw [List.length_set]; omega)]; first | exact (fin ‹_›).1 | (rw [List.length_set]; omega)))))
    | fail)
    all_goals (try refine ⟨(E.bin .add .i64 i 1, v, E.set out _ t.1), ?_, ?_, stLe rfl ?_⟩)
    all_goals (try ((repeat' (first | exact t_nil | apply t_cons | exact u2_sli | exact u2_int | exact u2_bool | exact u2_ms | exact u2_ptr | exact (rfl : sle2 .s0 .s0))); done))
    all_goals (subst hE; simp only [NatCast.natCast, Int.ofNat_eq_natCast, realE, cmp_eql, cmp_neq, cmp_lss, cmp_leq, cmp_gtr, cmp_geq, intBinR, decide_eq_true_eq, decide_eq_false_iff_not, SI.val, SB.val, Num.eta, Iv.eta] at *)
    all_goals (first | exact (next _ _ _ _ _ ‹_› ‹_› rfl (by first | exact .inl ‹_› | exact .inr ⟨‹_›, rfl⟩) ‹t = _› ‹_›).1 | exact (next _ _ _ _ _ ‹_› ‹_› rfl (by first | exact .inl ‹_› | exact .inr ⟨‹_›, rfl⟩) ‹t = _› ‹_›).2 | (exfalso; clear next fin; rw [h32] at *; omega) | skip)
    rw [‹t = _›, h32, sub_all (by rw [List.length_set]; omega), (fin ‹_›).2]
  · have hsum : lv a + lv b = lv a + lv b := rfl
    have hxy : b.length ≤ a.length := by subst hE; simp only [NatCast.natCast, Int.ofNat_eq_natCast, realE, cmp_eql, cmp_neq, cmp_lss, cmp_leq, cmp_gtr, cmp_geq, intBinR, decide_eq_true_eq, decide_eq_false_iff_not, SI.val, SB.val, Num.eta, Iv.eta] at *; omega

    have h32 : IntKind.i64.wrap ((a.length : Int) + 1) = a.length + 1 := wi64_id (by omega) (by omega)
    cbv
    repeat' (first
    | (refine E_br hE (fun h => ?_) (fun h => ?_) <;> cbv)
    | (refine E_nm hE (fun v hv => ?_); cbv)
    | (refine E_nilS hE (fun b hb => ?_); cbv)
    | fail)
    all_goals (try (exfalso; subst hE; simp only [NatCast.natCast, Int.ofNat_eq_natCast, realE, cmp_eql, cmp_neq, cmp_lss, cmp_leq, cmp_gtr, cmp_geq, intBinR, decide_eq_true_eq, decide_eq_false_iff_not, SI.val, SB.val, Num.eta, Iv.eta] at *; rw [h32] at *; omega))
    obtain ⟨m, em⟩ : ∃ m : Int × Int × List Int → Nat, ∀ p, m p = (a.length - p.1).toNat := ⟨_, fun _ => rfl⟩
    obtain ⟨ok, eok⟩ : ∃ ok : Int × Int × List Int → Prop, ∀ p, ok p ↔ 0 ≤ p.1 ∧ p.1 ≤ a.length ∧ AddInv a b p.2.2 p.1.toNat p.2.1 := ⟨_, fun _ => Iff.rfl⟩
    refine E_loop hE hG hm hl (addI E a b) m ok ⟨(0, 0, E.rep (E.bin .add .i64 (E.len a) 1)), (eok _).2 ?_, stLe rfl ?_⟩ ?_
    · refine ⟨by show (0 : Int) ≤ 0; omega, by show (0 : Int) ≤ a.length; omega, ?_⟩
      have := AddInv.start a b
      subst hE; simp only [NatCast.natCast, Int.ofNat_eq_natCast, realE, cmp_eql, cmp_neq, cmp_lss, cmp_leq, cmp_gtr, cmp_geq, intBinR, decide_eq_true_eq, decide_eq_false_iff_not, SI.val, SB.val, Num.eta, Iv.eta] at *; rw [h32]
      exact this
    · (repeat' (first | exact t_nil | apply t_cons | exact u2_sli | exact u2_int | exact u2_bool | exact u2_ms | exact u2_ptr | exact (rfl : sle2 .s0 .s0)))
    rintro ⟨i, c, out⟩ hok
    obtain ⟨h1, h2, inv⟩ := (eok _).1 hok
    dsimp only at h1 h2 inv
    have hgx := ha.getD i.toNat
    have hgy := hb.getD i.toNat
    have hc0 := inv.c0
    have hc1 := inv.c1
    have hol := inv.len
    have next : ∀ (j k c' z : Int) (v : Int × Int), i < a.length → k = i → j = IntKind.i64.wrap (i + 1) → (z = b.getD k.toNat 0 ∨ (¬ k < b.length ∧ z = 0)) →
        v = ((a.getD k.toNat 0 + z + c) % 4294967296, (a.getD k.toNat 0 + z + c) / 4294967296) → c' = v.2 →
        m (j, c', out.set k.toNat v.1) < m (i, c, out) ∧ ok (j, c', out.set k.toNat v.1) := by
      intro j k c' z v h hk hj hz hv hc
      subst hk
      have hz : z = b.getD k.toNat 0 := by
        rcases hz with hz | ⟨hz, h0⟩
        · exact hz
        · rw [h0, getD_past (by omega)]
      have hj : j = k + 1 := by rw [hj, wi64_id (by omega) (by omega)]
      refine ⟨by rw [em, em]; show ((a.length : Int) - j).toNat < ((a.length : Int) - k).toNat; omega, (eok _).2 ⟨by show 0 ≤ j; omega, by show j ≤ (a.length : Int); omega, ?_⟩⟩
      have := inv.step ha hb (by omega)
      rw [← hz] at this
      rw [hc, hv, hj]
      show AddInv a b (out.set k.toNat ((a.getD k.toNat 0 + z + c) % 4294967296)) (k + 1).toNat ((a.getD k.toNat 0 + z + c) / 4294967296)
      rw [show (k + 1).toNat = k.toNat + 1 by omega]
      exact this
    have fin : ¬ i < a.length → Lb (out.set (a.length : Int).toNat c) ∧ lim (lv (out.set (a.length : Int).toNat c)) = r := by
      intro h
      rw [show i.toNat = a.length by omega] at inv
      obtain ⟨k1, k2⟩ := inv.stop hxy
      rw [Int.toNat_natCast]
      exact ⟨k1, by rw [k2, hsum, hr]⟩
    clear inv hok hr
    cbv
    repeat' (first
    | (refine E_br hE (fun h => ?_) (fun h => ?_) <;> cbv)
    | (refine E_nm hE (fun v hv => ?_); cbv)
    | (refine E_nilS hE (fun b hb => ?_); cbv)
    | (apply E_callX hE (c_Add32 _ _ _ ?_ ?_ ?_ ?_ ?_ ?_); (case hf => rfl); (case hc => (cbv <;> trivial)); (case hle => (repeat' (first | exact u_nil | apply u_cons | apply u2_agg | exact u2_int | exact u1_int | exact u2_bool | exact u1_bool | exact u2_sli | exact u1_sli | exact u2_s0 | exact u1_s0))); all_goals (first | (intro t ht; cbv) | (subst hE; (try simp only [NatCast.natCast, Int.ofNat_eq_natCast, realE, cmp_eql, cmp_neq, cmp_lss, cmp_leq, cmp_gtr, cmp_geq, intBinR, decide_eq_true_eq, decide_eq_false_iff_not, SI.val, SB.val, Num.eta, Iv.eta] at *); subst_vars; (first | assumption | omega))))
    | (apply E_callX hE (c_cut _ ?_ ?_); (case hf => rfl); (case hc => (cbv <;> trivial)); (case hle => (repeat' (first | exact u_nil | apply u_cons | apply u2_agg | exact u2_int | exact u1_int | exact u2_bool | exact u1_bool | exact u2_sli | exact u1_sli | exact u2_s0 | exact u1_s0))); all_goals (first | (intro t ht; cbv) | ((subst hE; simp only [NatCast.natCast, Int.ofNat_eq_natCast, realE, cmp_eql, cmp_neq, cmp_lss, cmp_leq, cmp_gtr, cmp_geq, intBinR, decide_eq_true_eq, decide_eq_false_iff_not, SI.val, SB.val, Num.eta, Iv.eta] at *; rw [h32] at *; rw [sub_all (by rw [List.length_set]; omega)]; first | exact (fin ‹_›).1 | (rw [List.length_set]; omega)))))
    | fail)
    all_goals (try refine ⟨(E.bin .add .i64 i 1, v, E.set out _ t.1), ?_, ?_, stLe rfl ?_⟩)
    all_goals (try ((repeat' (first | exact t_nil | apply t_cons | exact u2_sli | exact u2_int | exact u2_bool | exact u2_ms | exact u2_ptr | exact (rfl : sle2 .s0 .s0))); done))
    all_goals (subst hE; simp only [NatCast.natCast, Int.ofNat_eq_natCast, realE, cmp_eql, cmp_neq, cmp_lss, cmp_leq, cmp_gtr, cmp_geq, intBinR, decide_eq_true_eq, decide_eq_false_iff_not, SI.val, SB.val, Num.eta, Iv.eta] at *)
    all_goals (first | exact (next _ _ _ _ _ ‹_› ‹_› rfl (by first | exact .inl ‹_› | exact .inr ⟨‹_›, rfl⟩) ‹t = _› ‹_›).1 | exact (next _ _ _ _ _ ‹_› ‹_› rfl (by first | exact .inl ‹_› | exact .inr ⟨‹_›, rfl⟩) ‹t = _› ‹_›).2 | (exfalso; clear next fin; rw [h32] at *; omega) | skip)
    rw [‹t = _›, h32, sub_all (by rw [List.length_set]; omega), (fin ‹_›).2]

end Go.Proofs.YtpadpcjdakfokaaDoor.Ev

/- Contracts: the product of limbs. Printed by gen.py. -/
namespace Go.Proofs.YtpadpcjdakfokaaDoor.Ev
open Go Go.Proofs
set_option linter.unusedVariables false
set_option linter.unusedSimpArgs false


attribute [local irreducible] Lb
def mulO (E : Env) (a b : List Int) : Int × List Int → St := fun p => ⟨[(0, .sli .u32 a), (1, .sli .u32 b), (5, .ms 0 1 (.l 0) (.s (E.bin .add .i64 (E.len a) (E.len b)))), (18, .sli .u32 a), (19, .int .i64 (.s (E.len a))), (20, .int .i64 (.s p.1))], [.ints true .u32 p.2]⟩
def mulI (E : Env) (a b : List Int) (i i' x : Int) : Int × Int × List Int → St := fun p => ⟨[(0, .sli .u32 a), (1, .sli .u32 b), (5, .ms 0 1 (.l 0) (.s (E.bin .add .i64 (E.len a) (E.len b)))), (18, .sli .u32 a), (19, .int .i64 (.s (E.len a))), (20, .int .i64 (.s i)),
   (6, .int .i64 (.s i')), (7, .int .u32 (.s x)), (8, .int .u64 (.s p.2.1)), (25, .sli .u32 b), (26, .int .i64 (.s (E.len b))), (27, .int .i64 (.s p.1))], [.ints true .u32 p.2.2]⟩
set_option maxHeartbeats 1000000 in
theorem c_natMul (a b : List Int) (ha : Lb a) (hb : Lb b) (hla : a.length < 134217728) (hlb : b.length < 134217728) : ∃ t : List Int, t = lim (lv a * lv b) ∧ CallsA Tryd.prog 90 [.sli .u32 a, .sli .u32 b] (.sli .u32 t) := by
  refine ⟨_, rfl, ?_⟩
  generalize hr : lim (lv a * lv b) = r
  have h32 : IntKind.i64.wrap ((a.length : Int) + b.length) = a.length + b.length := wi64_id (by omega) (by omega)
  obtain ⟨m, em⟩ : ∃ m : Int × List Int → Nat, ∀ p, m p = (a.length - p.1).toNat := ⟨_, fun _ => rfl⟩
  obtain ⟨ok, eok⟩ : ∃ ok : Int × List Int → Prop, ∀ p, ok p ↔ 0 ≤ p.1 ∧ p.1 ≤ a.length ∧ MulInv a b p.2 p.1.toNat 0 0 := ⟨_, fun _ => Iff.rfl⟩
  obtain ⟨m2, em2⟩ : ∃ m : Int × Int × List Int → Nat, ∀ p, m p = (b.length - p.1).toNat := ⟨_, fun _ => rfl⟩
  obtain ⟨ok2, eok2⟩ : ∃ ok : Int → Int × Int × List Int → Prop, ∀ i p, ok i p ↔ 0 ≤ p.1 ∧ p.1 ≤ b.length ∧ MulInv a b p.2.2 i.toNat p.1.toNat p.2.1 := ⟨_, fun _ _ => Iff.rfl⟩
  refine callsA_of hG hm Tryd.func90 (by kernel_rfl) ?_
  intro E hE lp hl
  cbv
  repeat' (first
    | (refine E_br hE (fun h => ?_) (fun h => ?_) <;> cbv)
    | (refine E_nm hE (fun v hv => ?_); cbv)
    | (refine E_nilS hE (fun b hb => ?_); cbv)
    | fail)
  all_goals (try (exfalso; subst hE; simp only [NatCast.natCast, Int.ofNat_eq_natCast, realE, cmp_eql, cmp_neq, cmp_lss, cmp_leq, cmp_gtr, cmp_geq, intBinR, decide_eq_true_eq, decide_eq_false_iff_not, SI.val, SB.val, Num.eta, Iv.eta] at *; rw [h32] at *; omega))
  refine E_loop hE hG hm hl (mulO E a b) m ok ⟨(0, E.rep (E.bin .add .i64 (E.len a) (E.len b))), (eok _).2 ?_, stLe rfl ?_⟩ ?_
  · refine ⟨by show (0 : Int) ≤ 0; omega, by show (0 : Int) ≤ a.length; omega, ?_⟩
    have := MulInv.start a b
    subst hE; simp only [NatCast.natCast, Int.ofNat_eq_natCast, realE, cmp_eql, cmp_neq, cmp_lss, cmp_leq, cmp_gtr, cmp_geq, intBinR, decide_eq_true_eq, decide_eq_false_iff_not, SI.val, SB.val, Num.eta, Iv.eta] at *; rw [h32]
    exact this
  · (repeat' (first | exact t_nil | apply t_cons | exact u2_sli | exact u2_int | exact u2_bool | exact u2_ms | exact u2_ptr | exact (rfl : sle2 .s0 .s0)))
  rintro ⟨i, out⟩ hok
  obtain ⟨h1, h2, inv⟩ := (eok _).1 hok
  dsimp only at h1 h2 inv
  simp only [NatCast.natCast, Int.ofNat_eq_natCast] at h2 em eok em2 eok2
  have hol := inv.len
  have fin : ¬ i < a.length → Lb out ∧ lim (lv out) = r := by
    intro h
    rw [show i.toNat = a.length by omega] at inv
    exact ⟨inv.lb, by rw [inv.stop, hr]⟩
  clear hr hok
  cbv
  repeat' (first
    | (refine E_br hE (fun h => ?_) (fun h => ?_) <;> cbv)
    | (refine E_nm hE (fun v hv => ?_); cbv)
    | (refine E_nilS hE (fun b hb => ?_); cbv)
    | (apply E_callX hE (c_cut _ ?_ ?_); (case hf => rfl); (case hc => (cbv <;> trivial)); (case hle => exact u_up); all_goals (first | (intro t ht; cbv) | ((subst hE; simp only [NatCast.natCast, Int.ofNat_eq_natCast, realE, cmp_eql, cmp_neq, cmp_lss, cmp_leq, cmp_gtr, cmp_geq, intBinR, decide_eq_true_eq, decide_eq_false_iff_not, SI.val, SB.val, Num.eta, Iv.eta] at *; rw [h32] at *; rw [sub_all (by omega)]; first | exact (fin ‹_›).1 | omega))))
    | fail)
  case hK => subst hE; simp only [NatCast.natCast, Int.ofNat_eq_natCast, realE, cmp_eql, cmp_neq, cmp_lss, cmp_leq, cmp_gtr, cmp_geq, intBinR, decide_eq_true_eq, decide_eq_false_iff_not, SI.val, SB.val, Num.eta, Iv.eta] at *; rw [‹t = _›, h32, sub_all (by omega), (fin ‹_›).2]
  all_goals (try (exfalso; subst hE; simp only [NatCast.natCast, Int.ofNat_eq_natCast, realE, cmp_eql, cmp_neq, cmp_lss, cmp_leq, cmp_gtr, cmp_geq, intBinR, decide_eq_true_eq, decide_eq_false_iff_not, SI.val, SB.val, Num.eta, Iv.eta] at *; clear fin; rw [h32] at *; omega))
  rename_i i' ei
  have ex := hv
  clear hv
  have hilt : i < a.length := by subst hE; exact lss_t ‹_›
  refine E_loop hE hG hm hl (mulI E a b i i' v) m2 (ok2 i) ⟨(0, 0, out), (eok2 _ _).2 ⟨by show (0 : Int) ≤ 0; omega, by show (0 : Int) ≤ b.length; omega, inv⟩, stLe rfl ?_⟩ ?_
  · (repeat' (first | exact t_nil | apply t_cons | exact u2_sli | exact u2_int | exact u2_bool | exact u2_ms | exact u2_ptr | exact (rfl : sle2 .s0 .s0)))
  rintro ⟨k, c, out⟩ hok
  have h3 : 0 ≤ k := ((eok2 _ _).1 hok).1
  have h4 : k ≤ b.length := ((eok2 _ _).1 hok).2.1
  have inv2 : MulInv a b out i.toNat k.toNat c := ((eok2 _ _).1 hok).2.2
  have hol2 := inv2.len
  clear inv hol fin
  cbv
  repeat' (first
    | (refine E_br hE (fun h => ?_) (fun h => ?_) <;> cbv)
    | (refine E_nm hE (fun v hv => ?_); cbv)
    | (refine E_nilS hE (fun b hb => ?_); cbv)
    | fail)
  all_goals (try refine ⟨(E.bin .add .i64 k 1, v, E.set out (E.bin .add .i64 i' _) (E.conv .u32 _)), ?_, ?_, stLe rfl ?_⟩)
  all_goals (try refine ⟨(E.bin .add .i64 i 1, E.set out (E.bin .add .i64 i' (E.len b)) (E.conv .u32 c)), ?_, ?_, stLe rfl ?_⟩)
  all_goals (try ((repeat' (first | exact t_nil | apply t_cons | exact u2_sli | exact u2_int | exact u2_bool | exact u2_ms | exact u2_ptr | exact (rfl : sle2 .s0 .s0))); done))
  all_goals (subst hE)
  all_goals (try (first | (rw [em2, em2]; exact (mul_next ha hb hla hlb h1 hilt h3 (lss_t ‹_›) inv2 ei ‹_› ex ‹_› ‹_› ‹_› rfl).2.2.1) | (rw [eok2]; have q := mul_next ha hb hla hlb h1 hilt h3 (lss_t ‹_›) inv2 ei ‹_› ex ‹_› ‹_› ‹_› rfl; exact ⟨q.1, q.2.1, q.2.2.2⟩) | (rw [em, em]; exact (mul_exit hla hlb h1 hilt h4 (lss_f ‹_›) inv2 ei rfl).2.2.1) | (rw [eok]; have q := mul_exit hla hlb h1 hilt h4 (lss_f ‹_›) inv2 ei rfl; exact ⟨q.1, q.2.1, q.2.2.2⟩)))
  all_goals (clear inv2 hok eok eok2 em em2; simp only [NatCast.natCast, Int.ofNat_eq_natCast, realE, cmp_eql, cmp_neq, cmp_lss, cmp_leq, cmp_gtr, cmp_geq, intBinR, decide_eq_true_eq, decide_eq_false_iff_not, SI.val, SB.val, Num.eta, Iv.eta] at *; (try rw [h32] at *); clear h32; (try simp only [wi64] at *); omega)

end Go.Proofs.YtpadpcjdakfokaaDoor.Ev

/- Is one of these intervals empty, or none at all? Plain Lean. -/
namespace Go.Proofs.YtpadpcjdakfokaaDoor.Ev
open Go

def Iv.cells (x : Iv) : List AV := [.bool (.s x.empty), .int .i64 (.s x.lo.kind), .bool (.s x.lo.neg), .int .u64 (.s x.lo.m), .int .i64 (.s x.lo.e),
  .int .i64 (.s x.hi.kind), .bool (.s x.hi.neg), .int .u64 (.s x.hi.m), .int .i64 (.s x.hi.e)]
def Iv.bad (x : Iv) : Bool := x.empty || !x.may
def Iv.anyBad (l : List Iv) : Bool := l.any Iv.bad
def Iv.badTo (l : List Iv) (i : Int) : Bool := (l.take i.toNat).any Iv.bad
theorem Iv.badTo_all (l : List Iv) : Iv.badTo l l.length = Iv.anyBad l := by simp [Iv.badTo, Iv.anyBad]
theorem Iv.badTo_succ (l : List Iv) {i : Int} (h0 : 0 ≤ i) (h1 : i < l.length) : Iv.badTo l (i + 1) = (Iv.badTo l i || Iv.bad (l.getD i.toNat Iv.none)) := by
  unfold Iv.badTo
  have : i.toNat < l.length := by omega
  have e : l.getD i.toNat Iv.none = l[i.toNat] := by simp [List.getD, List.getElem?_eq_getElem this]
  rw [e, show (i + 1).toNat = i.toNat + 1 by omega, List.take_add_one, List.getElem?_eq_getElem this, Option.toList_some, List.any_append]
  simp
theorem Iv.anyBad_at (l : List Iv) {i : Int} (h0 : 0 ≤ i) (h1 : i < l.length) (h : Iv.bad (l.getD i.toNat Iv.none) = true) : Iv.anyBad l = true := by
  have : i.toNat < l.length := by omega
  have e : l.getD i.toNat Iv.none = l[i.toNat] := by simp [List.getD, List.getElem?_eq_getElem this]
  unfold Iv.anyBad
  rw [List.any_eq_true]
  exact ⟨l[i.toNat], List.getElem_mem this, by rw [← e]; exact h⟩
end Go.Proofs.YtpadpcjdakfokaaDoor.Ev

/- The value of a number, scaled to a whole number; the order; what rounding does: plain Lean. -/
namespace Go.Proofs.YtpadpcjdakfokaaDoor.Ev
open Go

def pw (e : Int) : Int := 2 ^ (e + 8388608).toNat
theorem pw_pos (e : Int) : 0 < pw e := Int.pow_pos (by decide)
theorem pw_add {e f : Int} (h : -8388608 ≤ e) (h2 : 0 ≤ f) : pw (e + f) = pw e * 2 ^ f.toNat := by
  unfold pw; rw [show (e + f + 8388608).toNat = (e + 8388608).toNat + f.toNat by omega, Int.pow_add]
theorem pw_succ {e : Int} (h : -8388608 ≤ e) : pw (e + 1) = pw e * 2 := pw_add h (by decide)
theorem pw_64 {e : Int} (h : -8388608 ≤ e) : pw (e + 64) = pw e * 18446744073709551616 := pw_add h (by decide)
theorem pw_63 {e : Int} (h : -8388608 ≤ e) : pw (e + 63) = pw e * 9223372036854775808 := pw_add h (by decide)
theorem pw_mul {e f : Int} (h : -8388608 ≤ e) (h2 : -8388608 ≤ f) (h3 : -8388608 ≤ e + f) : pw e * pw f = pw 0 * pw (e + f) := by
  unfold pw; rw [← Int.pow_add, ← Int.pow_add, show (e + 8388608).toNat + (f + 8388608).toNat = ((0 : Int) + 8388608).toNat + (e + f + 8388608).toNat by omega]
theorem pw_mono {e f : Int} (h : -8388608 ≤ e) (h2 : e ≤ f) : pw e ≤ pw f := by
  have e1 := pw_add h (show 0 ≤ f - e by omega)
  rw [show e + (f - e) = f by omega] at e1
  rw [e1]
  have p := pw_pos e
  have q : (0 : Int) < 2 ^ (f - e).toNat := Int.pow_pos (by decide)
  have := Int.mul_le_mul_of_nonneg_left (show (1 : Int) ≤ 2 ^ (f - e).toNat by omega) (Int.le_of_lt p)
  omega
theorem pw_lt {e f : Int} (h : -8388608 ≤ e) (h2 : e < f) : pw e * 2 ≤ pw f := by
  rw [← pw_succ h]; exact pw_mono (by omega) (by omega)

def Num.W (n : Num) : Int := if n.kind = 0 then 0 else if n.kind = 1 then n.m * pw n.e else pw 1048640
def Num.val (n : Num) : Int := if n.neg then -n.W else n.W

/-- finite -/
structure Num.Fin (n : Num) : Prop where
  kind : n.kind = 1
  lo : 9223372036854775808 ≤ n.m
  hi : n.m < 18446744073709551616
  elo : -1048576 ≤ n.e
  ehi : n.e ≤ 1048576

theorem Num.may3 {n : Num} (h : n.may = true) (ho : n.ok) : n = Num.zero ∨ n.Fin ∨ n = Num.inf n.neg := by
  rcases Num.may_cases h with h | h | h
  · exact .inl h
  · exact .inr (.inl ⟨h.1, h.2.1, ho.2, h.2.2.1, h.2.2.2⟩)
  · exact .inr (.inr h)

theorem Num.Fin.may {n : Num} (h : n.Fin) : n.may = true := by
  unfold Num.may; rw [if_neg (by rw [h.kind]; decide), if_pos h.kind]
  simp [h.lo, h.elo, h.ehi]
theorem Num.Fin.ok {n : Num} (h : n.Fin) : n.ok := ⟨by have := h.lo; omega, h.hi⟩
theorem Num.Fin.W {n : Num} (h : n.Fin) : n.W = n.m * pw n.e := by
  unfold Num.W; rw [if_neg (by rw [h.kind]; decide), if_pos h.kind]

theorem Num.Fin.lt {n : Num} (h : n.Fin) : 0 < n.W ∧ n.W < pw 1048640 := by
  rw [h.W]
  have p := pw_pos n.e
  have l := h.lo
  have u := h.hi
  have e1 := pw_64 (e := n.e) (by have := h.elo; omega)
  have e2 := pw_mono (e := n.e + 64) (f := 1048640) (by have := h.elo; omega) (by have := h.ehi; omega)
  have e3 : n.m * pw n.e < 18446744073709551616 * pw n.e := Int.mul_lt_mul_of_pos_right u p
  have e4 : 0 < n.m * pw n.e := Int.mul_pos (by omega) p
  omega

theorem Num.zero_W : Num.zero.W = 0 := rfl
theorem Num.inf_W (b : Bool) : (Num.inf b).W = pw 1048640 := rfl
theorem Num.zero_may : Num.zero.may = true := by decide
theorem Num.inf_may (b : Bool) : (Num.inf b).may = true := by cases b <;> decide

/-- the greater exponent makes the greater number -/
theorem lex_lt {m e m' e' : Int} (h1 : 9223372036854775808 ≤ m') (h2 : m < 18446744073709551616) (he : -8388608 ≤ e) (h : e < e') : m * pw e < m' * pw e' := by
  have p := pw_pos e
  have e1 := pw_lt he h
  have e2 : m * pw e < 18446744073709551616 * pw e := Int.mul_lt_mul_of_pos_right h2 p
  have e3 : 9223372036854775808 * pw e' ≤ m' * pw e' := Int.mul_le_mul_of_nonneg_right h1 (by omega)
  omega

theorem Num.farther_iff {a b : Num} (ha : a.may = true) (hb : b.may = true) (oa : a.ok) (ob : b.ok) : a.farther b = true ↔ b.W < a.W := by
  rcases Num.may3 ha oa with h | h | h <;> rcases Num.may3 hb ob with k | k | k
  · rw [h, k]; simp [Num.farther]
  · rw [h]; have := k.lt; simp [Num.farther, k.kind, Num.zero, Num.W]; rw [← k.W]; omega
  · rw [h, k]; have := pw_pos 1048640; simp [Num.farther, Num.zero, Num.inf, Num.W]; omega
  · rw [k]; have := h.lt; simp [Num.farther, h.kind, Num.zero, Num.W]; rw [← h.W]; omega
  · unfold Num.farther
    rw [if_neg (by simp [h.kind, k.kind]), h.W, k.W]
    have := h.lo; have := h.hi; have := h.elo; have := h.ehi
    have := k.lo; have := k.hi; have := k.elo; have := k.ehi
    by_cases he : a.e = b.e
    · rw [if_neg (by simp [he]), he, decide_eq_true_eq]
      have p := pw_pos b.e
      exact (Int.mul_lt_mul_right p).symm
    · rw [if_pos he, decide_eq_true_eq]
      constructor
      · intro g; exact lex_lt h.lo k.hi (by omega) g
      · intro g
        rcases Int.lt_or_le b.e a.e with g' | g'
        · exact g'
        · have := lex_lt k.lo h.hi (by omega) (show a.e < b.e by omega)
          omega
  · rw [k]; have := h.lt; simp [Num.farther, h.kind, Num.inf, Num.W]; rw [← h.W]; omega
  · rw [h, k]; have := pw_pos 1048640; simp [Num.farther, Num.zero, Num.inf, Num.W]; omega
  · rw [h]; have := k.lt; simp [Num.farther, k.kind, Num.inf, Num.W]; rw [← k.W]; omega
  · rw [h, k]; simp [Num.farther, Num.inf, Num.W]

theorem Num.sign_of {n : Num} (h : n.may = true) (o : n.ok) : (n.sign = 0 ∧ n.val = 0 ∧ n.W = 0 ∧ n = Num.zero) ∨ (n.sign = 1 ∧ n.val = n.W ∧ 0 < n.W ∧ n.neg = false ∧ n.kind ≠ 0) ∨ (n.sign = -1 ∧ n.val = -n.W ∧ 0 < n.W ∧ n.neg = true ∧ n.kind ≠ 0) := by
  unfold Num.sign Num.val
  rw [Num.fair_of_may h]
  rcases Num.may3 h o with k | k | k
  · left; rw [k]; simp [Num.zero, Num.W]
  · right
    have := k.lt
    rw [if_neg (by rw [k.kind]; decide)]
    cases hn : n.neg
    · left; simp [k.kind]; omega
    · right; simp [k.kind]; omega
  · right
    have := pw_pos 1048640
    rw [k]
    cases hn : n.neg
    · left; simp [Num.inf, Num.W]; exact this
    · right; simp [Num.inf, Num.W]; exact this

theorem Num.cmp_spec {a b : Num} (oa : a.ok) (ob : b.ok) :
    (a.cmp b = -1 ∧ a.fair.val < b.fair.val) ∨ (a.cmp b = 0 ∧ a.fair.val = b.fair.val) ∨ (a.cmp b = 1 ∧ b.fair.val < a.fair.val) := by
  have ma := a.fair_may
  have mb := b.fair_may
  replace oa := Num.fair_ok oa
  replace ob := Num.fair_ok ob
  unfold Num.cmp
  generalize a.fair = A at *
  generalize b.fair = B at *
  have f1 := Num.farther_iff ma mb oa ob
  have f2 := Num.farther_iff mb ma ob oa
  have w0 : IntKind.i64.wrap (0 - 0) = 0 := by decide
  have w1 : IntKind.i64.wrap (0 - 1) = -1 := by decide
  have w2 : IntKind.i64.wrap (0 - -1) = 1 := by decide
  rcases Num.sign_of ma oa with h | h | h <;> rcases Num.sign_of mb ob with k | k | k <;> rw [h.1, k.1] <;> simp only [f1, f2, w0, w1, w2] <;> repeat' split <;> omega

theorem Num.cmp_le {a b : Num} (oa : a.ok) (ob : b.ok) : a.cmp b ≤ 0 ↔ a.fair.val ≤ b.fair.val := by
  rcases Num.cmp_spec oa ob with h | h | h <;> omega
theorem Num.cmp_lt {a b : Num} (oa : a.ok) (ob : b.ok) : a.cmp b < 0 ↔ a.fair.val < b.fair.val := by
  rcases Num.cmp_spec oa ob with h | h | h <;> omega
theorem Num.cmp_gt {a b : Num} (oa : a.ok) (ob : b.ok) : 0 < a.cmp b ↔ b.fair.val < a.fair.val := by
  rcases Num.cmp_spec oa ob with h | h | h <;> omega

theorem Num.val_inf (b : Bool) : (Num.inf b).val = if b then -pw 1048640 else pw 1048640 := rfl
theorem Num.val_zero : Num.zero.val = 0 := rfl
theorem Num.val_le {n : Num} (h : n.may = true) (o : n.ok) : -pw 1048640 ≤ n.val ∧ n.val ≤ pw 1048640 := by
  have p := pw_pos 1048640
  rcases Num.may3 h o with k | k | k
  · rw [k, Num.val_zero]; omega
  · have := k.lt; unfold Num.val; split <;> omega
  · rw [k, Num.val_inf]; split <;> omega

theorem Num.val_inj {a b : Num} (ha : a.may = true) (hb : b.may = true) (oa : a.ok) (ob : b.ok) (h : a.val = b.val) : a = b := by
  have f1 := Num.farther_iff ha hb oa ob
  have f2 := Num.farther_iff hb ha ob oa
  have key : a.neg = b.neg ∧ a.W = b.W := by
    rcases Num.sign_of ha oa with h | h | h <;> rcases Num.sign_of hb ob with k | k | k <;> first | (exfalso; omega) | (refine ⟨?_, by omega⟩; first | rw [h.2.2.2, k.2.2.2] | rw [h.2.2.2.1, k.2.2.2.1])
  rw [key.2] at f1 f2
  have g1 : a.farther b = false := by
    cases hh : a.farther b
    · rfl
    · have := f1.1 hh; omega
  have g2 : b.farther a = false := by
    cases hh : b.farther a
    · rfl
    · have := f2.1 hh; omega
  unfold Num.farther at g1 g2
  by_cases hk : a.kind = b.kind
  · rw [if_neg (by simp [hk])] at g1 g2
    by_cases he : a.e = b.e
    · rw [if_neg (by simp [he]), decide_eq_false_iff_not] at g1 g2
      exact (Num.eq_iff a b).2 ⟨hk, key.1, by omega, he⟩
    · rw [if_pos he, decide_eq_false_iff_not] at g1
      rw [if_pos (fun h => he h.symm), decide_eq_false_iff_not] at g2
      omega
  · rw [if_pos hk, decide_eq_false_iff_not] at g1
    rw [if_pos (fun h => hk h.symm), decide_eq_false_iff_not] at g2
    omega

theorem Num.ne_inf {n : Num} (h : n.may = true) (o : n.ok) : (n ≠ Num.inf false ↔ n.val < pw 1048640) ∧ (n ≠ Num.inf true ↔ -pw 1048640 < n.val) := by
  have b := Num.val_le h o
  constructor
  · constructor
    · intro g
      rcases Int.lt_or_le n.val (pw 1048640) with k | k
      · exact k
      · exact absurd (Num.val_inj h (Num.inf_may _) o (Num.inf_ok _) (by rw [Num.val_inf]; simp; omega)) g
    · rintro g rfl
      rw [Num.val_inf] at g; simp at g
  · constructor
    · intro g
      rcases Int.lt_or_le (-pw 1048640) n.val with k | k
      · exact k
      · exact absurd (Num.val_inj h (Num.inf_may _) o (Num.inf_ok _) (by rw [Num.val_inf]; simp; omega)) g
    · rintro g rfl
      rw [Num.val_inf] at g; simp at g

/-- finite, or nought: its value is no infinity's -/
theorem Num.fin_val {n : Num} (h : n.may = true) (o : n.ok) : n.kind ≠ 2 ↔ (-pw 1048640 < n.val ∧ n.val < pw 1048640) := by
  have p := pw_pos 1048640
  rcases Num.may3 h o with k | k | k
  · rw [k, Num.val_zero]; simp [Num.zero]; omega
  · have := k.lt; unfold Num.val; simp [k.kind]; split <;> omega
  · rw [k, Num.val_inf]; simp [Num.inf]; split <;> omega

/-! the opposite, and what is made of two ends -/
theorem Num.opp_may (n : Num) : n.opp.may = true := by
  have h := n.fair_may
  unfold Num.opp
  unfold Num.may at h ⊢
  dsimp only
  generalize n.fair = A at *
  split
  · rename_i h0; rw [if_pos h0] at h
    simp only [decide_eq_true_eq] at h ⊢
    rw [h]; rfl
  · rename_i h0; rw [if_neg h0] at h
    exact h
theorem Num.opp_ok {n : Num} (h : n.ok) : n.opp.ok := Num.fair_ok h
theorem Num.opp_opp (n : Num) : n.opp.opp = n.fair := by
  have e := Num.fair_of_may n.opp_may
  rw [Num.eq_iff]
  show n.opp.fair.kind = _ ∧ (decide (n.opp.fair.kind ≠ 0) && !n.opp.fair.neg) = _ ∧ n.opp.fair.m = _ ∧ n.opp.fair.e = _
  rw [e]
  refine ⟨rfl, ?_, rfl, rfl⟩
  show (decide (n.fair.kind ≠ 0) && !(decide (n.fair.kind ≠ 0) && !n.fair.neg)) = n.fair.neg
  rcases Num.may_cases n.fair_may with h | h | h
  · rw [h]; rfl
  · simp [h.1]
  · rw [h]; cases n.fair.neg <;> rfl
theorem Num.opp_val {n : Num} : n.opp.val = -n.fair.val := by
  unfold Num.opp Num.val
  dsimp only
  by_cases h : n.fair.kind = 0
  · have e : n.fair = Num.zero := by
      rcases Num.may_cases n.fair_may with k | k | k
      · exact k
      · omega
      · rw [k] at h; simp [Num.inf] at h
    rw [e]; rfl
  · have e : (decide (n.fair.kind ≠ 0) && !n.fair.neg) = !n.fair.neg := by simp [h]
    rw [e]
    have e2 : (Num.mk n.fair.kind (!n.fair.neg) n.fair.m n.fair.e).W = n.fair.W := rfl
    rw [e2]
    cases n.fair.neg <;> simp

/-- an interval that may be, and is not empty -/
structure Iv.Real (x : Iv) : Prop where
  some : x.empty = false
  lom : x.lo.may = true
  him : x.hi.may = true
  loo : x.lo.ok
  hio : x.hi.ok
  le : x.lo.val ≤ x.hi.val
  lt : x.lo.val < pw 1048640
  gt : -pw 1048640 < x.hi.val

theorem Iv.Real.may {x : Iv} (h : x.Real) : x.may = true := by
  unfold Iv.may
  rw [if_neg (by simp [h.some]), h.lom, h.him]
  have e1 := (Num.cmp_le h.loo h.hio).2 (by rw [Num.fair_of_may h.lom, Num.fair_of_may h.him]; exact h.le)
  have e2 := (Num.ne_inf h.lom h.loo).1.2 h.lt
  have e3 := (Num.ne_inf h.him h.hio).2.2 h.gt
  simp [e1, e2, e3]
theorem Iv.Real.fair {x : Iv} (h : x.Real) : x.fair = x := by unfold Iv.fair; rw [if_pos h.may]
theorem Iv.Real.good {x : Iv} (h : x.Real) : x.bad = false := by simp [Iv.bad, h.some, h.may]
theorem Iv.real_of {x : Iv} (h : x.may = true) (hs : x.empty = false) (o1 : x.lo.ok) (o2 : x.hi.ok) : x.Real := by
  unfold Iv.may at h
  rw [if_neg (by simp [hs])] at h
  simp only [Bool.and_eq_true, decide_eq_true_eq] at h
  obtain ⟨⟨⟨⟨h1, h2⟩, h3⟩, h4⟩, h5⟩ := h
  have e1 := (Num.cmp_le o1 o2).1 h3
  rw [Num.fair_of_may h1, Num.fair_of_may h2] at e1
  exact ⟨hs, h1, h2, o1, o2, e1, (Num.ne_inf h1 o1).1.1 h4, (Num.ne_inf h2 o2).2.1 h5⟩
theorem Iv.real_of_good {x : Iv} (h : x.bad = false) (o1 : x.lo.ok) (o2 : x.hi.ok) : x.Real := by
  unfold Iv.bad at h
  simp only [Bool.or_eq_false_iff, Bool.not_eq_false'] at h
  exact Iv.real_of h.2 h.1 o1 o2
theorem Iv.empty_may {x : Iv} (h : x.may = true) (hs : x.empty = true) : x = Iv.none := by
  unfold Iv.may at h
  rw [if_pos hs] at h
  simpa using h

theorem Iv.make_eq (lo hi : Num) : Iv.make lo hi = Iv.fair ⟨false, lo.fair, hi.fair⟩ := by unfold Iv.make; rw [Num.opp_opp, Num.opp_opp]
theorem Iv.make_real {lo hi : Num} (h : (Iv.mk false lo.fair hi.fair).Real) : Iv.make lo hi = ⟨false, lo.fair, hi.fair⟩ := by rw [Iv.make_eq, h.fair]
/-- what is made of two ends is none, or just these -/
theorem Iv.make_cases {lo hi : Num} (o1 : lo.ok) (o2 : hi.ok) : (Iv.make lo hi = Iv.none ∧ ¬ (Iv.mk false lo.fair hi.fair).Real) ∨ (Iv.make lo hi = ⟨false, lo.fair, hi.fair⟩ ∧ (Iv.mk false lo.fair hi.fair).Real) := by
  by_cases h : (Iv.mk false lo.fair hi.fair).Real
  · exact .inr ⟨Iv.make_real h, h⟩
  · refine .inl ⟨?_, h⟩
    rw [Iv.make_eq]
    unfold Iv.fair
    split
    · rename_i k
      exact absurd (Iv.real_of k rfl (Num.fair_ok o1) (Num.fair_ok o2)) h
    · rfl

/-! the least and the greatest -/
theorem Num.least_go (l : List Num) : ∀ (o : Num), o.may = true → o.ok → (∀ x ∈ l, x.ok) →
    (l.foldl Num.lesser o).may = true ∧ (l.foldl Num.lesser o).ok ∧ (l.foldl Num.lesser o).val ≤ o.val ∧ (∀ x ∈ l, (l.foldl Num.lesser o).val ≤ x.fair.val) ∧ (l.foldl Num.lesser o = o ∨ ∃ x ∈ l, l.foldl Num.lesser o = x.fair) := by
  induction l with
  | nil => intro o m k _; exact ⟨m, k, Int.le_refl _, by simp, .inl rfl⟩
  | cons a l ih =>
    intro o m k hl
    have ha := hl a (List.mem_cons_self ..)
    have hs := Num.cmp_lt ha k
    rw [Num.fair_of_may m] at hs
    have key : (Num.lesser o a).may = true ∧ (Num.lesser o a).ok ∧ (Num.lesser o a).val ≤ o.val ∧ (Num.lesser o a).val ≤ a.fair.val ∧ (Num.lesser o a = o ∨ Num.lesser o a = a.fair) := by
      unfold Num.lesser
      split
      · exact ⟨a.fair_may, Num.fair_ok ha, by omega, Int.le_refl _, .inr rfl⟩
      · exact ⟨m, k, Int.le_refl _, by omega, .inl rfl⟩
    obtain ⟨k1, k2, k3, k4, k5⟩ := key
    obtain ⟨i1, i2, i3, i4, i5⟩ := ih _ k1 k2 (fun x hx => hl x (List.mem_cons_of_mem _ hx))
    rw [List.foldl_cons]
    refine ⟨i1, i2, by omega, ?_, ?_⟩
    · intro x hx
      rcases List.mem_cons.1 hx with rfl | hx
      · omega
      · exact i4 x hx
    · rcases i5 with i5 | ⟨x, hx, i5⟩
      · rcases k5 with k5 | k5
        · exact .inl (by rw [i5, k5])
        · exact .inr ⟨a, List.mem_cons_self .., by rw [i5, k5]⟩
      · exact .inr ⟨x, List.mem_cons_of_mem _ hx, i5⟩
theorem Num.least_spec (l : List Num) (hl : ∀ x ∈ l, x.ok) : (Num.least l).may = true ∧ (Num.least l).ok ∧ (∀ x ∈ l, (Num.least l).val ≤ x.fair.val) ∧ (Num.least l = Num.inf false ∨ ∃ x ∈ l, Num.least l = x.fair) := by
  obtain ⟨h1, h2, _, h4, h5⟩ := Num.least_go l (Num.inf false) (Num.inf_may _) (Num.inf_ok _) hl
  exact ⟨h1, h2, h4, h5⟩
theorem Num.most_go (l : List Num) : ∀ (o : Num), o.may = true → o.ok → (∀ x ∈ l, x.ok) →
    (l.foldl Num.greater o).may = true ∧ (l.foldl Num.greater o).ok ∧ o.val ≤ (l.foldl Num.greater o).val ∧ (∀ x ∈ l, x.fair.val ≤ (l.foldl Num.greater o).val) ∧ (l.foldl Num.greater o = o ∨ ∃ x ∈ l, l.foldl Num.greater o = x.fair) := by
  induction l with
  | nil => intro o m k _; exact ⟨m, k, Int.le_refl _, by simp, .inl rfl⟩
  | cons a l ih =>
    intro o m k hl
    have ha := hl a (List.mem_cons_self ..)
    have hs := Num.cmp_gt ha k
    rw [Num.fair_of_may m] at hs
    have key : (Num.greater o a).may = true ∧ (Num.greater o a).ok ∧ o.val ≤ (Num.greater o a).val ∧ a.fair.val ≤ (Num.greater o a).val ∧ (Num.greater o a = o ∨ Num.greater o a = a.fair) := by
      unfold Num.greater
      split
      · exact ⟨a.fair_may, Num.fair_ok ha, by omega, Int.le_refl _, .inr rfl⟩
      · exact ⟨m, k, Int.le_refl _, by omega, .inl rfl⟩
    obtain ⟨k1, k2, k3, k4, k5⟩ := key
    obtain ⟨i1, i2, i3, i4, i5⟩ := ih _ k1 k2 (fun x hx => hl x (List.mem_cons_of_mem _ hx))
    rw [List.foldl_cons]
    refine ⟨i1, i2, by omega, ?_, ?_⟩
    · intro x hx
      rcases List.mem_cons.1 hx with rfl | hx
      · omega
      · exact i4 x hx
    · rcases i5 with i5 | ⟨x, hx, i5⟩
      · rcases k5 with k5 | k5
        · exact .inl (by rw [i5, k5])
        · exact .inr ⟨a, List.mem_cons_self .., by rw [i5, k5]⟩
      · exact .inr ⟨x, List.mem_cons_of_mem _ hx, i5⟩
theorem Num.most_spec (l : List Num) (hl : ∀ x ∈ l, x.ok) : (Num.most l).may = true ∧ (Num.most l).ok ∧ (∀ x ∈ l, x.fair.val ≤ (Num.most l).val) ∧ (Num.most l = Num.inf true ∨ ∃ x ∈ l, Num.most l = x.fair) := by
  obtain ⟨h1, h2, _, h4, h5⟩ := Num.most_go l (Num.inf true) (Num.inf_may _) (Num.inf_ok _) hl
  exact ⟨h1, h2, h4, h5⟩

/-! rounding -/
/-- r is a magnitude's q * 2^e, to nought or away -/
structure Rnd (r : Num) (neg away : Bool) (q q' e : Int) : Prop where
  may : r.may = true
  ok : r.ok
  neg : r.kind = 0 ∨ r.neg = neg
  down : away = false → r.kind ≠ 2 ∧ r.W ≤ q * pw e
  up : away = true → r.kind ≠ 0 ∧ (r.kind = 2 ∨ q' * pw e ≤ r.W)

theorem bound_rnd {neg away : Bool} {m e : Int} (hm : 9223372036854775808 ≤ m) (hm' : m < 18446744073709551616) (he : -4194304 ≤ e) (he' : e ≤ 4194304) :
    Rnd (Num.bound neg m e away) neg away m m e := by
  unfold Num.bound
  by_cases h1 : 1048576 < e
  · rw [if_pos h1]
    cases away
    · rw [if_neg (by decide)]
      refine ⟨by cases neg <;> decide, by constructor <;> simp [Num.huge], .inr rfl, fun _ => ⟨by simp [Num.huge], ?_⟩, by simp⟩
      show 18446744073709551615 * pw 1048576 ≤ _
      have := lex_lt (m := 18446744073709551615) hm (by decide) (by decide) h1
      omega
    · rw [if_pos rfl]
      exact ⟨Num.inf_may _, Num.inf_ok _, .inr rfl, by simp, fun _ => ⟨by simp [Num.inf], .inl rfl⟩⟩
  · rw [if_neg h1]
    by_cases h2 : e < -1048576
    · rw [if_pos h2]
      cases away
      · rw [if_neg (by decide)]
        refine ⟨Num.zero_may, Num.zero_ok, .inl rfl, fun _ => ⟨by simp [Num.zero], ?_⟩, by simp⟩
        rw [Num.zero_W]; exact Int.mul_nonneg (by omega) (Int.le_of_lt (pw_pos _))
      · rw [if_pos rfl]
        refine ⟨by cases neg <;> decide, by constructor <;> simp [Num.tiny, Num.top], .inr rfl, by simp, fun _ => ⟨by simp [Num.tiny], .inr ?_⟩⟩
        show _ ≤ 9223372036854775808 * pw (-1048576)
        have := lex_lt (m' := 9223372036854775808) (by decide) hm' (by omega) h2
        omega
    · rw [if_neg h2]
      have f : (Num.mk 1 neg m e).Fin := ⟨rfl, hm, hm', by show -1048576 ≤ e; omega, by show e ≤ 1048576; omega⟩
      exact ⟨f.may, f.ok, .inr rfl, fun _ => ⟨by simp, by rw [f.W]; exact Int.le_refl _⟩, fun _ => ⟨by simp, .inr (by rw [f.W]; exact Int.le_refl _)⟩⟩

theorem grow_rnd {neg cut away : Bool} {m e : Int} (hm : 9223372036854775808 ≤ m) (hm' : m < 18446744073709551616) (he : -4194303 ≤ e) (he' : e ≤ 4194303) :
    Rnd (Num.grow neg m e cut away) neg away m (if cut then m + 1 else m) e := by
  unfold Num.grow
  by_cases hc : (cut && away) = true
  · rw [if_pos hc]
    simp only [Bool.and_eq_true] at hc
    obtain ⟨h1, h2⟩ := hc
    subst h1; subst h2
    rw [if_pos rfl]
    by_cases h0 : IntKind.u64.wrap (m + 1) = 0
    · rw [if_pos h0]
      have em : m + 1 = 18446744073709551616 := by rw [wu64] at h0; omega
      have ee : IntKind.i64.wrap (e + 1) = e + 1 := by rw [wi64]; omega
      rw [ee, em]
      have b := bound_rnd (neg := neg) (away := true) (m := Num.top) (e := e + 1) (by decide) (by decide) (by omega) (by omega)
      have e2 : Num.top * pw (e + 1) = 18446744073709551616 * pw e := by
        rw [pw_succ (by omega)]; show 9223372036854775808 * (pw e * 2) = _; omega
      exact ⟨b.may, b.ok, b.neg, by simp, fun h => ⟨(b.up h).1, by rw [← e2]; exact (b.up h).2⟩⟩
    · rw [if_neg h0]
      have em : IntKind.u64.wrap (m + 1) = m + 1 := by rw [wu64] at h0 ⊢; omega
      have hlt : m + 1 < 18446744073709551616 := by rw [wu64] at h0; omega
      rw [em]
      have b := bound_rnd (neg := neg) (away := true) (m := m + 1) (e := e) (by omega) hlt (by omega) (by omega)
      exact ⟨b.may, b.ok, b.neg, by simp, b.up⟩
  · rw [if_neg hc]
    have b := bound_rnd (neg := neg) (away := away) hm hm' (e := e) (by omega) (by omega)
    refine ⟨b.may, b.ok, b.neg, b.down, ?_⟩
    intro ha
    subst ha
    simp only [Bool.and_true, Bool.not_eq_true] at hc
    rw [if_neg (by simp [hc])]
    exact b.up rfl

/-- what a rounded one's value is to the exact one, t / c -/
structure Side (r : Num) (up : Bool) (t c : Int) : Prop where
  may : r.may = true
  ok : r.ok
  down : up = false → r ≠ Num.inf false ∧ (r = Num.inf true ∨ r.val * c ≤ t)
  up : up = true → r ≠ Num.inf true ∧ (r = Num.inf false ∨ t ≤ r.val * c)

theorem Num.inf_of {r : Num} (h : r.may = true) (o : r.ok) (hk : r.kind = 2) : r = Num.inf r.neg := by
  rcases Num.may3 h o with k | k | k
  · rw [k] at hk; simp [Num.zero] at hk
  · have := k.kind; omega
  · exact k

theorem Rnd.side {r : Num} {neg up : Bool} {q q' e T c : Int} (R : Rnd r neg (up != neg) q q' e) (h1 : q * pw e * c ≤ T) (h2 : T ≤ q' * pw e * c) (hT : 0 ≤ T) (hc : 0 ≤ c) : Side r up (if neg then -T else T) c := by
  have hv : r.val * c = if r.neg then -(r.W * c) else r.W * c := by
    unfold Num.val; cases r.neg <;> simp [Int.neg_mul]
  have down : (up != neg) = false → r.kind ≠ 2 ∧ r.W * c ≤ T := fun h => ⟨(R.down h).1, Int.le_trans (Int.mul_le_mul_of_nonneg_right (R.down h).2 hc) h1⟩
  have upw : (up != neg) = true → r.kind ≠ 0 ∧ (r.kind = 2 ∨ T ≤ r.W * c) := by
    intro h
    refine ⟨(R.up h).1, ?_⟩
    rcases (R.up h).2 with k | k
    · exact .inl k
    · exact .inr (Int.le_trans h2 (Int.mul_le_mul_of_nonneg_right k hc))
  have w0 : r.kind = 0 → r.W = 0 := fun h => by unfold Num.W; rw [if_pos h]
  have n0 : ∀ b, r.kind ≠ 2 → r ≠ Num.inf b := fun b h g => h (by rw [g]; rfl)
  refine ⟨R.may, R.ok, ?_, ?_⟩
  · intro hu
    subst hu
    cases neg
    · obtain ⟨d1, d2⟩ := down rfl
      refine ⟨n0 _ d1, .inr ?_⟩
      rw [hv]
      rcases R.neg with h | h
      · rw [w0 h]; simp; exact hT
      · rw [h]; simpa using d2
    · obtain ⟨d1, d2⟩ := upw rfl
      have hn : r.neg = true := by rcases R.neg with h | h <;> simp_all
      refine ⟨fun g => by rw [g] at hn; simp [Num.inf] at hn, ?_⟩
      rcases d2 with d2 | d2
      · left; rw [Num.inf_of R.may R.ok d2, hn]
      · right; rw [hv, hn]; simp; exact d2
  · intro hu
    subst hu
    cases neg
    · obtain ⟨d1, d2⟩ := upw rfl
      have hn : r.neg = false := by rcases R.neg with h | h <;> simp_all
      refine ⟨fun g => by rw [g] at hn; simp [Num.inf] at hn, ?_⟩
      rcases d2 with d2 | d2
      · left; rw [Num.inf_of R.may R.ok d2, hn]
      · right; rw [hv, hn]; simpa using d2
    · obtain ⟨d1, d2⟩ := down rfl
      refine ⟨n0 _ d1, .inr ?_⟩
      rw [hv]
      rcases R.neg with h | h
      · rw [w0 h]; simp; exact hT
      · rw [h]; simpa using d2

theorem Num.Fin.val_mul {a b : Num} : a.val * b.val = if (a.neg != b.neg) then -(a.W * b.W) else a.W * b.W := by
  unfold Num.val
  cases a.neg <;> cases b.neg <;> simp [Int.neg_mul, Int.mul_neg]

/-- the product, rounded -/
theorem mulF_side {a b : Num} (ha : a.Fin) (hb : b.Fin) (up : Bool) : Side (Num.mulF a b up) up (a.val * b.val) (pw 0) := by
  rw [Num.Fin.val_mul]
  have := ha.lo; have := ha.hi; have := ha.elo; have := ha.ehi
  have := hb.lo; have := hb.hi; have := hb.elo; have := hb.ehi
  have m1 : 9223372036854775808 * 9223372036854775808 ≤ a.m * b.m := Int.mul_le_mul ha.lo hb.lo (by decide) (by omega)
  have m2 : a.m * b.m ≤ 18446744073709551615 * 18446744073709551615 := Int.mul_le_mul (by omega) (by omega) (by omega) (by decide)
  have eW : a.W * b.W = a.m * b.m * pw (a.e + b.e) * pw 0 := by
    rw [ha.W, hb.W]
    have e := pw_mul (e := a.e) (f := b.e) (by omega) (by omega) (by omega)
    have e1 : a.m * pw a.e * (b.m * pw b.e) = a.m * b.m * (pw a.e * pw b.e) := by grind
    rw [e1, e]; grind
  have p := pw_pos (a.e + b.e)
  have p0 := pw_pos 0
  have hT : 0 ≤ a.W * b.W := Int.mul_nonneg (Int.le_of_lt ha.lt.1) (Int.le_of_lt hb.lt.1)
  unfold Num.mulF
  rw [eW] at hT ⊢
  generalize a.m * b.m = p' at *
  split
  · rename_i h
    have R := grow_rnd (neg := a.neg != b.neg) (cut := decide (p' % 9223372036854775808 ≠ 0)) (away := up != (a.neg != b.neg)) (m := p' / 9223372036854775808) (e := a.e + b.e + 63) (by omega) (by omega) (by omega) (by omega)
    refine R.side ?_ ?_ hT (Int.le_of_lt p0)
    · refine Int.mul_le_mul_of_nonneg_right ?_ (Int.le_of_lt p0)
      rw [pw_63 (by omega)]
      have : p' / 9223372036854775808 * (pw (a.e + b.e) * 9223372036854775808) = p' / 9223372036854775808 * 9223372036854775808 * pw (a.e + b.e) := by grind
      rw [this]
      exact Int.mul_le_mul_of_nonneg_right (by omega) (by omega)
    · refine Int.mul_le_mul_of_nonneg_right ?_ (Int.le_of_lt p0)
      rw [pw_63 (by omega)]
      have : ∀ q : Int, q * (pw (a.e + b.e) * 9223372036854775808) = q * 9223372036854775808 * pw (a.e + b.e) := fun q => by grind
      rw [this]
      refine Int.mul_le_mul_of_nonneg_right ?_ (by omega)
      split
      · omega
      · rename_i h; simp only [decide_eq_true_eq] at h; omega
  · rename_i h
    have R := grow_rnd (neg := a.neg != b.neg) (cut := decide (p' % 18446744073709551616 ≠ 0)) (away := up != (a.neg != b.neg)) (m := p' / 18446744073709551616) (e := a.e + b.e + 64) (by omega) (by omega) (by omega) (by omega)
    refine R.side ?_ ?_ hT (Int.le_of_lt p0)
    · refine Int.mul_le_mul_of_nonneg_right ?_ (Int.le_of_lt p0)
      rw [pw_64 (by omega)]
      have : p' / 18446744073709551616 * (pw (a.e + b.e) * 18446744073709551616) = p' / 18446744073709551616 * 18446744073709551616 * pw (a.e + b.e) := by grind
      rw [this]
      exact Int.mul_le_mul_of_nonneg_right (by omega) (by omega)
    · refine Int.mul_le_mul_of_nonneg_right ?_ (Int.le_of_lt p0)
      rw [pw_64 (by omega)]
      have : ∀ q : Int, q * (pw (a.e + b.e) * 18446744073709551616) = q * 18446744073709551616 * pw (a.e + b.e) := fun q => by grind
      rw [this]
      refine Int.mul_le_mul_of_nonneg_right ?_ (by omega)
      split
      · omega
      · rename_i h; simp only [decide_eq_true_eq] at h; omega
end Go.Proofs.YtpadpcjdakfokaaDoor.Ev

/- The quotient of two numbers; products and quotients of intervals hold what they ought to: plain Lean. -/
namespace Go.Proofs.YtpadpcjdakfokaaDoor.Ev
open Go

def Num.divF (a b : Num) (up : Bool) : Num :=
  if b.m ≤ a.m then Num.grow (a.neg != b.neg) (a.m * 9223372036854775808 / b.m) (a.e - b.e - 63) (decide (a.m * 9223372036854775808 % b.m ≠ 0)) (up != (a.neg != b.neg))
  else Num.grow (a.neg != b.neg) (a.m * 18446744073709551616 / b.m) (a.e - b.e - 64) (decide (a.m * 18446744073709551616 % b.m ≠ 0)) (up != (a.neg != b.neg))
def Num.div (a b : Num) (up : Bool) : Num :=
  if b.fair.kind = 0 then Num.inf (!up) else if a.fair.kind = 0 ∨ b.fair.kind = 2 then Num.zero else if a.fair.kind = 2 then Num.inf (a.fair.neg != b.fair.neg) else Num.divF a.fair b.fair up

def Iv.corners (F : Num → Num → Bool → Num) (a b : Iv) : Iv :=
  Iv.make (Num.least [F a.lo b.lo false, F a.lo b.hi false, F a.hi b.lo false, F a.hi b.hi false]) (Num.most [F a.lo b.lo true, F a.lo b.hi true, F a.hi b.lo true, F a.hi b.hi true])
def Iv.mul (a b : Iv) : Iv := if Iv.anyBad [a, b] then Iv.none else Iv.corners Num.mul a b

def Iv.half (near fin : Num) : Iv :=
  if near.sign = fin.sign then Iv.make (Num.div near fin false) (Num.inf false) else Iv.make (Num.inf true) (Num.div near fin true)
def Iv.div (a b : Iv) : Iv :=
  if Iv.anyBad [a, b] ∨ (b.lo.sign = 0 ∧ b.hi.sign = 0) then Iv.none
  else if 0 < b.lo.sign ∨ b.hi.sign < 0 then Iv.corners Num.div a b
  else if (b.lo.sign < 0 ∧ 0 < b.hi.sign) ∨ Iv.has a Num.zero then Iv.all
  else Iv.half (if a.lo.sign < 0 then a.hi else a.lo) (if b.hi.sign = 0 then b.lo else b.hi)

theorem divF_side {a b : Num} (ha : a.Fin) (hb : b.Fin) (up : Bool) : Side (Num.divF a b up) up (if (a.neg != b.neg) then -(a.W * pw 0) else a.W * pw 0) b.W := by
  have := ha.lo; have := ha.hi; have := ha.elo; have := ha.ehi
  have := hb.lo; have := hb.hi; have := hb.elo; have := hb.ehi
  have p0 := pw_pos 0
  have hT : 0 ≤ a.W * pw 0 := Int.mul_nonneg (Int.le_of_lt ha.lt.1) (Int.le_of_lt p0)
  have hb0 : 0 < b.m := by omega
  unfold Num.divF
  split
  · rename_i h
    have e1 := Int.mul_ediv_add_emod (a.m * 9223372036854775808) b.m
    have e2 := Int.emod_nonneg (a.m * 9223372036854775808) (show b.m ≠ 0 by omega)
    have e3 := Int.emod_lt_of_pos (a.m * 9223372036854775808) hb0
    generalize hq : a.m * 9223372036854775808 / b.m = q at *
    generalize hr : a.m * 9223372036854775808 % b.m = r at *
    have q1 : 9223372036854775808 ≤ q := by
      rcases Int.lt_or_le q 9223372036854775808 with g | g
      · exfalso
        have : b.m * q ≤ b.m * 9223372036854775807 := Int.mul_le_mul_of_nonneg_left (by omega) (by omega)
        omega
      · exact g
    have q2 : q < 18446744073709551616 := by
      rcases Int.lt_or_le q 18446744073709551616 with g | g
      · exact g
      · exfalso
        have : b.m * 18446744073709551616 ≤ b.m * q := Int.mul_le_mul_of_nonneg_left g (by omega)
        omega
    have R := grow_rnd (neg := a.neg != b.neg) (cut := decide (r ≠ 0)) (away := up != (a.neg != b.neg)) (m := q) (e := a.e - b.e - 63) q1 q2 (by omega) (by omega)
    have E : ∀ k : Int, k * pw (a.e - b.e - 63) * b.W = (b.m * k) * (pw (a.e - 63) * pw 0) := by
      intro k
      rw [hb.W]
      have e := pw_mul (e := b.e) (f := a.e - b.e - 63) (by omega) (by omega) (by omega)
      rw [show b.e + (a.e - b.e - 63) = a.e - 63 by omega] at e
      have e' : k * pw (a.e - b.e - 63) * (b.m * pw b.e) = b.m * k * (pw b.e * pw (a.e - b.e - 63)) := by grind
      rw [e', e]; grind
    have ET : a.W * pw 0 = (a.m * 9223372036854775808) * (pw (a.e - 63) * pw 0) := by
      rw [ha.W]
      have e := pw_63 (e := a.e - 63) (by omega)
      rw [show a.e - 63 + 63 = a.e by omega] at e
      rw [e]; grind
    have pp : 0 ≤ pw (a.e - 63) * pw 0 := Int.le_of_lt (Int.mul_pos (pw_pos _) p0)
    refine R.side ?_ ?_ hT (Int.le_of_lt hb.lt.1)
    · rw [E, ET]; exact Int.mul_le_mul_of_nonneg_right (by omega) pp
    · rw [E, ET]
      refine Int.mul_le_mul_of_nonneg_right ?_ pp
      split
      · have : b.m * (q + 1) = b.m * q + b.m := by grind
        omega
      · rename_i h; simp only [decide_eq_true_eq] at h; omega
  · rename_i h
    have e1 := Int.mul_ediv_add_emod (a.m * 18446744073709551616) b.m
    have e2 := Int.emod_nonneg (a.m * 18446744073709551616) (show b.m ≠ 0 by omega)
    have e3 := Int.emod_lt_of_pos (a.m * 18446744073709551616) hb0
    generalize hq : a.m * 18446744073709551616 / b.m = q at *
    generalize hr : a.m * 18446744073709551616 % b.m = r at *
    have q1 : 9223372036854775808 ≤ q := by
      rcases Int.lt_or_le q 9223372036854775808 with g | g
      · exfalso
        have : b.m * q ≤ b.m * 9223372036854775807 := Int.mul_le_mul_of_nonneg_left (by omega) (by omega)
        omega
      · exact g
    have q2 : q < 18446744073709551616 := by
      rcases Int.lt_or_le q 18446744073709551616 with g | g
      · exact g
      · exfalso
        have : b.m * 18446744073709551616 ≤ b.m * q := Int.mul_le_mul_of_nonneg_left g (by omega)
        omega
    have R := grow_rnd (neg := a.neg != b.neg) (cut := decide (r ≠ 0)) (away := up != (a.neg != b.neg)) (m := q) (e := a.e - b.e - 64) q1 q2 (by omega) (by omega)
    have E : ∀ k : Int, k * pw (a.e - b.e - 64) * b.W = (b.m * k) * (pw (a.e - 64) * pw 0) := by
      intro k
      rw [hb.W]
      have e := pw_mul (e := b.e) (f := a.e - b.e - 64) (by omega) (by omega) (by omega)
      rw [show b.e + (a.e - b.e - 64) = a.e - 64 by omega] at e
      have e' : k * pw (a.e - b.e - 64) * (b.m * pw b.e) = b.m * k * (pw b.e * pw (a.e - b.e - 64)) := by grind
      rw [e', e]; grind
    have ET : a.W * pw 0 = (a.m * 18446744073709551616) * (pw (a.e - 64) * pw 0) := by
      rw [ha.W]
      have e := pw_64 (e := a.e - 64) (by omega)
      rw [show a.e - 64 + 64 = a.e by omega] at e
      rw [e]; grind
    have pp : 0 ≤ pw (a.e - 64) * pw 0 := Int.le_of_lt (Int.mul_pos (pw_pos _) p0)
    refine R.side ?_ ?_ hT (Int.le_of_lt hb.lt.1)
    · rw [E, ET]; exact Int.mul_le_mul_of_nonneg_right (by omega) pp
    · rw [E, ET]
      refine Int.mul_le_mul_of_nonneg_right ?_ pp
      split
      · have : b.m * (q + 1) = b.m * q + b.m := by grind
        omega
      · rename_i h; simp only [decide_eq_true_eq] at h; omega

theorem zero_side (up : Bool) (c : Int) : Side Num.zero up 0 c :=
  ⟨Num.zero_may, Num.zero_ok, fun _ => ⟨by decide, .inr (by rw [Num.val_zero]; simp)⟩, fun _ => ⟨by decide, .inr (by rw [Num.val_zero]; simp)⟩⟩

/-- the product of two that are finite -/
theorem mul_side {a b : Num} (ma : a.may = true) (mb : b.may = true) (oa : a.ok) (ob : b.ok) (ka : a.kind ≠ 2) (kb : b.kind ≠ 2) (up : Bool) : Side (Num.mul a b up) up (a.val * b.val) (pw 0) := by
  unfold Num.mul
  rw [Num.fair_of_may ma, Num.fair_of_may mb]
  rcases Num.may3 ma oa with h | h | h
  · rw [if_pos (.inl (by rw [h]; rfl)), h, Num.val_zero, Int.zero_mul]; exact zero_side _ _
  · rcases Num.may3 mb ob with k | k | k
    · rw [if_pos (.inr (by rw [k]; rfl)), k, Num.val_zero, Int.mul_zero]; exact zero_side _ _
    · rw [if_neg (by rw [h.kind, k.kind]; decide), if_neg (by rw [h.kind, k.kind]; decide)]
      exact mulF_side h k up
    · rw [k] at kb; exact absurd rfl kb
  · rw [h] at ka; exact absurd rfl ka

theorem div_core {a b : Num} (ma : a.may = true) (mb : b.may = true) (oa : a.ok) (ob : b.ok) (hb : b.val ≠ 0) (up : Bool) :
    (b.kind = 2 ∧ Num.div a b up = Num.zero) ∨ (b.Fin ∧ a.kind = 2 ∧ Num.div a b up = Num.inf (a.neg != b.neg)) ∨
      (b.Fin ∧ a.kind ≠ 2 ∧ Side (Num.div a b up) up (if b.neg then -(a.val * pw 0) else a.val * pw 0) b.W) := by
  unfold Num.div
  rw [Num.fair_of_may ma, Num.fair_of_may mb]
  rcases Num.may3 mb ob with k | k | k
  · rw [k] at hb; exact absurd rfl hb
  · right
    rw [if_neg (by rw [k.kind]; decide)]
    rcases Num.may3 ma oa with h | h | h
    · right
      refine ⟨k, by rw [h]; decide, ?_⟩
      rw [if_pos (.inl (by rw [h]; rfl)), h, Num.val_zero]
      have : (if b.neg = true then -(0 * pw 0) else 0 * pw 0) = 0 := by split <;> simp
      rw [this]; exact zero_side _ _
    · right
      refine ⟨k, by rw [h.kind]; decide, ?_⟩
      rw [if_neg (by rw [h.kind, k.kind]; decide), if_neg (by rw [h.kind]; decide)]
      have e : (if b.neg = true then -(a.val * pw 0) else a.val * pw 0) = if (a.neg != b.neg) then -(a.W * pw 0) else a.W * pw 0 := by
        unfold Num.val; cases a.neg <;> cases b.neg <;> simp [Int.neg_mul]
      rw [e]
      exact divF_side h k up
    · left
      have ha : a.kind = 2 := by rw [h]; rfl
      refine ⟨k, ha, ?_⟩
      rw [if_neg (by rw [ha, k.kind]; decide), if_pos ha]
  · left
    have hk : b.kind = 2 := by rw [k]; rfl
    exact ⟨hk, by rw [if_neg (by rw [hk]; decide), if_pos (.inr hk)]⟩

theorem div_may {a b : Num} (ma : a.may = true) (mb : b.may = true) (oa : a.ok) (ob : b.ok) (hb : b.val ≠ 0) (up : Bool) : (Num.div a b up).may = true ∧ (Num.div a b up).ok := by
  rcases div_core ma mb oa ob hb up with h | h | h
  · rw [h.2]; exact ⟨Num.zero_may, Num.zero_ok⟩
  · rw [h.2.2]; exact ⟨Num.inf_may _, Num.inf_ok _⟩
  · exact ⟨h.2.2.may, h.2.2.ok⟩

/-- the quotient to below is not above v, which is v * w / w -/
theorem div_dn {a b : Num} {v w : Int} (ma : a.may = true) (mb : b.may = true) (oa : a.ok) (ob : b.ok) (hb : b.val ≠ 0) (hw : 0 < w) (hw' : w < pw 1048640) (hv : -pw 1048640 ≤ v)
    (hA : (a.kind = 2 ∧ a.neg ≠ b.neg) ∨ (a.kind ≠ 2 ∧ (if b.neg then -(a.val * pw 0) else a.val * pw 0) ≤ v * w))
    (h : (0 ≤ v ∧ w ≤ b.W) ∨ (v ≤ 0 ∧ b.W ≤ w)) : (Num.div a b false).val ≤ v := by
  rcases div_core ma mb oa ob hb false with ⟨k1, k2⟩ | ⟨k1, k2, k3⟩ | ⟨k1, k2, k3⟩
  · rw [k2, Num.val_zero]
    rcases h with h | h
    · exact h.1
    · have : b.W = pw 1048640 := by unfold Num.W; rw [k1]; rfl
      omega
  · rcases hA with hA | hA
    · rw [k3, Num.val_inf]
      have : (a.neg != b.neg) = true := by simpa using hA.2
      rw [this]; simpa using hv
    · exact absurd k2 hA.1
  · rcases hA with hA | hA
    · exact absurd hA.1 k2
    · rcases (k3.down rfl).2 with g | g
      · rw [g, Num.val_inf]; simpa using hv
      · have e1 : v * w ≤ v * b.W := by
          rcases h with h | h
          · exact Int.mul_le_mul_of_nonneg_left h.2 h.1
          · have := Int.mul_le_mul_of_nonneg_left h.2 (show 0 ≤ -v by omega)
            rw [Int.neg_mul, Int.neg_mul] at this; omega
        have := Int.le_trans g (Int.le_trans hA.2 e1)
        exact Int.le_of_mul_le_mul_right this k1.lt.1

theorem div_up {a b : Num} {v w : Int} (ma : a.may = true) (mb : b.may = true) (oa : a.ok) (ob : b.ok) (hb : b.val ≠ 0) (hw : 0 < w) (hw' : w < pw 1048640) (hv : v ≤ pw 1048640)
    (hA : (a.kind = 2 ∧ a.neg = b.neg) ∨ (a.kind ≠ 2 ∧ v * w ≤ (if b.neg then -(a.val * pw 0) else a.val * pw 0)))
    (h : (0 ≤ v ∧ b.W ≤ w) ∨ (v ≤ 0 ∧ w ≤ b.W)) : v ≤ (Num.div a b true).val := by
  rcases div_core ma mb oa ob hb true with ⟨k1, k2⟩ | ⟨k1, k2, k3⟩ | ⟨k1, k2, k3⟩
  · rw [k2, Num.val_zero]
    rcases h with h | h
    · have : b.W = pw 1048640 := by unfold Num.W; rw [k1]; rfl
      omega
    · exact h.1
  · rcases hA with hA | hA
    · rw [k3, Num.val_inf, hA.2]; simpa using hv
    · exact absurd k2 hA.1
  · rcases hA with hA | hA
    · exact absurd hA.1 k2
    · rcases (k3.up rfl).2 with g | g
      · rw [g, Num.val_inf]; simpa using hv
      · have e1 : v * b.W ≤ v * w := by
          rcases h with h | h
          · exact Int.mul_le_mul_of_nonneg_left h.2 h.1
          · have := Int.mul_le_mul_of_nonneg_left h.2 (show 0 ≤ -v by omega)
            rw [Int.neg_mul, Int.neg_mul] at this; omega
        have := Int.le_trans e1 (Int.le_trans hA.2 g)
        exact Int.le_of_mul_le_mul_right this k1.lt.1

/-- v is between what four corners make, if it is not below one to below and not above one to above -/
theorem corners_has {F : Num → Num → Bool → Num} {a b : Iv} {v : Int} (hF : ∀ x ∈ [a.lo, a.hi], ∀ y ∈ [b.lo, b.hi], ∀ up, (F x y up).may = true ∧ (F x y up).ok) (h1 : -pw 1048640 < v) (h2 : v < pw 1048640)
    (hd : ∃ x ∈ [a.lo, a.hi], ∃ y ∈ [b.lo, b.hi], (F x y false).val ≤ v) (hu : ∃ x ∈ [a.lo, a.hi], ∃ y ∈ [b.lo, b.hi], v ≤ (F x y true).val) :
    (Iv.corners F a b).Real ∧ (Iv.corners F a b).lo.val ≤ v ∧ v ≤ (Iv.corners F a b).hi.val := by
  have all : ∀ up, ∀ x ∈ [F a.lo b.lo up, F a.lo b.hi up, F a.hi b.lo up, F a.hi b.hi up], x.may = true ∧ x.ok := by
    intro up x hx
    simp only [List.mem_cons, List.not_mem_nil, or_false] at hx
    rcases hx with rfl | rfl | rfl | rfl <;> exact hF _ (by simp) _ (by simp) up
  have inl : ∀ up, ∀ x ∈ [a.lo, a.hi], ∀ y ∈ [b.lo, b.hi], F x y up ∈ [F a.lo b.lo up, F a.lo b.hi up, F a.hi b.lo up, F a.hi b.hi up] := by
    intro up x hx y hy
    simp only [List.mem_cons, List.not_mem_nil, or_false] at hx hy ⊢
    rcases hx with rfl | rfl <;> rcases hy with rfl | rfl <;> simp
  obtain ⟨l1, l2, l3, _⟩ := Num.least_spec _ (fun x hx => (all false x hx).2)
  obtain ⟨m1, m2, m3, _⟩ := Num.most_spec _ (fun x hx => (all true x hx).2)
  unfold Iv.corners
  obtain ⟨x, hx, y, hy, hd⟩ := hd
  obtain ⟨x', hx', y', hy', hu⟩ := hu
  have d := l3 _ (inl false x hx y hy)
  rw [Num.fair_of_may (hF x hx y hy false).1] at d
  have u := m3 _ (inl true x' hx' y' hy')
  rw [Num.fair_of_may (hF x' hx' y' hy' true).1] at u
  generalize Num.least _ = L at *
  generalize Num.most _ = M at *
  have R : (Iv.mk false L.fair M.fair).Real := by
    rw [Num.fair_of_may l1, Num.fair_of_may m1]
    exact ⟨rfl, l1, m1, l2, m2, by show L.val ≤ M.val; omega, by show L.val < _; omega, by show _ < M.val; omega⟩
  rw [Iv.make_real R]
  refine ⟨R, ?_, ?_⟩
  · show L.fair.val ≤ v; rw [Num.fair_of_may l1]; omega
  · show v ≤ M.fair.val; rw [Num.fair_of_may m1]; omega

theorem Iv.anyBad2 {a b : Iv} (ha : a.Real) (hb : b.Real) : Iv.anyBad [a, b] = false := by
  simp [Iv.anyBad, ha.good, hb.good]

theorem Iv.has_iff {x : Iv} {n : Num} (hn : n.ok) (o1 : x.lo.ok) (o2 : x.hi.ok) :
    Iv.has x n = true ↔ (n.fair.kind ≠ 2 ∧ x.Real ∧ x.lo.val ≤ n.fair.val ∧ n.fair.val ≤ x.hi.val) := by
  have mn := n.fair_may
  have on := Num.fair_ok hn
  have fv := Num.fin_val mn on
  unfold Iv.has Iv.point
  rcases Iv.make_cases hn hn with ⟨e, h⟩ | ⟨e, h⟩
  · rw [e]
    constructor
    · intro g; simp [Iv.none] at g
    · rintro ⟨k, _⟩
      have k' := fv.1 k
      exact absurd ⟨rfl, mn, mn, on, on, Int.le_refl _, k'.2, k'.1⟩ h
  · rw [e]
    have k : n.fair.kind ≠ 2 := fv.2 ⟨h.gt, h.lt⟩
    unfold Iv.within
    rw [h.fair]
    by_cases hx : x.Real
    · rw [hx.fair]
      simp only [hx.some, Bool.not_false, Bool.true_and, Bool.false_or, Bool.and_eq_true, decide_eq_true_eq]
      rw [Num.cmp_le hx.loo on, Num.cmp_le on hx.hio, Num.fair_of_may hx.lom, Num.fair_of_may hx.him, Num.fair_fair]
      exact ⟨fun g => ⟨k, hx, g⟩, fun g => g.2.2⟩
    · constructor
      · intro g
        exfalso
        apply hx
        have hm : x.may = true := by
          cases hh : x.may
          · rw [show x.fair = Iv.none by unfold Iv.fair; rw [if_neg (by simp [hh])]] at g
            simp [Iv.none] at g
          · rfl
        have he : x.empty = false := by
          cases hh : x.empty
          · rfl
          · rw [show x.fair = Iv.none by rw [Iv.empty_may hm hh]; rfl] at g
            simp [Iv.none] at g
        exact Iv.real_of hm he o1 o2
      · exact fun g => absurd g.2.1 hx

theorem Num.val_pos {n : Num} (m : n.may = true) (o : n.ok) : (0 < n.val → n.neg = false ∧ n.W = n.val ∧ n.sign = 1) ∧ (n.val < 0 → n.neg = true ∧ n.W = -n.val ∧ n.sign = -1) ∧ (n.val = 0 → n.sign = 0 ∧ n = Num.zero) := by
  rcases Num.sign_of m o with h | h | h
  · refine ⟨fun g => by omega, fun g => by omega, fun _ => ⟨h.1, h.2.2.2⟩⟩
  · refine ⟨fun g => ⟨h.2.2.2.1, by omega, h.1⟩, fun g => by omega, fun g => by omega⟩
  · refine ⟨fun g => by omega, fun g => ⟨h.2.2.2.1, by omega, h.1⟩, fun g => by omega⟩

theorem Num.inf_val {n : Num} (m : n.may = true) (o : n.ok) (k : n.kind = 2) : (n.neg = true ∧ n.val = -pw 1048640) ∨ (n.neg = false ∧ n.val = pw 1048640) := by
  have e := Num.inf_of m o k
  cases hn : n.neg
  · right; rw [e, hn]; exact ⟨rfl, rfl⟩
  · left; rw [e, hn]; exact ⟨rfl, rfl⟩

/-- what may be below, and above, an exact number -/
def Num.below (n : Num) (x : Int) : Prop := n = Num.inf true ∨ (n.kind ≠ 2 ∧ n.val * pw 0 ≤ x)
def Num.above (n : Num) (x : Int) : Prop := n = Num.inf false ∨ (n.kind ≠ 2 ∧ x ≤ n.val * pw 0)

theorem Num.below_neg {n : Num} {x : Int} (h : n.below x) (g : n.kind = 2) : n.neg = true := by
  rcases h with h | h
  · rw [h]; rfl
  · exact absurd g h.1
theorem Num.above_pos {n : Num} {x : Int} (h : n.above x) (g : n.kind = 2) : n.neg = false := by
  rcases h with h | h
  · rw [h]; rfl
  · exact absurd g h.1
theorem Num.below_le {n : Num} {x : Int} (h : n.below x) (g : n.kind ≠ 2) : n.val * pw 0 ≤ x := by
  rcases h with h | h
  · rw [h] at g; exact absurd rfl g
  · exact h.2
theorem Num.above_le {n : Num} {x : Int} (h : n.above x) (g : n.kind ≠ 2) : x ≤ n.val * pw 0 := by
  rcases h with h | h
  · rw [h] at g; exact absurd rfl g
  · exact h.2

theorem Iv.div_has {a b : Iv} {v w : Int} (ha : a.Real) (hb : b.Real) (hw : w ≠ 0) (b1 : b.lo.val ≤ w) (b2 : w ≤ b.hi.val) (w1 : -pw 1048640 < w) (w2 : w < pw 1048640)
    (v1 : -pw 1048640 < v) (v2 : v < pw 1048640) (a1 : a.lo.below (v * w)) (a2 : a.hi.above (v * w)) :
    (Iv.div a b).Real ∧ (Iv.div a b).lo.val ≤ v ∧ v ≤ (Iv.div a b).hi.val := by
  have pl := Num.val_pos hb.lom hb.loo
  have ph := Num.val_pos hb.him hb.hio
  have ql := Num.val_pos ha.lom ha.loo
  have qh := Num.val_pos ha.him ha.hio
  have P := pw_pos 1048640
  have kl := hb.lt
  have kh := hb.gt
  have em : (-v) * (-w) = v * w := by rw [Int.neg_mul_neg]
  have em2 : v * (-w) = -(v * w) := by rw [Int.mul_neg]
  unfold Iv.div
  rw [Iv.anyBad2 ha hb]
  rw [if_neg (by
    rintro (h | ⟨h, h'⟩)
    · cases h
    · have e1 : b.lo.val = 0 := by
        rcases Int.lt_trichotomy b.lo.val 0 with g | g | g
        · have := (pl.2.1 g).2.2; omega
        · exact g
        · have := (pl.1 g).2.2; omega
      have e2 : b.hi.val = 0 := by
        rcases Int.lt_trichotomy b.hi.val 0 with g | g | g
        · have := (ph.2.1 g).2.2; omega
        · exact g
        · have := (ph.1 g).2.2; omega
      omega)]
  by_cases c1 : 0 < b.lo.val
  · rw [if_pos (.inl (by rw [(pl.1 c1).2.2]; decide))]
    have c2 : 0 < b.hi.val := by omega
    have hw0 : 0 < w := by omega
    obtain ⟨l1, l2, l3⟩ := pl.1 c1
    obtain ⟨h1, h2, h3⟩ := ph.1 c2
    refine corners_has ?_ v1 v2 ?_ ?_
    · intro x hx y hy up
      simp only [List.mem_cons, List.not_mem_nil, or_false] at hx hy
      rcases hx with rfl | rfl <;> rcases hy with rfl | rfl <;> first | exact div_may ha.lom hb.lom ha.loo hb.loo (by omega) up | exact div_may ha.lom hb.him ha.loo hb.hio (by omega) up | exact div_may ha.him hb.lom ha.hio hb.loo (by omega) up | exact div_may ha.him hb.him ha.hio hb.hio (by omega) up
    · have hA : ∀ y : Num, y.neg = false → (a.lo.kind = 2 ∧ a.lo.neg ≠ y.neg) ∨ (a.lo.kind ≠ 2 ∧ (if y.neg then -(a.lo.val * pw 0) else a.lo.val * pw 0) ≤ v * w) := by
        intro y hy
        by_cases g : a.lo.kind = 2
        · exact .inl ⟨g, by rw [Num.below_neg a1 g, hy]; decide⟩
        · exact .inr ⟨g, by rw [hy]; exact Num.below_le a1 g⟩
      by_cases hv : 0 ≤ v
      · exact ⟨a.lo, by simp, b.hi, by simp, div_dn ha.lom hb.him ha.loo hb.hio (by omega) hw0 w2 (by omega) (hA _ h1) (.inl ⟨hv, by omega⟩)⟩
      · exact ⟨a.lo, by simp, b.lo, by simp, div_dn ha.lom hb.lom ha.loo hb.loo (by omega) hw0 w2 (by omega) (hA _ l1) (.inr ⟨by omega, by omega⟩)⟩
    · have hA : ∀ y : Num, y.neg = false → (a.hi.kind = 2 ∧ a.hi.neg = y.neg) ∨ (a.hi.kind ≠ 2 ∧ v * w ≤ (if y.neg then -(a.hi.val * pw 0) else a.hi.val * pw 0)) := by
        intro y hy
        by_cases g : a.hi.kind = 2
        · exact .inl ⟨g, by rw [Num.above_pos a2 g, hy]⟩
        · exact .inr ⟨g, by rw [hy]; exact Num.above_le a2 g⟩
      by_cases hv : 0 ≤ v
      · exact ⟨a.hi, by simp, b.lo, by simp, div_up ha.him hb.lom ha.hio hb.loo (by omega) hw0 w2 (by omega) (hA _ l1) (.inl ⟨hv, by omega⟩)⟩
      · exact ⟨a.hi, by simp, b.hi, by simp, div_up ha.him hb.him ha.hio hb.hio (by omega) hw0 w2 (by omega) (hA _ h1) (.inr ⟨by omega, by omega⟩)⟩
  by_cases c2 : b.hi.val < 0
  · rw [if_pos (.inr (by rw [(ph.2.1 c2).2.2]; decide))]
    have c3 : b.lo.val < 0 := by omega
    have hw0 : 0 < -w := by omega
    obtain ⟨l1, l2, l3⟩ := pl.2.1 c3
    obtain ⟨h1, h2, h3⟩ := ph.2.1 c2
    refine corners_has ?_ v1 v2 ?_ ?_
    · intro x hx y hy up
      simp only [List.mem_cons, List.not_mem_nil, or_false] at hx hy
      rcases hx with rfl | rfl <;> rcases hy with rfl | rfl <;> first | exact div_may ha.lom hb.lom ha.loo hb.loo (by omega) up | exact div_may ha.lom hb.him ha.loo hb.hio (by omega) up | exact div_may ha.him hb.lom ha.hio hb.loo (by omega) up | exact div_may ha.him hb.him ha.hio hb.hio (by omega) up
    · have hA : ∀ y : Num, y.neg = true → (a.hi.kind = 2 ∧ a.hi.neg ≠ y.neg) ∨ (a.hi.kind ≠ 2 ∧ (if y.neg then -(a.hi.val * pw 0) else a.hi.val * pw 0) ≤ v * (-w)) := by
        intro y hy
        by_cases g : a.hi.kind = 2
        · exact .inl ⟨g, by rw [Num.above_pos a2 g, hy]; decide⟩
        · exact .inr ⟨g, by rw [hy, em2]; have := Num.above_le a2 g; simp; omega⟩
      by_cases hv : 0 ≤ v
      · exact ⟨a.hi, by simp, b.lo, by simp, div_dn ha.him hb.lom ha.hio hb.loo (by omega) hw0 (by omega) (by omega) (hA _ l1) (.inl ⟨hv, by omega⟩)⟩
      · exact ⟨a.hi, by simp, b.hi, by simp, div_dn ha.him hb.him ha.hio hb.hio (by omega) hw0 (by omega) (by omega) (hA _ h1) (.inr ⟨by omega, by omega⟩)⟩
    · have hA : ∀ y : Num, y.neg = true → (a.lo.kind = 2 ∧ a.lo.neg = y.neg) ∨ (a.lo.kind ≠ 2 ∧ v * (-w) ≤ (if y.neg then -(a.lo.val * pw 0) else a.lo.val * pw 0)) := by
        intro y hy
        by_cases g : a.lo.kind = 2
        · exact .inl ⟨g, by rw [Num.below_neg a1 g, hy]⟩
        · exact .inr ⟨g, by rw [hy, em2]; have := Num.below_le a1 g; simp; omega⟩
      by_cases hv : 0 ≤ v
      · exact ⟨a.lo, by simp, b.hi, by simp, div_up ha.lom hb.him ha.loo hb.hio (by omega) hw0 (by omega) (by omega) (hA _ h1) (.inl ⟨hv, by omega⟩)⟩
      · exact ⟨a.lo, by simp, b.lo, by simp, div_up ha.lom hb.lom ha.loo hb.loo (by omega) hw0 (by omega) (by omega) (hA _ l1) (.inr ⟨by omega, by omega⟩)⟩
  have s1 : ¬ (0 < b.lo.sign ∨ b.hi.sign < 0) := by
    rintro (h | h)
    · rcases Int.lt_trichotomy b.lo.val 0 with g | g | g
      · have := (pl.2.1 g).2.2; omega
      · have := (pl.2.2 g).1; omega
      · exact c1 g
    · rcases Int.lt_trichotomy b.hi.val 0 with g | g | g
      · exact c2 g
      · have := (ph.2.2 g).1; omega
      · have := (ph.1 g).2.2; omega
  rw [if_neg s1]
  by_cases c3 : (b.lo.sign < 0 ∧ 0 < b.hi.sign) ∨ Iv.has a Num.zero = true
  · rw [if_pos c3]
    refine ⟨⟨rfl, Num.inf_may _, Num.inf_may _, Num.inf_ok _, Num.inf_ok _, ?_, ?_, ?_⟩, ?_, ?_⟩ <;> simp only [Iv.all, Num.val_inf] <;> simp <;> omega
  rw [if_neg c3]
  have c4 : ¬ (b.lo.sign < 0 ∧ 0 < b.hi.sign) := fun h => c3 (.inl h)
  have c5 : ¬ (a.lo.val ≤ 0 ∧ 0 ≤ a.hi.val) := fun h => c3 (.inr ((Iv.has_iff Num.zero_ok ha.loo ha.hio).2 ⟨by decide, ha, h.1, h.2⟩))
  have c6 : ¬ (b.lo.val < 0 ∧ 0 < b.hi.val) := fun h => c4 ⟨by rw [(pl.2.1 h.1).2.2]; decide, by rw [(ph.1 h.2).2.2]; decide⟩
  -- the nearest end of the dividend, the farthest one of the divisor
  have near : ∃ n, (if a.lo.sign < 0 then a.hi else a.lo) = n ∧ n.may = true ∧ n.ok ∧ n.kind ≠ 2 ∧ ((0 < n.val ∧ n.val * pw 0 ≤ v * w) ∨ (n.val < 0 ∧ v * w ≤ n.val * pw 0)) := by
    have := ha.lt; have := ha.gt; have := ha.le
    by_cases g : 0 < a.lo.val
    · have k := (Num.fin_val ha.lom ha.loo).2 ⟨by omega, by omega⟩
      exact ⟨a.lo, by rw [if_neg (by rw [(ql.1 g).2.2]; decide)], ha.lom, ha.loo, k, .inl ⟨g, Num.below_le a1 k⟩⟩
    · have g' : a.hi.val < 0 := by omega
      have k := (Num.fin_val ha.him ha.hio).2 ⟨by omega, by omega⟩
      exact ⟨a.hi, by rw [if_pos (by rw [(ql.2.1 (by omega)).2.2]; decide)], ha.him, ha.hio, k, .inr ⟨g', Num.above_le a2 k⟩⟩
  have far : ∃ f, (if b.hi.sign = 0 then b.lo else b.hi) = f ∧ f.may = true ∧ f.ok ∧ ((0 < f.val ∧ w ≤ f.val ∧ 0 < w) ∨ (f.val < 0 ∧ f.val ≤ w ∧ w < 0)) := by
    by_cases g : b.hi.val = 0
    · exact ⟨b.lo, by rw [if_pos (ph.2.2 g).1], hb.lom, hb.loo, .inr ⟨by omega, by omega, by omega⟩⟩
    · have g' : 0 < b.hi.val := by omega
      exact ⟨b.hi, by rw [if_neg (by rw [(ph.1 g').2.2]; decide)], hb.him, hb.hio, .inl ⟨by omega, by omega, by omega⟩⟩
  obtain ⟨n, en, nm, no, nk, n1⟩ := near
  obtain ⟨f, ef, fm, fo, f1⟩ := far
  rw [en, ef]
  have p0 := pw_pos 0
  have pn := Num.val_pos nm no
  have pf := Num.val_pos fm fo
  have vs : (0 < v * w → (0 < w → 0 < v) ∧ (w < 0 → v < 0)) ∧ (v * w < 0 → (0 < w → v < 0) ∧ (w < 0 → 0 < v)) := by
    refine ⟨fun h => ⟨fun g => ?_, fun g => ?_⟩, fun h => ⟨fun g => ?_, fun g => ?_⟩⟩
    · rcases Int.lt_or_le 0 v with k | k
      · exact k
      · have := Int.mul_nonneg (show 0 ≤ -v by omega) (show 0 ≤ w by omega); rw [Int.neg_mul] at this; omega
    · rcases Int.lt_or_le v 0 with k | k
      · exact k
      · have := Int.mul_nonneg k (show 0 ≤ -w by omega); rw [Int.mul_neg] at this; omega
    · rcases Int.lt_or_le v 0 with k | k
      · exact k
      · have := Int.mul_nonneg k (show 0 ≤ w by omega); omega
    · rcases Int.lt_or_le 0 v with k | k
      · exact k
      · have := Int.mul_nonneg (show 0 ≤ -v by omega) (show 0 ≤ -w by omega); rw [em] at this; omega
  have xs : (0 < n.val → 0 < v * w) ∧ (n.val < 0 → v * w < 0) := by
    constructor
    · intro g
      have := Int.mul_pos g p0
      rcases n1 with h | h <;> omega
    · intro g
      have := Int.mul_neg_of_neg_of_pos g p0
      rcases n1 with h | h <;> omega
  have fin : ∀ r : Num, r.may = true → r.ok → r.val ≤ v → (Iv.make r (Num.inf false)).Real ∧ (Iv.make r (Num.inf false)).lo.val ≤ v ∧ v ≤ (Iv.make r (Num.inf false)).hi.val := by
    intro r m o h
    have R : (Iv.mk false r.fair (Num.inf false).fair).Real := by
      rw [Num.fair_of_may m, Num.fair_of_may (Num.inf_may _)]
      refine ⟨rfl, m, Num.inf_may _, o, Num.inf_ok _, ?_, ?_, ?_⟩ <;> (try simp only [Num.val_inf]) <;> (try simp) <;> omega
    rw [Iv.make_real R]
    refine ⟨R, by show r.fair.val ≤ v; rw [Num.fair_of_may m]; exact h, ?_⟩
    show v ≤ (Num.inf false).fair.val
    rw [Num.fair_of_may (Num.inf_may _)]; show v ≤ pw 1048640; omega
  have fin' : ∀ r : Num, r.may = true → r.ok → v ≤ r.val → (Iv.make (Num.inf true) r).Real ∧ (Iv.make (Num.inf true) r).lo.val ≤ v ∧ v ≤ (Iv.make (Num.inf true) r).hi.val := by
    intro r m o h
    have R : (Iv.mk false (Num.inf true).fair r.fair).Real := by
      rw [Num.fair_of_may m, Num.fair_of_may (Num.inf_may _)]
      refine ⟨rfl, Num.inf_may _, m, Num.inf_ok _, o, ?_, ?_, ?_⟩ <;> (try simp only [Num.val_inf]) <;> (try simp) <;> omega
    rw [Iv.make_real R]
    refine ⟨R, ?_, by show v ≤ r.fair.val; rw [Num.fair_of_may m]; exact h⟩
    show (Num.inf true).fair.val ≤ v
    rw [Num.fair_of_may (Num.inf_may _)]; show -pw 1048640 ≤ v; omega
  unfold Iv.half
  rcases n1 with ⟨g1, g2⟩ | ⟨g1, g2⟩ <;> rcases f1 with ⟨k1, k2, k3⟩ | ⟨k1, k2, k3⟩
  · obtain ⟨t1, t2, t3⟩ := pn.1 g1
    obtain ⟨u1, u2, u3⟩ := pf.1 k1
    rw [if_pos (by omega)]
    have m := div_may nm fm no fo (show f.val ≠ 0 by omega) false
    have vp := (vs.1 (xs.1 g1)).1 k3
    exact fin _ m.1 m.2 (div_dn nm fm no fo (by omega) k3 w2 (by omega) (.inr ⟨nk, by rw [u1]; exact g2⟩) (.inl ⟨by omega, by omega⟩))
  · obtain ⟨t1, t2, t3⟩ := pn.1 g1
    obtain ⟨u1, u2, u3⟩ := pf.2.1 k1
    rw [if_neg (by omega)]
    have m := div_may nm fm no fo (show f.val ≠ 0 by omega) true
    have vp := (vs.1 (xs.1 g1)).2 k3
    exact fin' _ m.1 m.2 (div_up (w := -w) nm fm no fo (by omega) (by omega) (by omega) (by omega) (.inr ⟨nk, by rw [u1, em2]; simp; omega⟩) (.inr ⟨by omega, by omega⟩))
  · obtain ⟨t1, t2, t3⟩ := pn.2.1 g1
    obtain ⟨u1, u2, u3⟩ := pf.1 k1
    rw [if_neg (by omega)]
    have m := div_may nm fm no fo (show f.val ≠ 0 by omega) true
    have vp := (vs.2 (xs.2 g1)).1 k3
    exact fin' _ m.1 m.2 (div_up nm fm no fo (by omega) k3 w2 (by omega) (.inr ⟨nk, by rw [u1]; exact g2⟩) (.inr ⟨by omega, by omega⟩))
  · obtain ⟨t1, t2, t3⟩ := pn.2.1 g1
    obtain ⟨u1, u2, u3⟩ := pf.2.1 k1
    rw [if_pos (by omega)]
    have m := div_may nm fm no fo (show f.val ≠ 0 by omega) false
    have vp := (vs.2 (xs.2 g1)).2 k3
    exact fin _ m.1 m.2 (div_dn (w := -w) nm fm no fo (by omega) (by omega) (by omega) (by omega) (.inr ⟨nk, by rw [u1, em2]; simp; omega⟩) (.inl ⟨by omega, by omega⟩))

theorem Iv.point_real {n : Num} (m : n.may = true) (o : n.ok) (k : n.kind ≠ 2) : Iv.point n = ⟨false, n, n⟩ ∧ (Iv.mk false n n).Real := by
  have k' := (Num.fin_val m o).1 k
  have R : (Iv.mk false n n).Real := ⟨rfl, m, m, o, o, Int.le_refl _, k'.2, k'.1⟩
  refine ⟨?_, R⟩
  unfold Iv.point
  rw [Iv.make_real (by rw [Num.fair_of_may m]; exact R), Num.fair_of_may m]

theorem Iv.mul_points {y z : Num} (my : y.may = true) (mz : z.may = true) (oy : y.ok) (oz : z.ok) (ky : y.kind ≠ 2) (kz : z.kind ≠ 2) :
    (Iv.mul (Iv.point y) (Iv.point z)).Real ∧ (Iv.mul (Iv.point y) (Iv.point z)).lo.below (y.val * z.val) ∧ (Iv.mul (Iv.point y) (Iv.point z)).hi.above (y.val * z.val) := by
  obtain ⟨ey, ry⟩ := Iv.point_real my oy ky
  obtain ⟨ez, rz⟩ := Iv.point_real mz oz kz
  rw [ey, ez]
  unfold Iv.mul
  rw [Iv.anyBad2 ry rz, if_neg (by decide)]
  unfold Iv.corners
  dsimp only
  have d := mul_side my mz oy oz ky kz false
  have u := mul_side my mz oy oz ky kz true
  generalize Num.mul y z false = p at *
  generalize Num.mul y z true = q at *
  obtain ⟨d1, d2⟩ := d.down rfl
  obtain ⟨u1, u2⟩ := u.up rfl
  have p0 := pw_pos 0
  have P := pw_pos 1048640
  obtain ⟨l1, l2, l3, l4⟩ := Num.least_spec [p, p, p, p] (by simp [d.ok])
  obtain ⟨m1, m2, m3, m4⟩ := Num.most_spec [q, q, q, q] (by simp [u.ok])
  have dv := (Num.ne_inf d.may d.ok).1.1 d1
  have uv := (Num.ne_inf u.may u.ok).2.1 u1
  have el : Num.least [p, p, p, p] = p := by
    have a := l3 p (by simp)
    rw [Num.fair_of_may d.may] at a
    rcases l4 with l4 | ⟨x, hx, l4⟩
    · rw [l4, Num.val_inf] at a; simp at a; omega
    · have : x = p := by simpa using hx
      rw [l4, this, Num.fair_of_may d.may]
  have em : Num.most [q, q, q, q] = q := by
    have a := m3 q (by simp)
    rw [Num.fair_of_may u.may] at a
    rcases m4 with m4 | ⟨x, hx, m4⟩
    · rw [m4, Num.val_inf] at a; simp at a; omega
    · have : x = q := by simpa using hx
      rw [m4, this, Num.fair_of_may u.may]
  rw [el, em]
  have pk : p = Num.inf true ∨ (p.kind ≠ 2 ∧ p.val * pw 0 ≤ y.val * z.val) := by
    rcases d2 with h | h
    · exact .inl h
    · by_cases hk : p.kind = 2
      · rcases Num.inf_val d.may d.ok hk with g | g
        · exact .inl (by rw [Num.inf_of d.may d.ok hk, g.1])
        · exact absurd (by rw [Num.inf_of d.may d.ok hk, g.1]) d1
      · exact .inr ⟨hk, h⟩
  have qk : q = Num.inf false ∨ (q.kind ≠ 2 ∧ y.val * z.val ≤ q.val * pw 0) := by
    rcases u2 with h | h
    · exact .inl h
    · by_cases hk : q.kind = 2
      · rcases Num.inf_val u.may u.ok hk with g | g
        · exact absurd (by rw [Num.inf_of u.may u.ok hk, g.1]) u1
        · exact .inl (by rw [Num.inf_of u.may u.ok hk, g.1])
      · exact .inr ⟨hk, h⟩
  have le : p.val ≤ q.val := by
    rcases pk with h | h
    · rw [h, Num.val_inf]; have := Num.val_le u.may u.ok; simp; omega
    · rcases qk with k | k
      · rw [k, Num.val_inf]; have := Num.val_le d.may d.ok; simp; omega
      · exact Int.le_of_mul_le_mul_right (Int.le_trans h.2 k.2) p0
  have R : (Iv.mk false p.fair q.fair).Real := by
    rw [Num.fair_of_may d.may, Num.fair_of_may u.may]
    exact ⟨rfl, d.may, u.may, d.ok, u.ok, le, dv, uv⟩
  rw [Iv.make_real R]
  refine ⟨R, ?_, ?_⟩
  · show p.fair.below _; rw [Num.fair_of_may d.may]; exact pk
  · show q.fair.above _; rw [Num.fair_of_may u.may]; exact qk

/-- a number times a divisor, divided by it, is within the quotient -/
theorem quotients {b : Iv} {y z : Num} (oy : y.ok) (oz : z.ok) (o1 : b.lo.ok) (o2 : b.hi.ok) (h1 : Iv.has b y = true) (h2 : y.sign ≠ 0) (h3 : z.kind ≠ 2) (h4 : z.may = true) :
    Iv.has (Iv.div (Iv.mul (Iv.point y) (Iv.point z)) b) z = true := by
  obtain ⟨k, R, l, u⟩ := (Iv.has_iff oy o1 o2).1 h1
  have my : y.may = true := by
    cases hh : y.may
    · exfalso; apply h2
      have e : y.fair = Num.zero := by unfold Num.fair; rw [if_neg (by simp [hh])]
      unfold Num.sign; rw [e]; rfl
    · rfl
  rw [Num.fair_of_may my] at k l u
  obtain ⟨r1, r2, r3⟩ := Iv.mul_points my h4 oy oz k h3
  have vy := (Num.fin_val my oy).1 k
  have vz := (Num.fin_val h4 oz).1 h3
  have hy : y.val ≠ 0 := fun g => h2 ((Num.val_pos my oy).2.2 g).1
  rw [Int.mul_comm] at r2 r3
  obtain ⟨q1, q2, q3⟩ := Iv.div_has r1 R hy l u vy.1 vy.2 vz.1 vz.2 r2 r3
  exact (Iv.has_iff oz q1.loo q1.hio).2 ⟨by rw [Num.fair_of_may h4]; exact h3, q1, by rw [Num.fair_of_may h4]; exact q2, by rw [Num.fair_of_may h4]; exact q3⟩
end Go.Proofs.YtpadpcjdakfokaaDoor.Ev

/- Sums and differences of two numbers, the parts: plain Lean. -/
namespace Go.Proofs.YtpadpcjdakfokaaDoor.Ev
open Go

structure Dbl where
  hi : Int
  lo : Int
  cut : Bool
def Dbl.av (d : Dbl) : AV := .agg [.int .u64 (.s d.hi), .int .u64 (.s d.lo), .bool (.s d.cut)]
theorem Dbl.fin {t r : Dbl} (h : t = r) : t.hi = r.hi ∧ t.lo = r.lo ∧ t.cut = r.cut ∧ True := by subst h; exact ⟨rfl, rfl, rfl, trivial⟩

/-- 64 bits moved down by some: 128 bits, and was something cut off? -/
def lowerP (m k : Int) : Dbl := ⟨m * 18446744073709551616 / 2 ^ k.toNat / 18446744073709551616, m * 18446744073709551616 / 2 ^ k.toNat % 18446744073709551616, decide (m * 18446744073709551616 % 2 ^ k.toNat ≠ 0)⟩

theorem two_pos (n : Nat) : (0 : Int) < 2 ^ n := Int.pow_pos (by decide)
theorem two_64 {k : Int} (h : 0 ≤ k) (h' : k ≤ 64) : (18446744073709551616 : Int) = 2 ^ (64 - k).toNat * 2 ^ k.toNat := by
  rw [← Int.pow_add, show (64 - k).toNat + k.toNat = 64 by omega]; rfl
theorem lower_small {m k : Int} (hk : 0 ≤ k) (hk' : k < 64) : lowerP m k = ⟨m / 2 ^ k.toNat, m * 2 ^ (64 - k).toNat % 18446744073709551616, false⟩ := by
  have e := two_64 hk (by omega)
  have p := two_pos k.toNat
  have q := two_pos (64 - k).toNat
  have e1 : m * 18446744073709551616 / 2 ^ k.toNat = m * 2 ^ (64 - k).toNat := by
    rw [e, ← Int.mul_assoc]; exact Int.mul_ediv_cancel _ (by omega)
  have e2 : m * 18446744073709551616 % 2 ^ k.toNat = 0 := by
    rw [e, ← Int.mul_assoc]; exact Int.mul_emod_left _ _
  have e3 : m * 2 ^ (64 - k).toNat / 18446744073709551616 = m / 2 ^ k.toNat := by
    rw [e, Int.mul_comm m, Int.mul_ediv_mul_of_pos _ _ q]
  unfold lowerP
  rw [e1, e2, e3]; rfl
theorem lower_mid {m k : Int} (h0 : 0 ≤ m) (h1 : m < 18446744073709551616) (hk : 64 ≤ k) (hk' : k < 128) :
    lowerP m k = ⟨0, m / 2 ^ (k - 64).toNat, decide (m * 2 ^ (128 - k).toNat % 18446744073709551616 ≠ 0)⟩ := by
  have e : (2 : Int) ^ k.toNat = 18446744073709551616 * 2 ^ (k - 64).toNat := by
    rw [show k.toNat = 64 + (k - 64).toNat by omega, Int.pow_add]; rfl
  have p := two_pos (k - 64).toNat
  have q := two_pos (128 - k).toNat
  have e1 : m * 18446744073709551616 / 2 ^ k.toNat = m / 2 ^ (k - 64).toNat := by
    rw [e, Int.mul_comm m, Int.mul_ediv_mul_of_pos _ _ (by decide)]
  have e2 : m * 18446744073709551616 % 2 ^ k.toNat = 18446744073709551616 * (m % 2 ^ (k - 64).toNat) := by
    rw [e, Int.mul_comm m, Int.mul_emod_mul_of_pos _ _ (by decide)]
  have e3 : m * 2 ^ (128 - k).toNat % 18446744073709551616 = 2 ^ (128 - k).toNat * (m % 2 ^ (k - 64).toNat) := by
    have f : (18446744073709551616 : Int) = 2 ^ (128 - k).toNat * 2 ^ (k - 64).toNat := by
      rw [← Int.pow_add, show (128 - k).toNat + (k - 64).toNat = 64 by omega]; rfl
    rw [f, Int.mul_comm m, Int.mul_emod_mul_of_pos _ _ q]
  have l := Int.emod_nonneg m (show (2 : Int) ^ (k - 64).toNat ≠ 0 by omega)
  have e4 : m / 2 ^ (k - 64).toNat / 18446744073709551616 = 0 := Int.ediv_eq_zero_of_lt (Int.ediv_nonneg h0 (by omega)) (by have := Int.ediv_le_self (2 ^ (k - 64).toNat) h0; omega)
  have e5 : m / 2 ^ (k - 64).toNat % 18446744073709551616 = m / 2 ^ (k - 64).toNat := Int.emod_eq_of_lt (Int.ediv_nonneg h0 (by omega)) (by have := Int.ediv_le_self (2 ^ (k - 64).toNat) h0; omega)
  unfold lowerP
  rw [e1, e2, e3, e4, e5]
  congr 1
  apply decide_eq_decide.2
  constructor
  · intro g g'
    apply g
    rcases Int.mul_eq_zero.1 g' with g' | g'
    · omega
    · rw [g']; simp
  · intro g g'
    apply g
    have : m % 2 ^ (k - 64).toNat = 0 := by omega
    rw [this]; simp
theorem lower_far {m k : Int} (h0 : 0 < m) (h1 : m < 18446744073709551616) (hk : 128 ≤ k) : lowerP m k = ⟨0, 0, true⟩ := by
  have e : (340282366920938463463374607431768211456 : Int) ≤ 2 ^ k.toNat := by
    have : (2 : Int) ^ 128 ≤ 2 ^ k.toNat := by
      have := Nat.pow_le_pow_right (n := 2) (by omega) (show 128 ≤ k.toNat by omega)
      exact_mod_cast this
    exact this
  have e1 : m * 18446744073709551616 / 2 ^ k.toNat = 0 := Int.ediv_eq_zero_of_lt (by omega) (by omega)
  have e2 : m * 18446744073709551616 % 2 ^ k.toNat = m * 18446744073709551616 := Int.emod_eq_of_lt (by omega) (by omega)
  unfold lowerP
  rw [e1, e2]
  congr 1
  exact decide_eq_true (by omega)

theorem lowerP_nn (m k : Int) (h : 0 ≤ m) : 0 ≤ (lowerP m k).hi := by
  have p := two_pos k.toNat
  exact Int.ediv_nonneg (Int.ediv_nonneg (by omega) (by omega)) (by decide)

/-- the sum of two of one sign: 128 bits, or one more -/
def plusX (a b : Num) : Int := a.m * 18446744073709551616 + b.m * 18446744073709551616 / 2 ^ (a.e - b.e).toNat
def plusC (a b : Num) : Bool := decide (b.m * 18446744073709551616 % 2 ^ (a.e - b.e).toNat ≠ 0)
def plusP (a b : Num) (up : Bool) : Num :=
  if plusX a b < 340282366920938463463374607431768211456 then Num.grow a.neg (plusX a b / 18446744073709551616) a.e (plusC a b || decide (plusX a b % 18446744073709551616 ≠ 0)) (up != a.neg)
  else Num.grow a.neg (plusX a b / 36893488147419103232) (a.e + 1) (plusC a b || decide (plusX a b % 36893488147419103232 ≠ 0)) (up != a.neg)

theorem or_top {x : Int} (h0 : 0 ≤ x) (h1 : x < 9223372036854775808) : IntKind.u64.wrap ((BitVec.ofInt IntKind.u64.bits x ||| BitVec.ofInt IntKind.u64.bits 9223372036854775808).toNat : Int) = x + 9223372036854775808 := by
  show IntKind.u64.wrap ((BitVec.ofInt 64 x ||| BitVec.ofInt 64 9223372036854775808).toNat : Int) = _
  rw [BitVec.toNat_or]
  have a1 : (BitVec.ofInt 64 x).toNat = x.toNat := by
    have := ofInt_toNat x
    omega
  have a2 : (BitVec.ofInt 64 9223372036854775808).toNat = 1 <<< 63 := by decide
  rw [a1, a2, Nat.or_comm, ← Nat.shiftLeft_add_eq_or_of_lt (by omega), Nat.shiftLeft_eq, wu64]
  omega
theorem and_1 (x : Int) : IntKind.u64.wrap ((BitVec.ofInt IntKind.u64.bits x &&& BitVec.ofInt IntKind.u64.bits 1).toNat : Int) = x % 2 := by
  have := and_low x 1 (by omega)
  rw [show (2 ^ 1 - 1 : Int) = 1 by decide, show (2 ^ 1 : Int) = 2 by decide] at this
  show IntKind.u64.wrap ((BitVec.ofInt 64 x &&& BitVec.ofInt 64 1).toNat : Int) = _
  rw [this, wu64]; omega

section
variable {a b : Num} {up : Bool} {D : Dbl}
theorem plus_parts (ha : a.Fin) (hb : b.Fin) (hD : D = lowerP b.m (a.e - b.e)) :
    0 ≤ plusX a b ∧ a.m + D.hi = plusX a b / 18446744073709551616 ∧ D.lo = plusX a b % 18446744073709551616 ∧ D.cut = plusC a b ∧ plusX a b < 680564733841876926926749214863536422912 := by
  have := ha.lo; have := ha.hi; have := hb.lo; have := hb.hi
  have p := two_pos (a.e - b.e).toNat
  have n := Int.ediv_nonneg (show 0 ≤ b.m * 18446744073709551616 by omega) (Int.le_of_lt p)
  have l := Int.ediv_le_self (2 ^ (a.e - b.e).toNat) (show 0 ≤ b.m * 18446744073709551616 by omega)
  subst hD
  unfold lowerP plusX plusC
  dsimp only
  generalize b.m * 18446744073709551616 / 2 ^ (a.e - b.e).toNat = L at *
  refine ⟨by omega, by omega, by omega, rfl, by omega⟩
theorem plus_carry (ha : a.Fin) (hb : b.Fin) (hD : D = lowerP b.m (a.e - b.e)) (h : (a.m + D.hi + 0) / 18446744073709551616 ≠ 0) :
    plusP a b up = Num.grow a.neg (IntKind.u64.wrap ((BitVec.ofInt IntKind.u64.bits (((a.m + D.hi + 0) % 18446744073709551616).fdiv (2 ^ min (Int.toNat 1) IntKind.u64.bits)) ||| BitVec.ofInt IntKind.u64.bits 9223372036854775808).toNat : Int)) (IntKind.i64.wrap (a.e + 1))
      (D.cut || (decide (D.lo ≠ 0) || decide (IntKind.u64.wrap ((BitVec.ofInt IntKind.u64.bits ((a.m + D.hi + 0) % 18446744073709551616) &&& BitVec.ofInt IntKind.u64.bits 1).toNat : Int) ≠ 0))) (up != a.neg) := by
  obtain ⟨n, e1, e2, e3, l⟩ := plus_parts ha hb hD
  have := ha.elo; have := ha.ehi
  rw [e1] at h
  unfold plusP
  rw [e1, e2, e3, shr1, and_1]
  generalize plusX a b = X at *
  rw [if_neg (by omega), or_top (by omega) (by omega), show IntKind.i64.wrap (a.e + 1) = a.e + 1 by (rw [wi64]; omega),
    show (X / 18446744073709551616 + 0) % 18446744073709551616 / 2 + 9223372036854775808 = X / 36893488147419103232 by omega]
  congr 1
  cases plusC a b
  · simp only [Bool.false_or]
    rw [← Bool.decide_or]
    apply decide_eq_decide.2
    omega
  · rfl
theorem plus_flat (ha : a.Fin) (hb : b.Fin) (hD : D = lowerP b.m (a.e - b.e)) (h : ¬ (a.m + D.hi + 0) / 18446744073709551616 ≠ 0) :
    plusP a b up = Num.grow a.neg ((a.m + D.hi + 0) % 18446744073709551616) a.e (D.cut || decide (D.lo ≠ 0)) (up != a.neg) := by
  obtain ⟨n, e1, e2, e3, l⟩ := plus_parts ha hb hD
  rw [e1] at h
  unfold plusP
  rw [e1, e2, e3]
  generalize plusX a b = X at *
  rw [if_pos (by omega), show (X / 18446744073709551616 + 0) % 18446744073709551616 = X / 18446744073709551616 by omega]
end
end Go.Proofs.YtpadpcjdakfokaaDoor.Ev

/- Division of two words by one: plain Lean. -/
namespace Go.Proofs.YtpadpcjdakfokaaDoor.Ev
open Go

/-- a digit of the quotient, told too great at first: what holds of it -/
structure Dig (y u un q r : Int) : Prop where
  lt : u * 4294967296 + un < (q + 1) * y
  rest : r = u - q * (y / 4294967296)
  pos : 0 ≤ r
  small : r < 4294967296
  top : q ≤ 4294967297
  nn : 0 ≤ q

section
variable {y u un q r : Int}

theorem dig_start (h1 : 9223372036854775808 ≤ y) (h2 : y < 18446744073709551616) (hu : 0 ≤ u) (hu' : u < y) (hn : 0 ≤ un) (hn' : un < 4294967296) :
    Dig y u un (u / (y / 4294967296)) (u - u / (y / 4294967296) * (y / 4294967296)) := by
  generalize hy : y / 4294967296 = a
  have ha : 2147483648 ≤ a ∧ a < 4294967296 := by omega
  have e1 := Int.mul_ediv_add_emod u a
  have e2 := Int.emod_nonneg u (show a ≠ 0 by omega)
  have e3 := Int.emod_lt_of_pos u (show 0 < a by omega)
  have hq0 : 0 ≤ u / a := Int.ediv_nonneg hu (by omega)
  generalize u / a = q at *
  have e4 : q * a = u - u % a := by rw [Int.mul_comm]; omega
  refine ⟨?_, by rw [hy], by omega, by omega, ?_, hq0⟩
  · have e5 : (q + 1) * (a * 4294967296) ≤ (q + 1) * y := Int.mul_le_mul_of_nonneg_left (by omega) (by omega)
    have e6 : (q + 1) * (a * 4294967296) = (q * a + a) * 4294967296 := by grind
    omega
  · rcases Int.lt_or_le 4294967297 q with h | h
    · exfalso
      have e5 : 4294967298 * a ≤ q * a := Int.mul_le_mul_of_nonneg_right (by omega) (by omega)
      omega
    · exact h

/-- it is too great: one less -/
theorem dig_less (h1 : 9223372036854775808 ≤ y) (h2 : y < 18446744073709551616) (hu : 0 ≤ u) (hu' : u < y) (hn : 0 ≤ un) (hn' : un < 4294967296) (D : Dig y u un q r)
    (hc : 4294967296 ≤ q ∨ r * 4294967296 + un < q * (y % 4294967296)) : u * 4294967296 + un < (q - 1 + 1) * y ∧ r + y / 4294967296 = u - (q - 1) * (y / 4294967296) ∧ 1 ≤ q := by
  obtain ⟨d1, d2, d3, d4, d5, d6⟩ := D
  have hy : y = (y / 4294967296) * 4294967296 + y % 4294967296 := by omega
  generalize ha : y / 4294967296 = a at *
  generalize hb : y % 4294967296 = b at *
  have e1 : (q - 1 + 1) * y = q * a * 4294967296 + q * b := by rw [hy]; grind
  have e2 : (q - 1) * a = q * a - a := by grind
  have hq1 : 1 ≤ q := by
    rcases hc with hc | hc
    · omega
    · rcases Int.lt_or_le 0 q with h | h
      · omega
      · have : q = 0 := by omega
        subst this
        omega
  refine ⟨?_, by omega, hq1⟩
  rcases hc with hc | hc
  · have e3 : 4294967296 * y ≤ q * y := Int.mul_le_mul_of_nonneg_right hc (by omega)
    have e4 : (q - 1 + 1) * y = q * y := by grind
    omega
  · omega

/-- it is right -/
theorem dig_right (h1 : 9223372036854775808 ≤ y) (h2 : y < 18446744073709551616) (hr : r = u - q * (y / 4294967296)) (hc : q * (y % 4294967296) ≤ r * 4294967296 + un) : q * y ≤ u * 4294967296 + un := by
  have hy : y = (y / 4294967296) * 4294967296 + y % 4294967296 := by omega
  generalize ha : y / 4294967296 = a at *
  generalize hb : y % 4294967296 = b at *
  have e1 : q * y = q * a * 4294967296 + q * b := by rw [hy]; grind
  omega

theorem dig_break (h2 : y < 18446744073709551616) (hn : 0 ≤ un) (hq : q ≤ 4294967296) (hq0 : 0 ≤ q) (hr : 4294967296 ≤ r) : q * (y % 4294967296) ≤ r * 4294967296 + un := by
  have : q * (y % 4294967296) ≤ 4294967296 * (y % 4294967296) := Int.mul_le_mul_of_nonneg_right hq (by omega)
  omega

theorem blen_top {y : Int} (h1 : 9223372036854775808 ≤ y) (h2 : y < 18446744073709551616) : blen y = 64 := by
  have := (blen_iff (x := y) (by omega) 63).2 ⟨by simpa using h1, by simpa using h2⟩
  omega

theorem shl0 (x : Int) (h0 : 0 ≤ x) (h1 : x < 18446744073709551616) : IntKind.u64.wrap (x * 2 ^ min (Int.toNat 0) IntKind.u64.bits) = x := by
  rw [show (2 : Int) ^ min (Int.toNat 0) IntKind.u64.bits = 1 by decide, wu64]; omega
theorem shr64 (x : Int) (h0 : 0 ≤ x) (h1 : x < 18446744073709551616) : x.fdiv (2 ^ min (Int.toNat 64) IntKind.u64.bits) = 0 := by
  rw [show (2 : Int) ^ min (Int.toNat 64) IntKind.u64.bits = 18446744073709551616 by decide, shr_lit (by omega)]; omega
theorem or_0 (x : Int) (h0 : 0 ≤ x) (h1 : x < 18446744073709551616) : IntKind.u64.wrap ((BitVec.ofInt IntKind.u64.bits x ||| BitVec.ofInt IntKind.u64.bits 0).toNat : Int) = x := by
  show IntKind.u64.wrap ((BitVec.ofInt 64 x ||| BitVec.ofInt 64 0).toNat : Int) = x
  have e : BitVec.ofInt 64 x ||| BitVec.ofInt 64 0 = BitVec.ofInt 64 x := by
    rw [show BitVec.ofInt 64 0 = 0#64 by rfl]
    exact BitVec.or_zero
  rw [e, ofInt_toNat, wu64]; omega

/-- what the round sees: its words do not wrap -/
theorem dig_words (h1 : 9223372036854775808 ≤ y) (h2 : y < 18446744073709551616) (hn : 0 ≤ un) (hn' : un < 4294967296) (D : Dig y u un q r) :
    (q < 4294967296 → IntKind.u64.wrap (q * (y % 4294967296)) = q * (y % 4294967296)) ∧ IntKind.u64.wrap (IntKind.u64.wrap (4294967296 * r) + un) = r * 4294967296 + un ∧ IntKind.u64.wrap (r + y / 4294967296) = r + y / 4294967296 := by
  obtain ⟨d1, d2, d3, d4, d5, d6⟩ := D
  refine ⟨fun hq => ?_, ?_, ?_⟩
  · have e1 := Int.mul_nonneg d6 (show (0 : Int) ≤ y % 4294967296 by omega)
    have e2 : q * (y % 4294967296) ≤ 4294967295 * (y % 4294967296) := Int.mul_le_mul_of_nonneg_right (by omega) (by omega)
    rw [wu64]
    generalize q * (y % 4294967296) = p at *
    omega
  · rw [wu64, wu64]; omega
  · rw [wu64]; omega

/-- the digit, and what is left -/
structure Right (y u un q : Int) : Prop where
  le : q * y ≤ u * 4294967296 + un
  lt : u * 4294967296 + un < (q + 1) * y
  nn : 0 ≤ q
  small : q < 4294967296

theorem right_of (h1 : 9223372036854775808 ≤ y) (hu' : u < y) (hn' : un < 4294967296) (h3 : q * y ≤ u * 4294967296 + un) (h4 : u * 4294967296 + un < (q + 1) * y) (h5 : 0 ≤ q) : Right y u un q := by
  refine ⟨h3, h4, h5, ?_⟩
  rcases Int.lt_or_le q 4294967296 with h | h
  · exact h
  · exfalso
    have : 4294967296 * y ≤ q * y := Int.mul_le_mul_of_nonneg_right h (by omega)
    omega

theorem right_left (R : Right y u un q) : 0 ≤ u * 4294967296 + un - q * y ∧ u * 4294967296 + un - q * y < y := by
  have := R.lt
  have := R.le
  have e : (q + 1) * y = q * y + y := by grind
  omega

theorem right_wrap (h2 : y < 18446744073709551616) (R : Right y u un q) : IntKind.u64.wrap (IntKind.u64.wrap (IntKind.u64.wrap (u * 4294967296) + un) - IntKind.u64.wrap (q * y)) = u * 4294967296 + un - q * y := by
  have := right_left R
  rw [wu64, wu64, wu64, wu64]
  generalize q * y = p at *
  omega

theorem two_digits {u' un' q' : Int} (h0 : 0 < y) (hu : u' = u * 4294967296 + un - q * y) (R : Right y u un q) (R' : Right y u' un' q') :
    (u * 18446744073709551616 + (un * 4294967296 + un')) / y = q * 4294967296 + q' ∧ (u * 18446744073709551616 + (un * 4294967296 + un')) % y = u' * 4294967296 + un' - q' * y := by
  have l := right_left R'
  have e : u * 18446744073709551616 + (un * 4294967296 + un') = (u' * 4294967296 + un' - q' * y) + (q * 4294967296 + q') * y := by
    rw [hu]; grind
  rw [e]
  constructor
  · rw [Int.add_mul_ediv_right _ _ (by omega), Int.ediv_eq_zero_of_lt l.1 l.2]; omega
  · rw [Int.add_mul_emod_self_right, Int.emod_eq_of_lt l.1 l.2]
end
end Go.Proofs.YtpadpcjdakfokaaDoor.Ev

/- The difference of two numbers: plain Lean. -/
namespace Go.Proofs.YtpadpcjdakfokaaDoor.Ev
open Go

def minusZ (a b : Num) : Int := a.m * 18446744073709551616 - b.m * 18446744073709551616 / 2 ^ (a.e - b.e).toNat - (if plusC a b then 1 else 0)
def minusP (a b : Num) (up : Bool) : Num :=
  Num.grow a.neg (minusZ a b * 2 ^ (128 - blen (minusZ a b)).toNat / 18446744073709551616) (a.e - (128 - blen (minusZ a b))) (plusC a b || decide (minusZ a b * 2 ^ (128 - blen (minusZ a b)).toNat % 18446744073709551616 ≠ 0)) (up != a.neg)

theorem lowerP_lo (m k : Int) : 0 ≤ (lowerP m k).lo := Int.emod_nonneg _ (by decide)
theorem lowerP_lo2 (m k : Int) : (lowerP m k).lo < 18446744073709551616 := Int.emod_lt_of_pos _ (by decide)
theorem lowerP_hi2 (m k : Int) (h : 0 ≤ m) (h1 : m < 18446744073709551616) : (lowerP m k).hi < 18446744073709551616 := by
  have l := Int.ediv_le_self (2 ^ k.toNat) (show 0 ≤ m * 18446744073709551616 by omega)
  show m * 18446744073709551616 / 2 ^ k.toNat / 18446744073709551616 < _
  omega
theorem borrow_nn (p : Prop) [Decidable p] : (0 : Int) ≤ if p then 1 else 0 := by split <;> decide
theorem borrow_le (p : Prop) [Decidable p] : (if p then 1 else 0 : Int) ≤ 1 := by split <;> decide

theorem or_shift {h l s : Int} (h0 : 0 ≤ h) (h1 : h < 2 ^ (64 - s).toNat) (l0 : 0 ≤ l) (l1 : l < 18446744073709551616) (s0 : 0 < s) (s1 : s < 64) :
    IntKind.u64.wrap ((BitVec.ofInt IntKind.u64.bits (IntKind.u64.wrap (h * 2 ^ s.toNat)) ||| BitVec.ofInt IntKind.u64.bits (l / 2 ^ (64 - s).toNat)).toNat : Int) = h * 2 ^ s.toNat + l / 2 ^ (64 - s).toNat := by
  have p := two_pos s.toNat
  have q := two_pos (64 - s).toNat
  have e := two_64 (k := s) (by omega) (by omega)
  have m1 : h * 2 ^ s.toNat ≤ (2 ^ (64 - s).toNat - 1) * 2 ^ s.toNat := Int.mul_le_mul_of_nonneg_right (by omega) (by omega)
  have m2 : (2 ^ (64 - s).toNat - 1) * (2 : Int) ^ s.toNat = 18446744073709551616 - 2 ^ s.toNat := by rw [e]; grind
  have m3 : 0 ≤ h * 2 ^ s.toNat := Int.mul_nonneg h0 (by omega)
  have d0 : 0 ≤ l / 2 ^ (64 - s).toNat := Int.ediv_nonneg l0 (by omega)
  have d1 : l / 2 ^ (64 - s).toNat < 2 ^ s.toNat := by
    rw [Int.ediv_lt_iff_lt_mul q, Int.mul_comm, ← e]; exact l1
  have e1 : IntKind.u64.wrap (h * 2 ^ s.toNat) = h * 2 ^ s.toNat := by rw [wu64]; omega
  rw [e1]
  show IntKind.u64.wrap ((BitVec.ofInt 64 (h * 2 ^ s.toNat) ||| BitVec.ofInt 64 (l / 2 ^ (64 - s).toNat)).toNat : Int) = _
  rw [BitVec.toNat_or]
  generalize hx : h * 2 ^ s.toNat = x at *
  generalize l / 2 ^ (64 - s).toNat = y at *
  have a1 : (BitVec.ofInt 64 x).toNat = h.toNat <<< s.toNat := by
    have := ofInt_toNat x
    rw [Nat.shiftLeft_eq]
    have c : ((h.toNat * 2 ^ s.toNat : Nat) : Int) = x := by push_cast; rw [Int.toNat_of_nonneg h0]; exact hx
    omega
  have a2 : (BitVec.ofInt 64 y).toNat = y.toNat := by
    have := ofInt_toNat y
    omega
  have a3 : y.toNat < 2 ^ s.toNat := by
    have c : ((2 ^ s.toNat : Nat) : Int) = 2 ^ s.toNat := by push_cast; rfl
    omega
  rw [a1, a2, ← Nat.shiftLeft_add_eq_or_of_lt a3, Nat.shiftLeft_eq, wu64]
  have c : ((h.toNat * 2 ^ s.toNat + y.toNat : Nat) : Int) = x + y := by push_cast; rw [Int.toNat_of_nonneg h0, Int.toNat_of_nonneg d0, hx]
  rw [c]; omega

section
variable {a b : Num} {up : Bool} {D : Dbl}
theorem minus_parts (ha : a.Fin) (hb : b.Fin) (hk : b.e ≤ a.e) (hgt : b.e < a.e ∨ b.m < a.m) (hD : D = lowerP b.m (a.e - b.e)) {c lo br hi : Int} (hc : c = if D.cut then 1 else 0)
    (hlo : lo = (0 - D.lo - c) % 18446744073709551616) (hbr : br = if 0 < D.lo + c then 1 else 0) (hhi : hi = (a.m - D.hi - br) % 18446744073709551616) :
    0 < minusZ a b ∧ minusZ a b < 340282366920938463463374607431768211456 ∧ hi = minusZ a b / 18446744073709551616 ∧ lo = minusZ a b % 18446744073709551616 ∧ D.cut = plusC a b := by
  have := ha.lo; have := ha.hi; have := hb.lo; have := hb.hi
  have p := two_pos (a.e - b.e).toNat
  have n := Int.ediv_nonneg (show 0 ≤ b.m * 18446744073709551616 by omega) (Int.le_of_lt p)
  have l := Int.ediv_mul_le (b.m * 18446744073709551616) (show (2 : Int) ^ (a.e - b.e).toNat ≠ 0 by omega)
  have hcut : D.cut = plusC a b := by rw [hD]; rfl
  have hcc : c = if plusC a b then 1 else 0 := by rw [hc, hcut]
  have key : b.m * 18446744073709551616 / 2 ^ (a.e - b.e).toNat + c < a.m * 18446744073709551616 := by
    by_cases he : a.e = b.e
    · have e0 : (2 : Int) ^ (a.e - b.e).toNat = 1 := by rw [show (a.e - b.e).toNat = 0 by omega]; rfl
      have : plusC a b = false := by unfold plusC; rw [e0]; simp
      rw [this] at hcc
      rw [e0]
      simp at hcc ⊢
      omega
    · have two : (2 : Int) ≤ 2 ^ (a.e - b.e).toNat := by
        have := Nat.pow_le_pow_right (n := 2) (by omega) (show 1 ≤ (a.e - b.e).toNat by omega)
        exact_mod_cast this
      have := Int.mul_le_mul_of_nonneg_left two n
      have c1 : c ≤ 1 := by rw [hc]; split <;> decide
      omega
  have z : minusZ a b = a.m * 18446744073709551616 - b.m * 18446744073709551616 / 2 ^ (a.e - b.e).toNat - c := by unfold minusZ; rw [hcc]
  have h1 : D.hi = b.m * 18446744073709551616 / 2 ^ (a.e - b.e).toNat / 18446744073709551616 := by rw [hD]; rfl
  have h2 : D.lo = b.m * 18446744073709551616 / 2 ^ (a.e - b.e).toNat % 18446744073709551616 := by rw [hD]; rfl
  rw [z]
  have c0 : c = 0 ∨ c = 1 := by rw [hc]; split <;> simp
  generalize b.m * 18446744073709551616 / 2 ^ (a.e - b.e).toNat = L at *
  refine ⟨by omega, by omega, ?_, ?_, hcut⟩
  · rw [hhi, hbr, h1, h2]; split <;> omega
  · rw [hlo, h2]; omega

/-- the two words, moved up as far as may be -/
theorem minus_low {Z : Int} (h0 : 0 < Z) (hh : Z / 18446744073709551616 = 0) :
    128 - blen Z = 64 + (64 - blen (Z % 18446744073709551616)) ∧ Z * 2 ^ (128 - blen Z).toNat / 18446744073709551616 = Z % 18446744073709551616 * 2 ^ (64 - blen (Z % 18446744073709551616)).toNat ∧
      Z * 2 ^ (128 - blen Z).toNat % 18446744073709551616 = 0 ∧ 0 ≤ 64 - blen (Z % 18446744073709551616) ∧ Z % 18446744073709551616 * 2 ^ (64 - blen (Z % 18446744073709551616)).toNat < 18446744073709551616 := by
  have e : Z % 18446744073709551616 = Z := by omega
  rw [e]
  have bl := blen_le 64 (x := Z) (by omega)
  have bn := blen_nonneg Z
  have f : (2 : Int) ^ (128 - blen Z).toNat = 2 ^ (64 - blen Z).toNat * 18446744073709551616 := by
    rw [show (128 - blen Z).toNat = (64 - blen Z).toNat + 64 by omega, Int.pow_add]; rfl
  refine ⟨by omega, ?_, ?_, by omega, ?_⟩
  · rw [f, ← Int.mul_assoc, Int.mul_ediv_cancel _ (by decide)]
  · rw [f, ← Int.mul_assoc, Int.mul_emod_left]
  · obtain ⟨n, n1, n2, n3⟩ := blen_pos h0
    have g : (18446744073709551616 : Int) = 2 ^ (n + 1) * 2 ^ (64 - blen Z).toNat := by
      rw [← Int.pow_add, show n + 1 + (64 - blen Z).toNat = 64 by omega]; rfl
    rw [g]
    exact Int.mul_lt_mul_of_pos_right n3 (two_pos _)
theorem minus_high {Z : Int} (h0 : 0 < Z) (h1 : Z < 340282366920938463463374607431768211456) (hh : Z / 18446744073709551616 ≠ 0) :
    128 - blen Z = 64 - blen (Z / 18446744073709551616) ∧ 0 ≤ 64 - blen (Z / 18446744073709551616) ∧ 64 - blen (Z / 18446744073709551616) < 64 ∧ Z / 18446744073709551616 < 2 ^ (64 - (64 - blen (Z / 18446744073709551616))).toNat := by
  have d := blen_div (x := Z) 64 (by show (18446744073709551616 : Int) ≤ Z; omega)
  rw [show (2 : Int) ^ 64 = 18446744073709551616 by decide] at d
  have q0 : 0 < Z / 18446744073709551616 := by omega
  have bl := blen_le 64 (x := Z / 18446744073709551616) (by omega)
  obtain ⟨n, n1, n2, n3⟩ := blen_pos q0
  refine ⟨by omega, by omega, by omega, ?_⟩
  rw [show (64 - (64 - blen (Z / 18446744073709551616))).toNat = n + 1 by omega]
  exact n3
theorem shift_two {Z s : Int} (s0 : 0 ≤ s) (s1 : s < 64) : Z * 2 ^ s.toNat / 18446744073709551616 = Z / 18446744073709551616 * 2 ^ s.toNat + Z % 18446744073709551616 / 2 ^ (64 - s).toNat ∧
    Z * 2 ^ s.toNat % 18446744073709551616 = Z % 18446744073709551616 * 2 ^ s.toNat % 18446744073709551616 := by
  have p := two_pos s.toNat
  have q := two_pos (64 - s).toNat
  have e := two_64 (k := s) (by omega) (by omega)
  have z : Z = Z / 18446744073709551616 * 18446744073709551616 + Z % 18446744073709551616 := by omega
  generalize hZ : Z % 18446744073709551616 = l at *
  generalize hQ : Z / 18446744073709551616 = h at *
  have e1 : Z * 2 ^ s.toNat = l * 2 ^ s.toNat + (h * 2 ^ s.toNat) * 18446744073709551616 := by rw [z]; grind
  have e2 : l * 2 ^ s.toNat / 18446744073709551616 = l / 2 ^ (64 - s).toNat := by
    rw [e, Int.mul_ediv_mul_of_pos_left _ _ p]
  rw [e1]
  constructor
  · rw [Int.add_mul_ediv_right _ _ (by decide), e2]; omega
  · rw [Int.add_mul_emod_self_right]

theorem min_64 {s : Int} (h : s ≤ 64) : min s.toNat IntKind.u64.bits = s.toNat := by show min s.toNat 64 = _; omega
theorem minus_A_pos (ha : a.Fin) (z0 : 0 < minusZ a b) (hA : minusZ a b / 18446744073709551616 = 0) :
    minusP a b up = Num.grow a.neg (IntKind.u64.wrap ((BitVec.ofInt IntKind.u64.bits (IntKind.u64.wrap (minusZ a b % 18446744073709551616 * 2 ^ min (64 - blen (minusZ a b % 18446744073709551616)).toNat IntKind.u64.bits)) |||
      BitVec.ofInt IntKind.u64.bits (Int.fdiv 0 (2 ^ min (IntKind.i64.wrap (64 - (64 - blen (minusZ a b % 18446744073709551616)))).toNat IntKind.u64.bits))).toNat : Int))
      (IntKind.i64.wrap (IntKind.i64.wrap (a.e - 64) - (64 - blen (minusZ a b % 18446744073709551616)))) (plusC a b || decide (IntKind.u64.wrap (0 * 2 ^ min (64 - blen (minusZ a b % 18446744073709551616)).toNat IntKind.u64.bits) ≠ 0)) (up != a.neg) := by
  obtain ⟨e1, e2, e3, e4, e5⟩ := minus_low z0 hA
  have := ha.elo; have := ha.ehi
  have bn := blen_nonneg (minusZ a b % 18446744073709551616)
  unfold minusP
  rw [e2, e3, min_64 (by omega)]
  have q := two_pos (64 - blen (minusZ a b % 18446744073709551616)).toNat
  have nn := Int.mul_nonneg (Int.emod_nonneg (minusZ a b) (show (18446744073709551616 : Int) ≠ 0 by decide)) (Int.le_of_lt q)
  rw [show (Int.fdiv 0 (2 ^ min (IntKind.i64.wrap (64 - (64 - blen (minusZ a b % 18446744073709551616)))).toNat IntKind.u64.bits)) = 0 by rw [shr_lit (Int.le_of_lt (two_pos _)), Int.zero_ediv]]
  generalize hx : minusZ a b % 18446744073709551616 * 2 ^ (64 - blen (minusZ a b % 18446744073709551616)).toNat = x at *
  rw [show IntKind.u64.wrap x = x by (rw [wu64]; omega), show IntKind.u64.wrap ((BitVec.ofInt IntKind.u64.bits x ||| BitVec.ofInt IntKind.u64.bits 0).toNat : Int) = x from or_0 x nn e5]
  rw [show IntKind.i64.wrap (IntKind.i64.wrap (a.e - 64) - (64 - blen (minusZ a b % 18446744073709551616))) = a.e - (128 - blen (minusZ a b)) by (simp only [wi64]; omega), Int.zero_mul, show IntKind.u64.wrap 0 = 0 by decide]
theorem minus_A_zero (ha : a.Fin) (z0 : 0 < minusZ a b) (hA : minusZ a b / 18446744073709551616 = 0) (hp : ¬ 0 < 64 - blen (minusZ a b % 18446744073709551616)) :
    minusP a b up = Num.grow a.neg (minusZ a b % 18446744073709551616) (IntKind.i64.wrap (a.e - 64)) (plusC a b || decide ((0 : Int) ≠ 0)) (up != a.neg) := by
  obtain ⟨e1, e2, e3, e4, e5⟩ := minus_low z0 hA
  have := ha.elo; have := ha.ehi
  unfold minusP
  rw [e2, e3, show 64 - blen (minusZ a b % 18446744073709551616) = 0 by omega, show IntKind.i64.wrap (a.e - 64) = a.e - (128 - blen (minusZ a b)) by (simp only [wi64]; omega)]
  simp
theorem minus_B_pos (ha : a.Fin) (z0 : 0 < minusZ a b) (z1 : minusZ a b < 340282366920938463463374607431768211456) (hB : minusZ a b / 18446744073709551616 ≠ 0) (hp : 0 < 64 - blen (minusZ a b / 18446744073709551616)) :
    minusP a b up = Num.grow a.neg (IntKind.u64.wrap ((BitVec.ofInt IntKind.u64.bits (IntKind.u64.wrap (minusZ a b / 18446744073709551616 * 2 ^ min (64 - blen (minusZ a b / 18446744073709551616)).toNat IntKind.u64.bits)) |||
      BitVec.ofInt IntKind.u64.bits ((minusZ a b % 18446744073709551616).fdiv (2 ^ min (IntKind.i64.wrap (64 - (64 - blen (minusZ a b / 18446744073709551616)))).toNat IntKind.u64.bits))).toNat : Int))
      (IntKind.i64.wrap (a.e - (64 - blen (minusZ a b / 18446744073709551616)))) (plusC a b || decide (IntKind.u64.wrap (minusZ a b % 18446744073709551616 * 2 ^ min (64 - blen (minusZ a b / 18446744073709551616)).toNat IntKind.u64.bits) ≠ 0)) (up != a.neg) := by
  obtain ⟨e1, e2, e3, e4⟩ := minus_high z0 z1 hB
  have := ha.elo; have := ha.ehi
  unfold minusP
  rw [e1]
  generalize hs : 64 - blen (minusZ a b / 18446744073709551616) = s at *
  obtain ⟨f1, f2⟩ := shift_two (Z := minusZ a b) e2 e3
  rw [f1, f2, min_64 (by omega), show IntKind.i64.wrap (64 - s) = 64 - s by (simp only [wi64]; omega), min_64 (by omega), shr_lit (Int.le_of_lt (two_pos _)), or_shift (by omega) e4 (by omega) (by omega) hp e3, wu64,
    show IntKind.i64.wrap (a.e - s) = a.e - s by (simp only [wi64]; omega)]
theorem minus_B_zero (ha : a.Fin) (z0 : 0 < minusZ a b) (z1 : minusZ a b < 340282366920938463463374607431768211456) (hB : minusZ a b / 18446744073709551616 ≠ 0) (hp : ¬ 0 < 64 - blen (minusZ a b / 18446744073709551616)) :
    minusP a b up = Num.grow a.neg (minusZ a b / 18446744073709551616) a.e (plusC a b || decide (minusZ a b % 18446744073709551616 ≠ 0)) (up != a.neg) := by
  obtain ⟨e1, e2, e3, e4⟩ := minus_high z0 z1 hB
  have e0 : 128 - blen (minusZ a b) = 0 := by omega
  unfold minusP
  rw [e0]
  simp
end
end Go.Proofs.YtpadpcjdakfokaaDoor.Ev

/- The sum of two numbers: plain Lean. -/
namespace Go.Proofs.YtpadpcjdakfokaaDoor.Ev
open Go

def Num.addS (a b : Num) (up : Bool) : Num := if a.neg = b.neg then plusP a b up else if a.e = b.e ∧ a.m = b.m then Num.zero else minusP a b up
def Num.addF (a b : Num) (up : Bool) : Num := if a.e < b.e ∨ (a.e = b.e ∧ a.m < b.m) then Num.addS b a up else Num.addS a b up
def Num.add (a b : Num) (up : Bool) : Num :=
  if a.fair.kind = 2 ∧ b.fair.kind = 2 ∧ a.fair.neg ≠ b.fair.neg then Num.inf (!up)
  else if a.fair.kind = 2 ∨ b.fair.kind = 0 then a.fair else if b.fair.kind = 2 ∨ a.fair.kind = 0 then b.fair else Num.addF a.fair b.fair up
end Go.Proofs.YtpadpcjdakfokaaDoor.Ev

/- Whole numbers as numbers, the opposite, how far from nought, the square: plain Lean. -/
namespace Go.Proofs.YtpadpcjdakfokaaDoor.Ev
open Go

theorem E_br_t {P : Program} {E : Env} (hE : E = realE P) {c : Bool} {t f : Unit → Prop} (h : c = true) (ht : t ()) : E.br c t f := by
  subst hE; exact ⟨fun _ => ht, fun h' => (by rw [h] at h'; cases h')⟩
theorem E_br_f {P : Program} {E : Env} (hE : E = realE P) {c : Bool} {t f : Unit → Prop} (h : c = false) (hf : f ()) : E.br c t f := by
  subst hE; exact ⟨fun h' => (by rw [h] at h'; cases h'), fun _ => hf⟩

def Num.ofInt (n : Int) : Num :=
  if n = 0 then Num.zero else ⟨1, decide (n < 0), IntKind.u64.wrap ((n.natAbs : Int) * 2 ^ min (Int.toNat (64 - blen n.natAbs)) IntKind.u64.bits), IntKind.i64.wrap (0 - (64 - blen n.natAbs))⟩
def Iv.ofInts (a b : Int) : Iv := Iv.make (Num.ofInt a) (Num.ofInt b)
def Iv.neg (a : Iv) : Iv := if Iv.anyBad [a] then Iv.none else Iv.make a.hi.opp a.lo.opp
def Iv.abs (a : Iv) : Iv :=
  if Iv.anyBad [a] then Iv.none else if 0 ≤ a.lo.sign then a else if a.hi.sign ≤ 0 then Iv.neg a else Iv.make Num.zero (Num.most [a.hi, a.lo.opp])
def Iv.sqr (a : Iv) : Iv := if (Iv.abs a).empty then Iv.abs a else Iv.make (Num.mul (Iv.abs a).lo (Iv.abs a).lo false) (Num.mul (Iv.abs a).hi (Iv.abs a).hi true)

theorem aw1 : Iv.mul (Iv.ofInts (-1) 2) (Iv.ofInts 3 4) = ⟨false, ⟨1, true, 9223372036854775808, -61⟩, ⟨1, false, 9223372036854775808, -60⟩⟩ := by decide +kernel
theorem aw2 : Iv.ofInts (-4) 8 = ⟨false, ⟨1, true, 9223372036854775808, -61⟩, ⟨1, false, 9223372036854775808, -60⟩⟩ := by decide +kernel
theorem aw3 : Iv.div (Iv.ofInts 1 2) (Iv.ofInts 0 4) = ⟨false, ⟨1, false, 9223372036854775808, -65⟩, ⟨2, false, 0, 0⟩⟩ := by decide +kernel
theorem aw4 : Num.cmp ⟨1, false, 9223372036854775808, -65⟩ (Num.ofInt 0) = 1 := by decide +kernel
theorem aw5 : Iv.sqr (Iv.ofInts (-1) 2) = ⟨false, ⟨0, false, 0, 0⟩, ⟨1, false, 9223372036854775808, -61⟩⟩ := by decide +kernel
theorem aw6 : Iv.ofInts 0 4 = ⟨false, ⟨0, false, 0, 0⟩, ⟨1, false, 9223372036854775808, -61⟩⟩ := by decide +kernel
theorem wabs_neg {n : Int} (h0 : -9223372036854775808 ≤ n) (h : n < 0) : IntKind.u64.wrap (0 - IntKind.u64.wrap n) = (n.natAbs : Int) := by
  simp only [wu64]; omega
theorem wabs_pos {n : Int} (h0 : 0 ≤ n) (h : n < 9223372036854775808) : IntKind.u64.wrap n = (n.natAbs : Int) := by
  simp only [wu64]; omega
theorem Num.ofInt_ok (n : Int) : (Num.ofInt n).ok := by
  unfold Num.ofInt
  split
  · exact Num.zero_ok
  · constructor <;> (simp only [wu64]; omega)

theorem Num.grow_ok {neg cut away : Bool} {m e : Int} (h0 : 0 ≤ m) (h1 : m < 18446744073709551616) : (Num.grow neg m e cut away).ok := by
  have b : ∀ (m e : Int), 0 ≤ m → m < 18446744073709551616 → (Num.bound neg m e away).ok := by
    intro m e h0 h1
    unfold Num.bound
    repeat' split
    all_goals first | exact Num.inf_ok _ | exact Num.zero_ok | exact ⟨h0, h1⟩ | (constructor <;> simp [Num.huge, Num.tiny, Num.top])
  unfold Num.grow
  repeat' split
  all_goals (refine b _ _ ?_ ?_) <;> first | (simp only [wu64]; omega) | (simp [Num.top]) | assumption
theorem Iv.make_ok {lo hi : Num} (h1 : lo.ok) (h2 : hi.ok) : (Iv.make lo hi).lo.ok ∧ (Iv.make lo hi).hi.ok := by
  rcases Iv.make_cases h1 h2 with ⟨e, _⟩ | ⟨e, R⟩
  · rw [e]; exact ⟨Num.zero_ok, Num.zero_ok⟩
  · rw [e]; exact ⟨R.loo, R.hio⟩
theorem Iv.corners_ok {F : Num → Num → Bool → Num} {a b : Iv} (h : ∀ x ∈ [a.lo, a.hi], ∀ y ∈ [b.lo, b.hi], ∀ up, (F x y up).ok) : (Iv.corners F a b).lo.ok ∧ (Iv.corners F a b).hi.ok := by
  refine Iv.make_ok (Num.least_spec _ ?_).2.1 (Num.most_spec _ ?_).2.1 <;>
  · intro x hx
    simp only [List.mem_cons, List.not_mem_nil, or_false] at hx
    rcases hx with rfl | rfl | rfl | rfl <;> exact h _ (by simp) _ (by simp) _
theorem Num.mul_ok {a b : Num} (ha : a.ok) (hb : b.ok) (up : Bool) : (Num.mul a b up).ok := by
  unfold Num.mul
  split
  · exact Num.zero_ok
  · split
    · exact Num.inf_ok _
    · have fa := Num.fin_of (n := a) (by omega) (by omega)
      have fb := Num.fin_of (n := b) (by omega) (by omega)
      have oa := Num.fair_ok ha
      have ob := Num.fair_ok hb
      exact (mulF_side ⟨fa.1, fa.2.1, oa.2, fa.2.2.1, fa.2.2.2⟩ ⟨fb.1, fb.2.1, ob.2, fb.2.2.1, fb.2.2.2⟩ up).ok
theorem Iv.mul_ok {a b : Iv} (h1 : a.lo.ok) (h2 : a.hi.ok) (h3 : b.lo.ok) (h4 : b.hi.ok) : (Iv.mul a b).lo.ok ∧ (Iv.mul a b).hi.ok := by
  unfold Iv.mul
  split
  · exact ⟨Num.zero_ok, Num.zero_ok⟩
  · refine Iv.corners_ok ?_
    intro x hx y hy up
    simp only [List.mem_cons, List.not_mem_nil, or_false] at hx hy
    rcases hx with rfl | rfl <;> rcases hy with rfl | rfl <;> exact Num.mul_ok (by assumption) (by assumption) up

theorem Iv.neg_ok {a : Iv} (h1 : a.lo.ok) (h2 : a.hi.ok) : (Iv.neg a).lo.ok ∧ (Iv.neg a).hi.ok := by
  unfold Iv.neg
  split
  · exact ⟨Num.zero_ok, Num.zero_ok⟩
  · exact Iv.make_ok (Num.opp_ok h2) (Num.opp_ok h1)
theorem Iv.abs_ok {a : Iv} (h1 : a.lo.ok) (h2 : a.hi.ok) : (Iv.abs a).lo.ok ∧ (Iv.abs a).hi.ok := by
  unfold Iv.abs
  repeat' split
  · exact ⟨Num.zero_ok, Num.zero_ok⟩
  · exact ⟨h1, h2⟩
  · exact Iv.neg_ok h1 h2
  · refine Iv.make_ok Num.zero_ok (Num.most_spec _ ?_).2.1
    intro x hx
    simp only [List.mem_cons, List.not_mem_nil, or_false] at hx
    rcases hx with rfl | rfl
    · exact h2
    · exact Num.opp_ok h1
theorem Iv.ofInts_ok (a b : Int) : (Iv.ofInts a b).lo.ok ∧ (Iv.ofInts a b).hi.ok := Iv.make_ok (Num.ofInt_ok a) (Num.ofInt_ok b)

theorem Num.div_lo {A B : Num} {up : Bool} (hA : A.ok) (fA : -1048576 ≤ A.e ∧ A.e ≤ 1048576) (fB : -1048576 ≤ B.e ∧ B.e ≤ 1048576) (h : ¬ B.m ≤ A.m) :
    Num.grow (A.neg != B.neg) ((A.m * 18446744073709551616 + 0) / B.m) (IntKind.i64.wrap (IntKind.i64.wrap (A.e - B.e) - 64)) (decide ((A.m * 18446744073709551616 + 0) % B.m ≠ 0)) (up != (A.neg != B.neg)) = Num.divF A B up := by
  unfold Num.divF
  rw [if_neg h, Int.add_zero, show IntKind.i64.wrap (IntKind.i64.wrap (A.e - B.e) - 64) = A.e - B.e - 64 by simp only [wi64]; omega]
theorem Num.div_hi {A B : Num} {up : Bool} (hA : A.ok) (fA : -1048576 ≤ A.e ∧ A.e ≤ 1048576) (fB : -1048576 ≤ B.e ∧ B.e ≤ 1048576) (h : B.m ≤ A.m) :
    Num.grow (A.neg != B.neg) ((A.m / 2 * 18446744073709551616 + IntKind.u64.wrap (A.m * 9223372036854775808)) / B.m) (IntKind.i64.wrap (IntKind.i64.wrap (IntKind.i64.wrap (A.e - B.e) - 64) + 1))
      (decide ((A.m / 2 * 18446744073709551616 + IntKind.u64.wrap (A.m * 9223372036854775808)) % B.m ≠ 0)) (up != (A.neg != B.neg)) = Num.divF A B up := by
  unfold Num.divF
  have := hA.1
  have := hA.2
  rw [if_pos h, show A.m / 2 * 18446744073709551616 + IntKind.u64.wrap (A.m * 9223372036854775808) = A.m * 9223372036854775808 by rw [wu64]; omega,
    show IntKind.i64.wrap (IntKind.i64.wrap (IntKind.i64.wrap (A.e - B.e) - 64) + 1) = A.e - B.e - 63 by simp only [wi64]; omega]
end Go.Proofs.YtpadpcjdakfokaaDoor.Ev

/- The sum of intervals: plain Lean. -/
namespace Go.Proofs.YtpadpcjdakfokaaDoor.Ev
open Go

theorem plusP_ok {a b : Num} (ha : a.Fin) (hb : b.Fin) (up : Bool) : (plusP a b up).ok := by
  obtain ⟨n, _, _, _, l⟩ := plus_parts ha hb rfl
  unfold plusP
  split <;> exact Num.grow_ok (by omega) (by omega)
theorem minusP_ok {a b : Num} (ha : a.Fin) (hb : b.Fin) (hk : b.e ≤ a.e) (hgt : b.e < a.e ∨ b.m < a.m) (up : Bool) : (minusP a b up).ok := by
  obtain ⟨z0, z1, _, _, _⟩ := minus_parts ha hb hk hgt rfl rfl rfl rfl rfl
  unfold minusP
  by_cases h : minusZ a b / 18446744073709551616 = 0
  · obtain ⟨_, e2, _, _, e5⟩ := minus_low z0 h
    rw [e2]
    exact Num.grow_ok (Int.mul_nonneg (by omega) (Int.le_of_lt (two_pos _))) e5
  · obtain ⟨e1, e2, e3, e4⟩ := minus_high z0 z1 h
    rw [e1]
    have q := two_pos (64 - blen (minusZ a b / 18446744073709551616)).toNat
    refine Num.grow_ok (Int.ediv_nonneg (Int.mul_nonneg (by omega) (by omega)) (by decide)) ?_
    generalize hs : 64 - blen (minusZ a b / 18446744073709551616) = s at *
    have e := two_64 (k := s) e2 (by omega)
    obtain ⟨f1, _⟩ := shift_two (Z := minusZ a b) e2 e3
    have q' := two_pos (64 - s).toNat
    have m1 : minusZ a b / 18446744073709551616 * 2 ^ s.toNat ≤ (2 ^ (64 - s).toNat - 1) * 2 ^ s.toNat := Int.mul_le_mul_of_nonneg_right (by omega) (by omega)
    have m2 : (2 ^ (64 - s).toNat - 1) * (2 : Int) ^ s.toNat = 18446744073709551616 - 2 ^ s.toNat := by rw [e]; grind
    have d1 : minusZ a b % 18446744073709551616 / 2 ^ (64 - s).toNat < 2 ^ s.toNat := by
      rw [Int.ediv_lt_iff_lt_mul q', Int.mul_comm, ← e]; omega
    rw [f1]; omega
theorem Num.addS_ok {a b : Num} (ha : a.Fin) (hb : b.Fin) (hk : b.e < a.e ∨ (b.e = a.e ∧ b.m ≤ a.m)) (up : Bool) : (Num.addS a b up).ok := by
  unfold Num.addS
  split
  · exact plusP_ok ha hb up
  · split
    · exact Num.zero_ok
    · exact minusP_ok ha hb (by omega) (by omega) up
theorem Num.add_ok {a b : Num} (ha : a.ok) (hb : b.ok) (up : Bool) : (Num.add a b up).ok := by
  unfold Num.add
  split
  · exact Num.inf_ok _
  · split
    · exact Num.fair_ok ha
    · split
      · exact Num.fair_ok hb
      · have fa := Num.fin_of (n := a) (by omega) (by omega)
        have fb := Num.fin_of (n := b) (by omega) (by omega)
        have FA : a.fair.Fin := ⟨fa.1, fa.2.1, (Num.fair_ok ha).2, fa.2.2.1, fa.2.2.2⟩
        have FB : b.fair.Fin := ⟨fb.1, fb.2.1, (Num.fair_ok hb).2, fb.2.2.1, fb.2.2.2⟩
        unfold Num.addF
        split
        · exact Num.addS_ok FB FA (by omega) up
        · exact Num.addS_ok FA FB (by omega) up

def Iv.addStep (p : Num × Num) (x : Iv) : Num × Num := (Num.add p.1 x.lo false, Num.add p.2 x.hi true)
def Iv.addEnds : List Iv → Num × Num
  | [] => (Num.zero, Num.zero)
  | x :: r => r.foldl Iv.addStep (x.lo, x.hi)
def Iv.addTo (l : List Iv) (i : Int) : Num × Num := Iv.addEnds (l.take i.toNat)
def Iv.add (l : List Iv) : Iv := if Iv.anyBad l then Iv.none else Iv.make (Iv.addEnds l).1 (Iv.addEnds l).2
theorem Iv.addTo_all (l : List Iv) : Iv.addTo l l.length = Iv.addEnds l := by simp [Iv.addTo]
theorem Iv.addTo_succ (l : List Iv) {i : Int} (h0 : 0 ≤ i) (h1 : i < l.length) :
    Iv.addTo l (i + 1) = if i = 0 then ((l.getD i.toNat Iv.none).lo, (l.getD i.toNat Iv.none).hi) else Iv.addStep (Iv.addTo l i) (l.getD i.toNat Iv.none) := by
  cases l with
  | nil => simp at h1; omega
  | cons x r =>
    by_cases hi : i = 0
    · subst hi; rfl
    · rw [if_neg hi]
      unfold Iv.addTo
      obtain ⟨k, hk⟩ : ∃ k : Nat, i.toNat = k + 1 := ⟨i.toNat - 1, by omega⟩
      have hl : k < r.length := by simp at h1; omega
      rw [show (i + 1).toNat = k + 1 + 1 by omega, hk, List.take_succ_cons, List.take_succ_cons]
      show (r.take (k + 1)).foldl _ _ = Iv.addStep ((r.take k).foldl _ _) _
      rw [List.take_add_one, List.getElem?_eq_getElem hl, Option.toList_some, List.foldl_append]
      simp [List.getD, hl]
theorem Iv.addEnds_ok {l : List Iv} (h : ∀ x ∈ l, x.lo.ok ∧ x.hi.ok) : (Iv.addEnds l).1.ok ∧ (Iv.addEnds l).2.ok := by
  have go : ∀ (r : List Iv) (p : Num × Num), (∀ x ∈ r, x.lo.ok ∧ x.hi.ok) → p.1.ok ∧ p.2.ok → (r.foldl Iv.addStep p).1.ok ∧ (r.foldl Iv.addStep p).2.ok := by
    intro r
    induction r with
    | nil => intro p _ hp; exact hp
    | cons x r ih =>
      intro p hr hp
      have hx := hr x (List.mem_cons_self ..)
      exact ih _ (fun y hy => hr y (List.mem_cons_of_mem _ hy)) ⟨Num.add_ok hp.1 hx.1 false, Num.add_ok hp.2 hx.2 true⟩
  cases l with
  | nil => exact ⟨Num.zero_ok, Num.zero_ok⟩
  | cons x r => exact go r _ (fun y hy => h y (List.mem_cons_of_mem _ hy)) (h x (List.mem_cons_self ..))
end Go.Proofs.YtpadpcjdakfokaaDoor.Ev

/- Whole numbers as numbers are exact: plain Lean. -/
namespace Go.Proofs.YtpadpcjdakfokaaDoor.Ev
open Go

end Go.Proofs.YtpadpcjdakfokaaDoor.Ev

/- What a rounded number is: of all numbers on its side of the exact one the nearest. Plain Lean. -/
namespace Go.Proofs.YtpadpcjdakfokaaDoor.Ev
open Go

/-- the nearest one on a side of t / c -/
structure Best (r : Num) (up : Bool) (t c : Int) : Prop where
  may : r.may = true
  ok : r.ok
  down : up = false → r ≠ Num.inf false ∧ (r = Num.inf true ∨ r.val * c ≤ t)
  dopt : up = false → ∀ s : Num, s.may = true → s.ok → s ≠ Num.inf false → s.val * c ≤ t → s.val ≤ r.val
  uopt : up = true → ∀ s : Num, s.may = true → s.ok → s ≠ Num.inf true → t ≤ s.val * c → r.val ≤ s.val
  hi : up = true → r ≠ Num.inf true ∧ (r = Num.inf false ∨ t ≤ r.val * c)

theorem Best.side {r : Num} {up : Bool} {t c : Int} (h : Best r up t c) : Side r up t c := ⟨h.may, h.ok, h.down, h.hi⟩

theorem Best.mono {r r' : Num} {up : Bool} {t c t' c' : Int} (h : Best r up t c) (h' : Best r' up t' c') (hc : 0 < c) (hc' : 0 < c') (ht : t * c' ≤ t' * c) : r.val ≤ r'.val := by
  have key : ∀ v : Int, v * c ≤ t → v * c' ≤ t' := by
    intro v hv
    have h1 : v * c * c' ≤ t * c' := Int.mul_le_mul_of_nonneg_right hv (Int.le_of_lt hc')
    refine Int.le_of_mul_le_mul_right (a := c) ?_ hc
    have : v * c' * c = v * c * c' := by grind
    omega
  have key2 : ∀ v : Int, t' ≤ v * c' → t ≤ v * c := by
    intro v hv
    have h1 : t' * c ≤ v * c' * c := Int.mul_le_mul_of_nonneg_right hv (Int.le_of_lt hc)
    refine Int.le_of_mul_le_mul_right (a := c') ?_ hc'
    have : v * c' * c = v * c * c' := by grind
    omega
  cases up with
  | false =>
    obtain ⟨d1, d2⟩ := h.down rfl
    rcases d2 with d2 | d2
    · have := (Num.val_le h'.may h'.ok).1
      rw [d2, Num.val_inf]
      simpa using this
    · exact h'.dopt rfl r h.may h.ok d1 (key _ d2)
  | true =>
    obtain ⟨d1, d2⟩ := h'.hi rfl
    rcases d2 with d2 | d2
    · have := (Num.val_le h.may h.ok).2
      rw [d2, Num.val_inf]
      simpa using this
    · exact h.uopt rfl r' h'.may h'.ok d1 (key2 _ d2)

theorem Best.uniq {r r' : Num} {up : Bool} {t c t' c' : Int} (h : Best r up t c) (h' : Best r' up t' c') (hc : 0 < c) (hc' : 0 < c') (ht : t * c' = t' * c) : r = r' :=
  Num.val_inj h.may h'.may h.ok h'.ok (Int.le_antisymm (h.mono h' hc hc' (by omega)) (h'.mono h hc' hc (by omega)))

/-- what is a number is not rounded -/
theorem Best.exact {r s : Num} {up : Bool} {t c : Int} (h : Best r up t c) (hc : 0 < c) (ms : s.may = true) (os : s.ok) (ks : s.kind ≠ 2) (ht : s.val * c = t) : r = s := by
  have n : ∀ b, s ≠ Num.inf b := fun b g => ks (by rw [g]; rfl)
  refine h.uniq (t' := s.val) (c' := 1) ⟨ms, os, fun _ => ⟨n _, .inr (by omega)⟩, fun _ x _ _ _ hx => by omega, fun _ x _ _ _ hx => by omega, fun _ => ⟨n _, .inr (by omega)⟩⟩ hc (by decide) (by omega)

/-- down is not above up -/
theorem Best.le {r r' : Num} {t c : Int} (h : Best r false t c) (h' : Best r' true t c) (hc : 0 < c) : r.val ≤ r'.val := by
  obtain ⟨d1, d2⟩ := h.down rfl
  obtain ⟨e1, e2⟩ := h'.hi rfl
  rcases d2 with d2 | d2
  · have := (Num.val_le h'.may h'.ok).1
    rw [d2, Num.val_inf]
    simpa using this
  · rcases e2 with e2 | e2
    · have := (Num.val_le h.may h.ok).2
      rw [e2, Num.val_inf]
      simpa using this
    · exact Int.le_of_mul_le_mul_right (a := c) (by omega) hc

/-! ### the grid of numbers of 64 bits -/
theorem pw_split {e f : Int} (h : -8388608 ≤ e) (h2 : e ≤ f) : pw f = 2 ^ (f - e).toNat * pw e := by
  have := pw_add (e := e) (f := f - e) h (by omega)
  rw [show e + (f - e) = f by omega] at this
  rw [this, Int.mul_comm]

theorem grid_dn {s : Num} (ms : s.may = true) (os : s.ok) (ks : s.kind ≠ 2) {m e : Int} (hm : 9223372036854775808 ≤ m) (he : -4194303 ≤ e) (h : s.W < (m + 1) * pw e) : s.W ≤ m * pw e := by
  have p := pw_pos e
  rcases Num.may3 ms os with k | k | k
  · rw [k, Num.zero_W]; exact Int.mul_nonneg (by omega) (Int.le_of_lt p)
  · rw [k.W] at h ⊢
    have := k.hi; have := k.elo
    rcases Int.lt_or_le s.e e with g | g
    · exact Int.le_of_lt (lex_lt hm k.hi (by omega) g)
    · rw [pw_split (by omega) g, ← Int.mul_assoc] at h ⊢
      have := Int.lt_of_mul_lt_mul_right h (Int.le_of_lt p)
      exact Int.mul_le_mul_of_nonneg_right (by omega) (Int.le_of_lt p)
  · rw [k] at ks; simp [Num.inf] at ks

theorem grid_up {s : Num} (ms : s.may = true) (os : s.ok) {m e : Int} (hm : 9223372036854775808 ≤ m) (he : -4194303 ≤ e) (h : m * pw e < s.W) : (m + 1) * pw e ≤ s.W := by
  have p := pw_pos e
  have up : ∀ (N f : Int), e ≤ f → m * pw e < N * pw f → (m + 1) * pw e ≤ N * pw f := by
    intro N f hf hN
    rw [pw_split (by omega) hf, ← Int.mul_assoc] at hN ⊢
    have := Int.lt_of_mul_lt_mul_right hN (Int.le_of_lt p)
    exact Int.mul_le_mul_of_nonneg_right (by omega) (Int.le_of_lt p)
  rcases Num.may3 ms os with k | k | k
  · rw [k, Num.zero_W] at h
    have := Int.mul_nonneg (show 0 ≤ m by omega) (Int.le_of_lt p)
    omega
  · rw [k.W] at h ⊢
    have := k.hi; have := k.elo
    rcases Int.lt_or_le s.e e with g | g
    · have := lex_lt hm k.hi (by omega) g
      omega
    · exact up _ _ g h
  · rw [k, Num.inf_W] at h ⊢
    rcases Int.lt_or_le 1048640 e with g | g
    · have h1 := pw_lt (e := 1048640) (by decide) g
      have h2 : 1 * pw e ≤ m * pw e := Int.mul_le_mul_of_nonneg_right (by omega) (Int.le_of_lt p)
      have := pw_pos 1048640
      omega
    · have := up 1 1048640 g (by omega)
      omega

theorem W_nn (s : Num) (ms : s.may = true) (os : s.ok) : 0 ≤ s.W := by
  rcases Num.may3 ms os with k | k | k
  · rw [k, Num.zero_W]; exact Int.le_refl _
  · exact Int.le_of_lt k.lt.1
  · rw [k, Num.inf_W]; exact Int.le_of_lt (pw_pos _)

theorem W_huge {s : Num} (ms : s.may = true) (os : s.ok) (ks : s.kind ≠ 2) : s.W ≤ 18446744073709551615 * pw 1048576 := by
  rcases Num.may3 ms os with k | k | k
  · rw [k, Num.zero_W]; exact Int.mul_nonneg (by decide) (Int.le_of_lt (pw_pos _))
  · rw [k.W]
    have h1 := k.hi; have h2 := k.lo; have h3 := k.elo; have h4 := k.ehi
    have h5 : s.m * pw s.e ≤ 18446744073709551615 * pw s.e := Int.mul_le_mul_of_nonneg_right (by omega) (Int.le_of_lt (pw_pos _))
    have h6 : 18446744073709551615 * pw s.e ≤ 18446744073709551615 * pw 1048576 := Int.mul_le_mul_of_nonneg_left (pw_mono (by omega) h4) (by decide)
    omega
  · rw [k] at ks; simp [Num.inf] at ks

theorem W_tiny {s : Num} (ms : s.may = true) (os : s.ok) (h : 0 < s.W) : 9223372036854775808 * pw (-1048576) ≤ s.W := by
  rcases Num.may3 ms os with k | k | k
  · rw [k, Num.zero_W] at h; omega
  · rw [k.W]
    have h1 := k.hi; have h2 := k.lo; have h3 := k.elo; have h4 := k.ehi
    have h5 : 9223372036854775808 * pw s.e ≤ s.m * pw s.e := Int.mul_le_mul_of_nonneg_right h2 (Int.le_of_lt (pw_pos _))
    have h6 : 9223372036854775808 * pw (-1048576) ≤ 9223372036854775808 * pw s.e := Int.mul_le_mul_of_nonneg_left (pw_mono (by decide) h3) (by decide)
    omega
  · rw [k, Num.inf_W]
    have h6 : pw (-1048576 + 63) ≤ pw 1048640 := pw_mono (by decide) (by decide)
    rw [pw_63 (by decide)] at h6
    omega

theorem mag_dn {neg cut : Bool} {m e : Int} (hm : 9223372036854775808 ≤ m) (hm' : m < 18446744073709551616) (he : -4194303 ≤ e) {s : Num} (ms : s.may = true) (os : s.ok) (ks : s.kind ≠ 2)
    (h : s.W < (m + 1) * pw e) : s.W ≤ (Num.grow neg m e cut false).W := by
  unfold Num.grow
  rw [if_neg (by simp)]
  unfold Num.bound
  by_cases h1 : 1048576 < e
  · rw [if_pos h1, if_neg (by decide)]
    exact W_huge ms os ks
  · rw [if_neg h1]
    by_cases h2 : e < -1048576
    · rw [if_pos h2, if_neg (by decide), Num.zero_W]
      rcases Int.lt_or_le 0 s.W with h3 | h3
      · have h4 := W_tiny ms os h3
        have h5 : (m + 1) * pw e ≤ 18446744073709551616 * pw e := Int.mul_le_mul_of_nonneg_right (by omega) (Int.le_of_lt (pw_pos _))
        have h6 := pw_lt (e := e) (f := -1048576) (by omega) h2
        omega
      · exact h3
    · rw [if_neg h2]
      have f : (Num.mk 1 neg m e).Fin := ⟨rfl, hm, hm', by show -1048576 ≤ e; omega, by show e ≤ 1048576; omega⟩
      rw [f.W]
      exact grid_dn ms os ks hm he h

theorem bound_up {neg : Bool} {m e : Int} (hm : 9223372036854775808 ≤ m) (hm' : m < 18446744073709551616) (he : -4194303 ≤ e) {s : Num} (ms : s.may = true) (os : s.ok)
    (h : m * pw e ≤ s.W) : (Num.bound neg m e true).W ≤ s.W := by
  unfold Num.bound
  by_cases h1 : 1048576 < e
  · rw [if_pos h1, if_pos rfl, Num.inf_W]
    have h2 : pw (1048577 + 63) ≤ pw (e + 63) := pw_mono (by decide) (by omega)
    rw [pw_63 (e := e) (by omega), show (1048577 + 63 : Int) = 1048640 by decide] at h2
    have h3 : 9223372036854775808 * pw e ≤ m * pw e := Int.mul_le_mul_of_nonneg_right hm (Int.le_of_lt (pw_pos _))
    omega
  · rw [if_neg h1]
    by_cases h2 : e < -1048576
    · rw [if_pos h2, if_pos rfl]
      have h3 : 0 < m * pw e := Int.mul_pos (by omega) (pw_pos _)
      exact W_tiny ms os (by omega)
    · rw [if_neg h2]
      have f : (Num.mk 1 neg m e).Fin := ⟨rfl, hm, hm', by show -1048576 ≤ e; omega, by show e ≤ 1048576; omega⟩
      rw [f.W]
      exact h

theorem mag_up {neg cut : Bool} {m e : Int} (hm : 9223372036854775808 ≤ m) (hm' : m < 18446744073709551616) (he : -4194303 ≤ e) (he' : e ≤ 4194303) {s : Num} (ms : s.may = true) (os : s.ok)
    (h : if cut then m * pw e < s.W else m * pw e ≤ s.W) : (Num.grow neg m e cut true).W ≤ s.W := by
  unfold Num.grow
  cases cut with
  | false =>
    rw [if_neg (by decide)] at h
    rw [if_neg (by decide)]
    exact bound_up hm hm' he ms os h
  | true =>
    rw [if_pos rfl] at h
    rw [if_pos (by decide)]
    have h' := grid_up ms os hm he h
    by_cases h0 : IntKind.u64.wrap (m + 1) = 0
    · rw [if_pos h0]
      have em : m + 1 = 18446744073709551616 := by rw [wu64] at h0; omega
      have ee : IntKind.i64.wrap (e + 1) = e + 1 := by rw [wi64]; omega
      rw [ee]
      have et : Num.top = 9223372036854775808 := rfl
      rw [et]
      refine bound_up (by omega) (by omega) (by omega) ms os ?_
      rw [pw_succ (by omega)]
      rw [em] at h'
      omega
    · rw [if_neg h0]
      have em : IntKind.u64.wrap (m + 1) = m + 1 := by rw [wu64] at h0 ⊢; omega
      have hlt : m + 1 < 18446744073709551616 := by rw [wu64] at h0; omega
      rw [em]
      exact bound_up (by omega) hlt (by omega) ms os h'

theorem Num.val_of {s : Num} (ms : s.may = true) (os : s.ok) : (0 ≤ s.val ∧ s.val = s.W) ∨ (s.val < 0 ∧ s.val = -s.W) := by
  have := W_nn s ms os
  unfold Num.val
  by_cases h : s.neg = true
  · rw [if_pos h]
    rcases Int.lt_or_le 0 s.W with g | g
    · right; omega
    · left; omega
  · rw [if_neg h]; left; omega

/-- THE RULE OF ROUNDING. -/
theorem grow_best {neg cut up : Bool} {m e T c : Int} (hm : 9223372036854775808 ≤ m) (hm' : m < 18446744073709551616) (he : -4194303 ≤ e) (he' : e ≤ 4194303) (hc : 0 < c)
    (h : if cut then m * pw e * c < T ∧ T < (m + 1) * pw e * c else T = m * pw e * c) : Best (Num.grow neg m e cut (up != neg)) up (if neg then -T else T) c := by
  have p := pw_pos e
  have p1 : 0 < m * pw e := Int.mul_pos (by omega) p
  have p2 : 0 < m * pw e * c := Int.mul_pos p1 hc
  have p3 : m * pw e * c ≤ T ∧ T < (m + 1) * pw e * c := by
    cases cut with
    | true => exact ⟨Int.le_of_lt h.1, h.2⟩
    | false =>
      have h : T = m * pw e * c := h
      have : (m + 1) * pw e * c = m * pw e * c + pw e * c := by grind
      have : 0 < pw e * c := Int.mul_pos p hc
      omega
  have S : Side (Num.grow neg m e cut (up != neg)) up (if neg then -T else T) c := by
    refine (grow_rnd (neg := neg) (cut := cut) (away := up != neg) hm hm' (e := e) he he').side p3.1 ?_ (by omega) (Int.le_of_lt hc)
    cases cut with
    | true => rw [if_pos rfl]; exact Int.le_of_lt p3.2
    | false => rw [if_neg (by decide)]; exact Int.le_of_eq h
  have dn : ∀ s : Num, s.may = true → s.ok → s.kind ≠ 2 → s.W * c ≤ T → s.W ≤ (Num.grow neg m e cut false).W := by
    intro s ms os ks hs
    refine mag_dn hm hm' he ms os ks ?_
    exact Int.lt_of_mul_lt_mul_right (a := c) (by omega) (Int.le_of_lt hc)
  have upw : ∀ s : Num, s.may = true → s.ok → T ≤ s.W * c → (Num.grow neg m e cut true).W ≤ s.W := by
    intro s ms os hs
    refine mag_up hm hm' he he' ms os ?_
    cases cut with
    | true => exact Int.lt_of_mul_lt_mul_right (a := c) (by have := h.1; omega) (Int.le_of_lt hc)
    | false =>
      have h : T = m * pw e * c := h
      exact Int.le_of_mul_le_mul_right (a := c) (by omega) hc
  have neg_mul : ∀ s : Num, -s.W * c = -(s.W * c) := fun s => Int.neg_mul _ _
  refine ⟨S.may, S.ok, S.down, ?_, ?_, S.up⟩
  · intro hu s ms os hs hv
    subst hu
    have R := grow_rnd (neg := neg) (cut := cut) (away := false != neg) hm hm' (e := e) he he'
    cases neg with
    | false =>
      have hr : (Num.grow false m e cut (false != false)).val = (Num.grow false m e cut false).W := by
        rcases R.neg with k | k
        · have : (Num.grow false m e cut (false != false)).W = 0 := by unfold Num.W; rw [if_pos k]
          rcases Num.val_of R.may R.ok with q | q
          · exact q.2
          · show _ = (Num.grow false m e cut (false != false)).W
            omega
        · unfold Num.val; rw [if_neg (by rw [k]; decide)]; rfl
      rw [hr]
      have r0 := W_nn _ R.may R.ok
      rcases Num.val_of ms os with q | q
      · rw [q.2]
        refine dn s ms os ?_ (by rw [← q.2]; exact hv)
        intro k
        have e1 := Num.inf_of ms os k
        cases hn : s.neg with
        | false => exact hs (by rw [e1, hn])
        | true =>
          rw [e1, hn, Num.val_inf] at q
          have := pw_pos 1048640
          simp at q
          omega
      · have : 0 ≤ s.W := W_nn s ms os
        show s.val ≤ (Num.grow false m e cut (false != false)).W
        omega
    | true =>
      have hr : (Num.grow true m e cut (false != true)).val = -(Num.grow true m e cut true).W := by
        rcases R.neg with k | k
        · exact absurd k (R.up rfl).1
        · unfold Num.val; rw [if_pos k]; rfl
      rw [hr]
      simp only [if_true] at hv
      rcases Num.val_of ms os with q | q
      · exfalso
        have := Int.mul_nonneg q.1 (Int.le_of_lt hc)
        omega
      · rw [q.2] at hv ⊢
        rw [neg_mul] at hv
        have := upw s ms os (by omega)
        omega
  · intro hu s ms os hs hv
    subst hu
    have R := grow_rnd (neg := neg) (cut := cut) (away := true != neg) hm hm' (e := e) he he'
    cases neg with
    | false =>
      have hr : (Num.grow false m e cut (true != false)).val = (Num.grow false m e cut true).W := by
        rcases R.neg with k | k
        · exact absurd k (R.up rfl).1
        · unfold Num.val; rw [if_neg (by rw [k]; decide)]; rfl
      rw [hr]
      simp only [Bool.false_eq_true, if_false] at hv
      rcases Num.val_of ms os with q | q
      · rw [q.2] at hv ⊢
        exact upw s ms os hv
      · exfalso
        have := Int.mul_nonneg (W_nn s ms os) (Int.le_of_lt hc)
        rw [q.2, neg_mul] at hv
        omega
    | true =>
      have hr : (Num.grow true m e cut (true != true)).val = -(Num.grow true m e cut false).W := by
        rcases R.neg with k | k
        · have : (Num.grow true m e cut (true != true)).W = 0 := by unfold Num.W; rw [if_pos k]
          rcases Num.val_of R.may R.ok with q | q
          · show _ = -(Num.grow true m e cut (true != true)).W
            omega
          · exact q.2
        · unfold Num.val; rw [if_pos k]; rfl
      rw [hr]
      have r0 := W_nn _ R.may R.ok
      simp only [if_true] at hv
      rcases Num.val_of ms os with q | q
      · have : 0 ≤ s.W := W_nn s ms os
        show -(Num.grow true m e cut (true != true)).W ≤ s.val
        omega
      · rw [q.2] at hv ⊢
        rw [neg_mul] at hv
        have := dn s ms os (by
          intro k
          have e1 := Num.inf_of ms os k
          cases hn : s.neg with
          | true => exact hs (by rw [e1, hn])
          | false =>
            rw [e1, hn, Num.val_inf] at q
            have := pw_pos 1048640
            simp at q
            omega) (by omega)
        omega
end Go.Proofs.YtpadpcjdakfokaaDoor.Ev

/- Products, quotients and sums are rounded as they ought to be: plain Lean. -/
namespace Go.Proofs.YtpadpcjdakfokaaDoor.Ev
open Go

theorem cut_div {N d P e c : Int} (hd : 0 < d) (hP : 0 < P) (hs : pw e * c = d * P) :
    if decide (N % d ≠ 0) = true then N / d * pw e * c < N * P ∧ N * P < (N / d + 1) * pw e * c else N * P = N / d * pw e * c := by
  have e1 := Int.mul_ediv_add_emod N d
  have e2 := Int.emod_nonneg N (show d ≠ 0 by omega)
  have e3 := Int.emod_lt_of_pos N hd
  have a1 : ∀ q : Int, q * pw e * c = d * q * P := fun q => by rw [Int.mul_assoc, hs]; grind
  rw [a1, a1]
  split
  · rename_i h
    simp only [decide_eq_true_eq] at h
    constructor
    · exact Int.mul_lt_mul_of_pos_right (by omega) hP
    · refine Int.mul_lt_mul_of_pos_right ?_ hP
      have : d * (N / d + 1) = d * (N / d) + d := by grind
      omega
  · rename_i h
    simp only [decide_eq_true_eq, Classical.not_not] at h
    congr 1
    omega

/-- rounded to 64 bits: N / d, of a scale -/
theorem grow_div {neg up : Bool} {N d P e c : Int} (hd : 0 < d) (hP : 0 < P) (hs : pw e * c = d * P) (hc : 0 < c) (h1 : 9223372036854775808 ≤ N / d) (h2 : N / d < 18446744073709551616) (he : -4194303 ≤ e) (he' : e ≤ 4194303) :
    Best (Num.grow neg (N / d) e (decide (N % d ≠ 0)) (up != neg)) up (if neg then -(N * P) else N * P) c :=
  grow_best h1 h2 he he' hc (cut_div hd hP hs)

theorem mulF_best {a b : Num} (ha : a.Fin) (hb : b.Fin) (up : Bool) : Best (Num.mulF a b up) up (a.val * b.val) (pw 0) := by
  rw [Num.Fin.val_mul]
  have := ha.lo; have := ha.hi; have := ha.elo; have := ha.ehi
  have := hb.lo; have := hb.hi; have := hb.elo; have := hb.ehi
  have m1 : 9223372036854775808 * 9223372036854775808 ≤ a.m * b.m := Int.mul_le_mul ha.lo hb.lo (by decide) (by omega)
  have m2 : a.m * b.m ≤ 18446744073709551615 * 18446744073709551615 := Int.mul_le_mul (by omega) (by omega) (by omega) (by decide)
  have eW : a.W * b.W = a.m * b.m * (pw (a.e + b.e) * pw 0) := by
    rw [ha.W, hb.W]
    have e := pw_mul (e := a.e) (f := b.e) (by omega) (by omega) (by omega)
    have e1 : a.m * pw a.e * (b.m * pw b.e) = a.m * b.m * (pw a.e * pw b.e) := by grind
    rw [e1, e]; grind
  have p := pw_pos (a.e + b.e)
  have p0 := pw_pos 0
  have pp := Int.mul_pos p p0
  unfold Num.mulF
  rw [eW]
  generalize a.m * b.m = p' at *
  split
  · exact grow_div (by decide) pp (by rw [pw_63 (by omega)]; grind) p0 (by omega) (by omega) (by omega) (by omega)
  · exact grow_div (by decide) pp (by rw [pw_64 (by omega)]; grind) p0 (by omega) (by omega) (by omega) (by omega)

theorem div_bounds {N d : Int} (hd : 0 < d) {l u : Int} (h1 : d * l ≤ N) (h2 : N < d * u) : l ≤ N / d ∧ N / d < u :=
  ⟨(Int.le_ediv_iff_mul_le hd).2 (by rw [Int.mul_comm]; exact h1), Int.ediv_lt_of_lt_mul hd (by rw [Int.mul_comm]; exact h2)⟩

theorem divF_best {a b : Num} (ha : a.Fin) (hb : b.Fin) (up : Bool) : Best (Num.divF a b up) up (if (a.neg != b.neg) then -(a.W * pw 0) else a.W * pw 0) b.W := by
  have := ha.lo; have := ha.hi; have := ha.elo; have := ha.ehi
  have := hb.lo; have := hb.hi; have := hb.elo; have := hb.ehi
  have p0 := pw_pos 0
  have hb0 : 0 < b.m := by omega
  unfold Num.divF
  split
  · rename_i h
    have ET : a.W * pw 0 = (a.m * 9223372036854775808) * (pw (a.e - 63) * pw 0) := by
      rw [ha.W]
      have e := pw_63 (e := a.e - 63) (by omega)
      rw [show a.e - 63 + 63 = a.e by omega] at e
      rw [e]; grind
    have pp : 0 < pw (a.e - 63) * pw 0 := Int.mul_pos (pw_pos _) p0
    obtain ⟨q1, q2⟩ := div_bounds (N := a.m * 9223372036854775808) hb0 (l := 9223372036854775808) (u := 18446744073709551616) (by omega) (by omega)
    rw [ET]
    refine grow_div hb0 pp ?_ hb.lt.1 q1 q2 (by omega) (by omega)
    rw [hb.W]
    have e := pw_mul (e := b.e) (f := a.e - b.e - 63) (by omega) (by omega) (by omega)
    rw [show b.e + (a.e - b.e - 63) = a.e - 63 by omega] at e
    have e' : pw (a.e - b.e - 63) * (b.m * pw b.e) = b.m * (pw b.e * pw (a.e - b.e - 63)) := by grind
    rw [e', e]; grind
  · rename_i h
    have ET : a.W * pw 0 = (a.m * 18446744073709551616) * (pw (a.e - 64) * pw 0) := by
      rw [ha.W]
      have e := pw_64 (e := a.e - 64) (by omega)
      rw [show a.e - 64 + 64 = a.e by omega] at e
      rw [e]; grind
    have pp : 0 < pw (a.e - 64) * pw 0 := Int.mul_pos (pw_pos _) p0
    obtain ⟨q1, q2⟩ := div_bounds (N := a.m * 18446744073709551616) hb0 (l := 9223372036854775808) (u := 18446744073709551616) (by omega) (by omega)
    rw [ET]
    refine grow_div hb0 pp ?_ hb.lt.1 q1 q2 (by omega) (by omega)
    rw [hb.W]
    have e := pw_mul (e := b.e) (f := a.e - b.e - 64) (by omega) (by omega) (by omega)
    rw [show b.e + (a.e - b.e - 64) = a.e - 64 by omega] at e
    have e' : pw (a.e - b.e - 64) * (b.m * pw b.e) = b.m * (pw b.e * pw (a.e - b.e - 64)) := by grind
    rw [e', e]; grind

/-! ### sums -/
/-- what is cut off in two steps is what is cut off in one -/
theorem cut_two {N K D : Int} (hK : 0 < K) (hD : 0 < D) : N / K / D = N / (K * D) ∧ (decide (N % K ≠ 0) || decide (N / K % D ≠ 0)) = decide (N % (K * D) ≠ 0) := by
  have h0 : N / K / D = N / (K * D) := Int.ediv_ediv_of_nonneg (Int.le_of_lt hK)
  refine ⟨h0, ?_⟩
  have h : N % (K * D) = N % K + K * (N / K % D) := by
    have e1 := Int.mul_ediv_add_emod N K
    have e2 := Int.mul_ediv_add_emod (N / K) D
    have e3 := Int.mul_ediv_add_emod N (K * D)
    rw [h0] at e2
    have e4 : K * (D * (N / (K * D)) + N / K % D) = K * D * (N / (K * D)) + K * (N / K % D) := by rw [Int.mul_add, Int.mul_assoc]
    rw [e2] at e4
    omega
  have h1 := Int.emod_nonneg N (show K ≠ 0 by omega)
  have h2 := Int.emod_nonneg (N / K) (show D ≠ 0 by omega)
  have h3 : 0 ≤ K * (N / K % D) := Int.mul_nonneg (Int.le_of_lt hK) h2
  have h4 : N / K % D ≠ 0 → 0 < K * (N / K % D) := fun g => Int.mul_pos hK (by omega)
  rw [← Bool.decide_or, decide_eq_decide, h]
  generalize N / K % D = y at *
  by_cases g : y = 0
  · subst g; simp
  · have := h4 g
    constructor
    · intro _; omega
    · intro _; exact .inr g

theorem plus_eq {a b : Num} : plusX a b = (a.m * 2 ^ (a.e - b.e).toNat + b.m) * 18446744073709551616 / 2 ^ (a.e - b.e).toNat ∧ plusC a b = decide ((a.m * 2 ^ (a.e - b.e).toNat + b.m) * 18446744073709551616 % 2 ^ (a.e - b.e).toNat ≠ 0) := by
  have p := two_pos (a.e - b.e).toNat
  have e : (a.m * 2 ^ (a.e - b.e).toNat + b.m) * 18446744073709551616 = b.m * 18446744073709551616 + a.m * 18446744073709551616 * 2 ^ (a.e - b.e).toNat := by grind
  unfold plusX plusC
  rw [e]
  constructor
  · rw [Int.add_mul_ediv_right _ _ (by omega), Int.add_comm]
  · rw [Int.add_mul_emod_self_right]

theorem same_div {N M K D : Int} (hM : 0 < M) : N * M / (K * (M * D)) = N / (K * D) ∧ decide (N * M % (K * (M * D)) ≠ 0) = decide (N % (K * D) ≠ 0) := by
  have e : K * (M * D) = M * (K * D) := Int.mul_left_comm ..
  rw [e, Int.mul_comm N M]
  constructor
  · exact Int.mul_ediv_mul_of_pos _ _ hM
  · rw [Int.mul_emod_mul_of_pos _ _ hM, decide_eq_decide]
    constructor
    · intro h g; exact h (by rw [g]; simp)
    · intro h g
      rcases Int.mul_eq_zero.1 g with q | q
      · omega
      · exact h q

theorem plusP_best {a b : Num} (ha : a.Fin) (hb : b.Fin) (hk : b.e ≤ a.e) (hs : a.neg = b.neg) (up : Bool) : Best (plusP a b up) up (a.val + b.val) 1 := by
  have := ha.lo; have := ha.hi; have := ha.elo; have := ha.ehi
  have := hb.lo; have := hb.hi; have := hb.elo; have := hb.ehi
  have p := two_pos (a.e - b.e).toNat
  have pb := pw_pos b.e
  have ea := pw_split (e := b.e) (f := a.e) (by omega) hk
  have hv : a.val + b.val = if a.neg then -((a.m * 2 ^ (a.e - b.e).toNat + b.m) * pw b.e) else (a.m * 2 ^ (a.e - b.e).toNat + b.m) * pw b.e := by
    unfold Num.val
    rw [← hs, ha.W, hb.W, ea]
    cases a.neg <;> simp <;> grind
  rw [hv]
  unfold plusP
  rw [plus_eq.1, plus_eq.2]
  generalize hN : a.m * 2 ^ (a.e - b.e).toNat + b.m = N at *
  have b1 : 2 ^ (a.e - b.e).toNat * 9223372036854775808 ≤ N := by
    have : 9223372036854775808 * 2 ^ (a.e - b.e).toNat ≤ a.m * 2 ^ (a.e - b.e).toNat := Int.mul_le_mul_of_nonneg_right (by omega) (Int.le_of_lt p)
    omega
  have b2 : N < 2 ^ (a.e - b.e).toNat * 36893488147419103232 := by
    have h1 : a.m * 2 ^ (a.e - b.e).toNat ≤ 18446744073709551615 * 2 ^ (a.e - b.e).toNat := Int.mul_le_mul_of_nonneg_right (by omega) (Int.le_of_lt p)
    omega
  generalize (2 : Int) ^ (a.e - b.e).toNat = K at *
  obtain ⟨q1, q2⟩ := cut_two (N := N * 18446744073709551616) (K := K) (D := 18446744073709551616) p (by decide)
  obtain ⟨q3, q4⟩ := cut_two (N := N * 18446744073709551616) (K := K) (D := 36893488147419103232) p (by decide)
  obtain ⟨r1, r2⟩ := same_div (N := N) (M := 18446744073709551616) (K := K) (D := 1) (by decide)
  obtain ⟨r3, r4⟩ := same_div (N := N) (M := 18446744073709551616) (K := K) (D := 2) (by decide)
  rw [show (18446744073709551616 : Int) * 1 = 18446744073709551616 by decide] at r1 r2
  rw [show (18446744073709551616 : Int) * 2 = 36893488147419103232 by decide] at r3 r4
  rw [q2, q4, q1, q3, r1, r2, r3, r4, Int.mul_one]
  split
  · rename_i h
    have h3 : N / K < 18446744073709551616 := by
      rw [← Int.mul_one K, ← r1, ← q1]
      exact Int.ediv_lt_of_lt_mul (by decide) (by omega)
    exact grow_div p pb (by rw [ea]; grind) (by decide) (div_bounds p b1 b2).1 h3 (by omega) (by omega)
  · rename_i h
    have h3 : 9223372036854775808 ≤ N / (K * 2) := by
      rw [← r3, ← q3]
      exact (Int.le_ediv_iff_mul_le (by decide)).2 (by omega)
    exact grow_div (by omega) pb (by rw [pw_succ (by omega), ea]; grind) (by decide) h3 (Int.ediv_lt_of_lt_mul (by omega) (by omega)) (by omega) (by omega)

theorem neg_div {x K : Int} (hK : 0 < K) : (-x) / K = -(x / K) - (if decide (x % K ≠ 0) = true then 1 else 0) ∧ decide ((-x) % K ≠ 0) = decide (x % K ≠ 0) := by
  have e1 := Int.mul_ediv_add_emod x K
  have e2 := Int.emod_nonneg x (show K ≠ 0 by omega)
  have e3 := Int.emod_lt_of_pos x hK
  have f1 := Int.mul_ediv_add_emod (-x) K
  have f2 := Int.emod_nonneg (-x) (show K ≠ 0 by omega)
  have f3 := Int.emod_lt_of_pos (-x) hK
  have g : K * (x / K + (-x) / K) = -(x % K + (-x) % K) := by rw [Int.mul_add]; omega
  generalize x / K = p at *
  generalize (-x) / K = q at *
  generalize x % K = r at *
  generalize (-x) % K = s at *
  have h1 : p + q ≤ 0 := by
    rcases Int.lt_or_le 0 (p + q) with h | h
    · have := Int.mul_le_mul_of_nonneg_left (c := K) (show 1 ≤ p + q by omega) (by omega)
      omega
    · exact h
  have h2 : -1 ≤ p + q := by
    rcases Int.lt_or_le (p + q) (-1) with h | h
    · have := Int.mul_le_mul_of_nonneg_left (c := K) (show p + q ≤ -2 by omega) (by omega)
      omega
    · exact h
  rcases (show p + q = 0 ∨ p + q = -1 by omega) with h | h
  · rw [h] at g
    simp only [Int.mul_zero] at g
    have hr : r = 0 := by omega
    have hs : s = 0 := by omega
    subst hr; subst hs
    exact ⟨by simp; omega, rfl⟩
  · rw [h] at g
    have hr : r ≠ 0 := by intro hr; omega
    have hs : s ≠ 0 := by intro hs; omega
    exact ⟨by simp [hr]; omega, by simp [hr, hs]⟩

theorem minus_eq {a b : Num} : minusZ a b = (a.m * 2 ^ (a.e - b.e).toNat - b.m) * 18446744073709551616 / 2 ^ (a.e - b.e).toNat ∧
    plusC a b = decide ((a.m * 2 ^ (a.e - b.e).toNat - b.m) * 18446744073709551616 % 2 ^ (a.e - b.e).toNat ≠ 0) := by
  have p := two_pos (a.e - b.e).toNat
  have e : (a.m * 2 ^ (a.e - b.e).toNat - b.m) * 18446744073709551616 = -(b.m * 18446744073709551616) + a.m * 18446744073709551616 * 2 ^ (a.e - b.e).toNat := by grind
  obtain ⟨n1, n2⟩ := neg_div (x := b.m * 18446744073709551616) p
  unfold minusZ plusC
  rw [e]
  constructor
  · rw [Int.add_mul_ediv_right _ _ (by omega), n1]
    omega
  · rw [Int.add_mul_emod_self_right, n2]

theorem minusP_best {a b : Num} (ha : a.Fin) (hb : b.Fin) (hk : b.e ≤ a.e) (hgt : b.e < a.e ∨ b.m < a.m) (hs : a.neg ≠ b.neg) (up : Bool) : Best (minusP a b up) up (a.val + b.val) 1 := by
  have := ha.lo; have := ha.hi; have := ha.elo; have := ha.ehi
  have := hb.lo; have := hb.hi; have := hb.elo; have := hb.ehi
  have p := two_pos (a.e - b.e).toNat
  have ea := pw_split (e := b.e) (f := a.e) (by omega) hk
  have hv : a.val + b.val = if a.neg then -((a.m * 2 ^ (a.e - b.e).toNat - b.m) * 18446744073709551616 * pw (b.e - 64)) else (a.m * 2 ^ (a.e - b.e).toNat - b.m) * 18446744073709551616 * pw (b.e - 64) := by
    have e64 := pw_64 (e := b.e - 64) (by omega)
    rw [show b.e - 64 + 64 = b.e by omega] at e64
    have : (a.m * 2 ^ (a.e - b.e).toNat - b.m) * 18446744073709551616 * pw (b.e - 64) = a.m * pw a.e - b.m * pw b.e := by rw [ea, e64]; grind
    rw [this]
    unfold Num.val
    rw [ha.W, hb.W]
    have hbn : b.neg = !a.neg := by cases h : a.neg <;> cases h2 : b.neg <;> simp_all
    rw [hbn]
    cases a.neg <;> simp <;> omega
  obtain ⟨z0, z1, _, _, _⟩ := minus_parts ha hb hk hgt rfl rfl rfl rfl rfl
  obtain ⟨n, k1, k2, k3⟩ := blen_pos z0
  have bl := blen_le 128 (x := minusZ a b) (by exact z1)
  have pb := pw_pos (b.e - 64)
  rw [hv]
  unfold minusP
  obtain ⟨hZ, hC⟩ := minus_eq (a := a) (b := b)
  have hKN : a.m * 2 ^ (a.e - b.e).toNat - b.m ≥ 9223372036854775808 * 2 ^ (a.e - b.e).toNat - 18446744073709551616 := by
    have : 9223372036854775808 * 2 ^ (a.e - b.e).toNat ≤ a.m * 2 ^ (a.e - b.e).toNat := Int.mul_le_mul_of_nonneg_right (by omega) (Int.le_of_lt p)
    omega
  rw [hC]
  generalize hN : (a.m * 2 ^ (a.e - b.e).toNat - b.m) * 18446744073709551616 = N at *
  generalize minusZ a b = Z at *
  have big1 : 170141183460469231731687303715884105728 ≤ Z * 2 ^ (128 - blen Z).toNat := by
    have g : (170141183460469231731687303715884105728 : Int) = 2 ^ n * 2 ^ (128 - blen Z).toNat := by
      rw [← Int.pow_add, show n + (128 - blen Z).toNat = 127 by omega]; rfl
    rw [g]
    exact Int.mul_le_mul_of_nonneg_right k2 (Int.le_of_lt (two_pos _))
  have big2 : Z * 2 ^ (128 - blen Z).toNat < 340282366920938463463374607431768211456 := by
    have g : (340282366920938463463374607431768211456 : Int) = 2 ^ (n + 1) * 2 ^ (128 - blen Z).toNat := by
      rw [← Int.pow_add, show n + 1 + (128 - blen Z).toNat = 128 by omega]; rfl
    rw [g]
    exact Int.mul_lt_mul_of_pos_right k3 (two_pos _)
  have m1 : 9223372036854775808 ≤ Z * 2 ^ (128 - blen Z).toNat / 18446744073709551616 := by omega
  have m2 : Z * 2 ^ (128 - blen Z).toNat / 18446744073709551616 < 18446744073709551616 := by omega
  generalize hS : 128 - blen Z = s at *
  have s0 : 0 ≤ s := by omega
  by_cases h64 : s ≤ 64
  · have e64 := two_64 (k := s) s0 h64
    have q := two_pos s.toNat
    have q' := two_pos (64 - s).toNat
    obtain ⟨r1, r2⟩ := same_div (N := Z) (M := 2 ^ s.toNat) (K := 1) (D := 2 ^ (64 - s).toNat) q
    rw [Int.one_mul, Int.one_mul, Int.mul_comm (2 ^ s.toNat) (2 ^ (64 - s).toNat), ← e64] at r1 r2
    rw [r1] at m1 m2 ⊢
    rw [r2]
    obtain ⟨c1, c2⟩ := cut_two (N := N) (K := 2 ^ (a.e - b.e).toNat) (D := 2 ^ (64 - s).toNat) p q'
    rw [hZ] at m1 m2 ⊢
    rw [c1] at m1 m2
    rw [c1, c2]
    refine grow_div (Int.mul_pos p q') pb ?_ (by decide) m1 m2 (by omega) (by omega)
    rw [Int.mul_one, pw_split (e := b.e - 64) (f := a.e - s) (by omega) (by omega)]
    congr 1
    rw [← Int.pow_add]
    congr 1
    omega
  · have hz64 : Z < 18446744073709551616 := by
      have : (2 : Int) ^ (n + 1) ≤ 2 ^ 64 := by
        have := Nat.pow_le_pow_right (n := 2) (by omega) (show n + 1 ≤ 64 by omega)
        have e1 : ((2 ^ (n + 1) : Nat) : Int) = (2 : Int) ^ (n + 1) := by push_cast; rfl
        rw [← e1]; exact Int.ofNat_le.2 this
      have e2 : (2 : Int) ^ 64 = 18446744073709551616 := by decide
      omega
    have hcf : N % 2 ^ (a.e - b.e).toNat = 0 := by
      by_cases hk64 : a.e - b.e ≤ 64
      · have e64 := two_64 (k := a.e - b.e) (by omega) hk64
        rw [← hN, e64, ← Int.mul_assoc, Int.mul_emod_left]
      · exfalso
        have hK : 36893488147419103232 ≤ (2 : Int) ^ (a.e - b.e).toNat := by
          have := Nat.pow_le_pow_right (n := 2) (by omega) (show 65 ≤ (a.e - b.e).toNat by omega)
          have e1 : ((2 ^ (a.e - b.e).toNat : Nat) : Int) = (2 : Int) ^ (a.e - b.e).toNat := by push_cast; rfl
          rw [← e1]; exact Int.ofNat_le.2 this
        have : 18446744073709551616 ≤ N / 2 ^ (a.e - b.e).toNat := by
          refine (Int.le_ediv_iff_mul_le p).2 ?_
          rw [← hN]
          generalize (2 : Int) ^ (a.e - b.e).toNat = K at *
          generalize a.m * K - b.m = M at *
          omega
        omega
    have e1 : Z * 2 ^ s.toNat = Z * 2 ^ (s - 64).toNat * 18446744073709551616 := by
      rw [Int.mul_assoc]
      congr 1
      rw [show (18446744073709551616 : Int) = 2 ^ 64 by decide, ← Int.pow_add]
      congr 1
      omega
    have e2 : Z * 2 ^ s.toNat % 18446744073709551616 = 0 := by rw [e1]; exact Int.mul_emod_left _ _
    have e3 : Z * 2 ^ s.toNat / 18446744073709551616 = Z * 2 ^ (s - 64).toNat := by rw [e1]; exact Int.mul_ediv_cancel _ (by decide)
    rw [hcf, e2]
    refine grow_best (cut := _) m1 m2 (by omega) (by omega) (by decide) ?_
    simp only [ne_eq, not_true_eq_false, decide_false, Bool.or_self, Bool.false_eq_true, if_false]
    rw [e3, Int.mul_one]
    have e4 : N = Z * 2 ^ (a.e - b.e).toNat := by
      have := Int.mul_ediv_add_emod N (2 ^ (a.e - b.e).toNat)
      rw [← hZ, hcf] at this
      rw [Int.mul_comm Z]
      omega
    have e5 := pw_split (e := b.e - 64) (f := a.e - 64) (by omega) (by omega)
    rw [show a.e - 64 - (b.e - 64) = a.e - b.e by omega] at e5
    have e6 := pw_split (e := a.e - s) (f := a.e - 64) (by omega) (by omega)
    rw [show a.e - 64 - (a.e - s) = s - 64 by omega] at e6
    rw [e4, Int.mul_assoc, ← e5, e6, Int.mul_assoc]

/-! ### the operations on any numbers -/
theorem Best.self {r : Num} {up : Bool} (m : r.may = true) (o : r.ok) (k : r.kind ≠ 2) {t c : Int} (hc : 0 < c) (ht : r.val * c = t) : Best r up t c := by
  have n : ∀ b, r ≠ Num.inf b := fun b g => k (by rw [g]; rfl)
  refine ⟨m, o, fun _ => ⟨n _, .inr (by omega)⟩, fun _ x _ _ _ hx => ?_, fun _ x _ _ _ hx => ?_, fun _ => ⟨n _, .inr (by omega)⟩⟩
  · exact Int.le_of_mul_le_mul_right (a := c) (by omega) hc
  · exact Int.le_of_mul_le_mul_right (a := c) (by omega) hc

theorem Num.fair_fin {a : Num} (oa : a.ok) (k0 : a.fair.kind ≠ 0) (k2 : a.fair.kind ≠ 2) : a.fair.Fin := by
  rcases Num.may3 a.fair_may (Num.fair_ok oa) with h | h | h
  · rw [h] at k0; simp [Num.zero] at k0
  · exact h
  · rw [h] at k2; simp [Num.inf] at k2
theorem Num.fair_zero {a : Num} (oa : a.ok) (k0 : a.fair.kind = 0) : a.fair = Num.zero := by
  rcases Num.may3 a.fair_may (Num.fair_ok oa) with h | h | h
  · exact h
  · have := h.kind; omega
  · rw [h] at k0; simp [Num.inf] at k0

theorem mul_best {a b : Num} (oa : a.ok) (ob : b.ok) (ka : a.fair.kind ≠ 2) (kb : b.fair.kind ≠ 2) (up : Bool) : Best (Num.mul a b up) up (a.fair.val * b.fair.val) (pw 0) := by
  unfold Num.mul
  by_cases h : a.fair.kind = 0 ∨ b.fair.kind = 0
  · rw [if_pos h]
    refine Best.self Num.zero_may Num.zero_ok (by decide) (pw_pos 0) ?_
    rw [Num.val_zero]
    rcases h with h | h
    · rw [Num.fair_zero oa h, Num.val_zero]; simp
    · rw [Num.fair_zero ob h, Num.val_zero]; simp
  · rw [if_neg h, if_neg (by omega)]
    exact mulF_best (Num.fair_fin oa (by omega) ka) (Num.fair_fin ob (by omega) kb) up

theorem addS_best {a b : Num} (ha : a.Fin) (hb : b.Fin) (hk : b.e < a.e ∨ (b.e = a.e ∧ b.m ≤ a.m)) (up : Bool) : Best (Num.addS a b up) up (a.val + b.val) 1 := by
  unfold Num.addS
  split
  · exact plusP_best ha hb (by omega) ‹_› up
  · rename_i hn
    split
    · rename_i h
      refine Best.self Num.zero_may Num.zero_ok (by decide) (by decide) ?_
      rw [Num.val_zero]
      unfold Num.val
      rw [ha.W, hb.W, h.1, h.2]
      have hbn : b.neg = !a.neg := by cases h : a.neg <;> cases h2 : b.neg <;> simp_all
      rw [hbn]
      cases a.neg <;> simp <;> omega
    · exact minusP_best ha hb (by omega) (by omega) hn up

theorem add_best {a b : Num} (oa : a.ok) (ob : b.ok) (ka : a.fair.kind ≠ 2) (kb : b.fair.kind ≠ 2) (up : Bool) : Best (Num.add a b up) up (a.fair.val + b.fair.val) 1 := by
  unfold Num.add
  rw [if_neg (by omega)]
  split
  · rename_i h
    have h : b.fair.kind = 0 := by omega
    exact Best.self a.fair_may (Num.fair_ok oa) ka (by decide) (by rw [Num.fair_zero ob h, Num.val_zero]; omega)
  · split
    · rename_i h
      have h : a.fair.kind = 0 := by omega
      exact Best.self b.fair_may (Num.fair_ok ob) kb (by decide) (by rw [Num.fair_zero oa h, Num.val_zero]; omega)
    · have FA := Num.fair_fin oa (by omega) ka
      have FB := Num.fair_fin ob (by omega) kb
      unfold Num.addF
      split
      · rw [Int.add_comm]; exact addS_best FB FA (by omega) up
      · exact addS_best FA FB (by omega) up

theorem div_best {a b : Num} (oa : a.ok) (ob : b.ok) (ka : a.fair.kind ≠ 2) (kb : b.fair.kind = 1) (up : Bool) : Best (Num.div a b up) up (if b.fair.neg then -(a.fair.val * pw 0) else a.fair.val * pw 0) b.fair.W := by
  have FB := Num.fair_fin ob (by omega) (by omega)
  unfold Num.div
  rw [if_neg (by omega)]
  split
  · rename_i h
    have h : a.fair.kind = 0 := by omega
    refine Best.self Num.zero_may Num.zero_ok (by decide) FB.lt.1 ?_
    rw [Num.fair_zero oa h, Num.val_zero]
    split <;> simp
  · have FA := Num.fair_fin oa (by omega) ka
    have := divF_best FA FB up
    have e : (if b.fair.neg then -(a.fair.val * pw 0) else a.fair.val * pw 0) = (if (a.fair.neg != b.fair.neg) then -(a.fair.W * pw 0) else a.fair.W * pw 0) := by
      unfold Num.val
      cases a.fair.neg <;> cases b.fair.neg <;> simp [Int.neg_mul]
    rw [e]
    exact this
end Go.Proofs.YtpadpcjdakfokaaDoor.Ev

/- The reference's rounding is the best; its products and quotients are the program's: plain Lean. -/
namespace Go.Proofs.YtpadpcjdakfokaaDoor.Ev
open Go

/-- an odd number times a power of two, as a value -/
def dyv (p : Bool × Nat × Int) : Int := if p.1 then -((p.2.1 : Int) * pw p.2.2) else (p.2.1 : Int) * pw p.2.2
theorem Best.scale {r : Num} {up : Bool} {t c : Int} (h : Best r up t 1) (hc : 0 < c) : Best r up (t * c) c := by
  refine ⟨h.may, h.ok, fun u => ⟨(h.down u).1, ?_⟩, fun u s ms os ks hs => ?_, fun u s ms os ks hs => ?_, fun u => ⟨(h.hi u).1, ?_⟩⟩
  · rcases (h.down u).2 with k | k
    · exact .inl k
    · exact .inr (Int.mul_le_mul_of_nonneg_right (by omega) (Int.le_of_lt hc))
  · exact h.dopt u s ms os ks (by have := Int.le_of_mul_le_mul_right hs hc; omega)
  · exact h.uopt u s ms os ks (by have := Int.le_of_mul_le_mul_right hs hc; omega)
  · rcases (h.hi u).2 with k | k
    · exact .inl k
    · exact .inr (Int.mul_le_mul_of_nonneg_right (by omega) (Int.le_of_lt hc))

theorem dyMake_odd {ng : Bool} {k : Nat} {e : Int} (hk : k % 2 = 1) (he : -4194304 ≤ e) (he' : e ≤ 4194304) : dyMake ng k e = (ng, k, e) := by
  unfold dyMake
  have v : v2 k = 0 := v2_odd (by omega)
  rw [if_neg (by omega), if_neg (by omega), v]
  simp
theorem dyMake_zero (ng : Bool) (e : Int) : dyMake ng 0 e = (false, 0, 0) := by unfold dyMake; rw [if_pos (.inl rfl)]
theorem v2_blen {k : Nat} (h : 0 < k) : (v2 k : Int) < blen (k : Int) := by
  obtain ⟨n, h1, h2, h3⟩ := blen_rng h
  have := v2_lt h h3
  omega
/-- made: the same value, odd -/
theorem dyMake_val {ng : Bool} {k : Nat} {e : Int} (h : 0 < k) (he : -4194304 ≤ e) (he' : e + v2 k ≤ 4194304) :
    (dyMake ng k e).2.1 % 2 = 1 ∧ (dyMake ng k e).1 = ng ∧ (dyMake ng k e).2.2 = e + v2 k ∧ (dyMake ng k e).2.1 * 2 ^ v2 k = k ∧ ((dyMake ng k e).2.1 : Int) * pw (dyMake ng k e).2.2 = k * pw e ∧
      blen ((dyMake ng k e).2.1 : Int) + v2 k = blen (k : Int) := by
  have s := v2_spec k h
  have E : dyMake ng k e = (ng, k / 2 ^ v2 k, e + v2 k) := by
    unfold dyMake
    rw [if_neg (by omega), if_neg (by omega)]
  rw [E]
  refine ⟨s.2.1, rfl, rfl, s.1, ?_, ?_⟩
  · show ((k / 2 ^ v2 k : Nat) : Int) * pw (e + v2 k) = k * pw e
    have e1 := pw_add (e := e) (f := v2 k) (by omega) (by omega)
    rw [Int.toNat_natCast] at e1
    rw [e1]
    have c := congrArg (fun n : Nat => (n : Int)) s.1
    push_cast at c ⊢
    have : (k : Int) / 2 ^ v2 k * (pw e * 2 ^ v2 k) = (k : Int) / 2 ^ v2 k * 2 ^ v2 k * pw e := by grind
    rw [this, c]
  · show blen ((k / 2 ^ v2 k : Nat) : Int) + v2 k = blen (k : Int)
    have c : (2 : Int) ^ v2 k ≤ (k : Int) := by have := s.2.2; exact_mod_cast this
    have := blen_div (x := (k : Int)) (v2 k) c
    have e2 : ((k / 2 ^ v2 k : Nat) : Int) = (k : Int) / 2 ^ v2 k := by push_cast; rfl
    rw [e2]
    omega

/-- an exact finite number -/
theorem exact_fin {n : Num} (h : n.Fin) : n.exact.2 = true ∧ n.exact.1.1 = n.neg ∧ n.exact.1.2.1 % 2 = 1 ∧ -1048576 ≤ n.exact.1.2.2 ∧ n.exact.1.2.2 ≤ 1048640 ∧ (n.exact.1.2.1 : Int) * pw n.exact.1.2.2 = n.W ∧
    n.exact.1.2.1 < 18446744073709551616 ∧ n.e ≤ n.exact.1.2.2 := by
  have lo := h.lo
  have hi := h.hi
  have elo := h.elo
  have ehi := h.ehi
  have hk := h.kind
  have v := v2_lt (n := n.m.toNat) (k := 64) (by omega) (by show n.m.toNat < 18446744073709551616; omega)
  have d := dyMake_val (ng := n.neg) (k := n.m.toNat) (e := n.e) (by omega) (by omega) (by omega)
  have r := dyMake_rng n.neg n.m.toNat n.e
  unfold Num.exact
  rw [if_neg (by rw [h.may, hk]; decide), if_neg (by rw [hk]; decide)]
  refine ⟨rfl, d.2.1, d.1, ?_, ?_, ?_, ?_, ?_⟩
  · show -1048576 ≤ (dyMake n.neg n.m.toNat n.e).2.2; omega
  · show (dyMake n.neg n.m.toNat n.e).2.2 ≤ 1048640; omega
  · show ((dyMake n.neg n.m.toNat n.e).2.1 : Int) * pw (dyMake n.neg n.m.toNat n.e).2.2 = _
    rw [d.2.2.2.2.1, h.W, show ((n.m.toNat : Nat) : Int) = n.m by omega]
  · show (dyMake n.neg n.m.toNat n.e).2.1 < _; omega
  · show n.e ≤ (dyMake n.neg n.m.toNat n.e).2.2; omega
end Go.Proofs.YtpadpcjdakfokaaDoor.Ev

/- The reference's sums are the program's: plain Lean. -/
namespace Go.Proofs.YtpadpcjdakfokaaDoor.Ev
open Go

def sv (n : Bool) (k : Nat) : Int := if n then -(k : Int) else k
theorem dyv_sv (p : Bool × Nat × Int) : dyv p = sv p.1 p.2.1 * pw p.2.2 := by
  unfold dyv sv
  split
  · rw [Int.neg_mul]
  · rfl
/-- a number as an odd one times a power of two; or nought -/
structure Dy (p : Bool × Nat × Int) (t : Int) : Prop where
  odd : p = (false, 0, 0) ∨ p.2.1 % 2 = 1
  lo : -1048576 ≤ p.2.2
  hi : p.2.2 ≤ 1048640
  lt : p.2.1 < 18446744073709551616
  val : dyv p = t
theorem exact_dy {x : Num} (ox : x.ok) (k : x.fair.kind ≠ 2) : Dy x.fair.exact.1 x.fair.val := by
  by_cases k0 : x.fair.kind = 0
  · rw [Num.fair_zero ox k0]
    have e : Num.zero.exact.1 = (false, 0, 0) := by unfold Num.exact; rfl
    rw [e]
    exact ⟨.inl rfl, by decide, by decide, by decide, by simp [dyv, Num.val_zero]⟩
  · have F := Num.fair_fin ox k0 k
    obtain ⟨x1, x2, x3, x4, x5, x6, x7, _⟩ := exact_fin F
    refine ⟨.inr x3, x4, x5, x7, ?_⟩
    unfold dyv Num.val
    rw [x2, x6]
end Go.Proofs.YtpadpcjdakfokaaDoor.Ev

/- Contracts: whole numbers of any length. Printed by gen.py. -/
namespace Go.Proofs.YtpadpcjdakfokaaDoor.Ev
open Go Go.Proofs
set_option linter.unusedVariables false
set_option linter.unusedSimpArgs false

attribute [local irreducible] Lb
theorem mulLen {a b : List Int} (ha : Lb a) (hb : Lb b) : (lim (lv a * lv b)).length ≤ a.length + b.length :=
  lim_length_le (by rw [Nat.pow_add]; exact Nat.mul_lt_mul'' (lv_lt ha) (lv_lt hb))
theorem limp (n : Nat) : 0 < (lim n).length ↔ n ≠ 0 := by
  constructor
  · intro h e; rw [e] at h; exact absurd h (by decide)
  · intro h
    rcases Nat.eq_zero_or_pos (lim n).length with k | k
    · exact absurd (lim_eq_nil.1 (List.length_eq_zero_iff.1 k)) h
    · exact k
theorem c_wMake (neg : Bool) (m : List Int) (hm_ : Lb m) (hl : m.length ≤ 268435456) : ∃ t : Bool × List Int, t = (neg && decide (lv m ≠ 0), lim (lv m)) ∧ CallsA Tryd.prog 37 [.bool (.s neg), .sli .u32 m] (.agg [.bool (.s t.1), .sli .u32 t.2]) := by
  refine ⟨_, rfl, ?_⟩
  generalize hr : ((neg && decide (lv m ≠ 0), lim (lv m)) : Bool × List Int) = r
  have pos := limp (lv m)
  obtain ⟨x, ex⟩ : ∃ x, lim (lv m) = x := ⟨_, rfl⟩
  rw [ex] at hr pos
  have yes : neg = true → ∀ b : Bool, b = decide ((0 : Int) < (x.length : Int)) → (b, x) = r := by
    intro h b hb
    rw [← hr, h, hb]
    have : decide ((0 : Int) < (x.length : Int)) = decide (lv m ≠ 0) := by
      by_cases z : lv m = 0
      · rw [decide_eq_false (by have := fun q => pos.1 q; omega), decide_eq_false (by simp [z])]
      · rw [decide_eq_true (by have := pos.2 z; omega), decide_eq_true z]
    rw [this]; rfl
  have no : neg = false → (false, x) = r := by intro h; rw [← hr, h]; rfl
  clear hr pos
  refine callsA_of hG hm Tryd.func37 (by kernel_rfl) ?_
  intro E hE lp hl'
  cbv
  (first | (apply E_pcallX hE (c_Trim _ hm_ ?_); (case hm => rfl); (case hle => (repeat' (first | exact u_nil | apply u_cons | apply u2_agg | exact u2_int | exact u1_int | exact u2_bool | exact u1_bool | exact u2_sli | exact u1_sli | exact u2_s0 | exact u1_s0))); all_goals (first | (intro y hy; cbv) | (exact hl))) | (apply E_callX hE (c_Trim _ hm_ ?_); (case hf => rfl); (case hc => (cbv <;> trivial)); (case hle => (repeat' (first | exact u_nil | apply u_cons | apply u2_agg | exact u2_int | exact u1_int | exact u2_bool | exact u1_bool | exact u2_sli | exact u1_sli | exact u2_s0 | exact u1_s0))); all_goals (first | (intro y hy; cbv) | (exact hl))))
  have Y : y = x := hy.trans ex
  rw [Y]
  clear hy Y
  refine E_br hE (fun g => ?_) (fun g => ?_) <;> cbv
  · rw [← yes g (E.cmp .gtr (E.len x) 0) (by subst hE; rfl)]; exact ⟨rfl, rfl, trivial⟩
  · rw [← no g]; exact ⟨rfl, rfl, trivial⟩

theorem c_wMul2 (na : Bool) (a : List Int) (nb : Bool) (b : List Int) (ha : Lb a) (hb : Lb b) (hla : a.length < 60000000) (hlb : b.length < 60000000) :
    ∃ t : Bool × List Int, t = ((na != nb) && decide (lv a * lv b ≠ 0), lim (lv a * lv b)) ∧ CallsA Tryd.prog 56 [.slc 2 (.l 2) (fun i => getRow [[.bool (.s na), .sli .u32 a], [.bool (.s nb), .sli .u32 b]] (Int.ofNat i))] (.agg [.bool (.s t.1), .sli .u32 t.2]) := by
  refine ⟨_, rfl, ?_⟩
  generalize hr : (((na != nb) && decide (lv a * lv b ≠ 0), lim (lv a * lv b)) : Bool × List Int) = r
  have l1 : Lb [(1 : Int)] := Lb.cons (by decide) (by decide) Lb.nil
  have m1 : ∀ u, u = lim (lv [(1 : Int)] * lv a) → Lb u ∧ u.length < 134217728 ∧ lv u = lv a := by
    intro u hu
    have e : lv [(1 : Int)] * lv a = lv a := by show 1 * lv a = lv a; omega
    rw [e] at hu
    have l := lim_length_le' ha
    rw [hu]; exact ⟨lim_lb _, by omega, lv_lim _⟩
  have m2 : ∀ u v, lv u = lv a → v = lim (lv u * lv b) → Lb v ∧ v.length ≤ 268435456 ∧ lv v = lv a * lv b := by
    intro u v hu hv
    rw [hu] at hv
    have l := mulLen ha hb
    rw [hv]; exact ⟨lim_lb _, by omega, lv_lim _⟩
  have fin : ∀ v (t : Bool × List Int) (n : Bool), lv v = lv a * lv b → n = (na != nb) → t = (n && decide (lv v ≠ 0), lim (lv v)) → t = r := by
    intro v t n h1 h2 h3; rw [h3, h1, h2, hr]
  clear hr
  refine callsA_of hG hm Tryd.func56 (by kernel_rfl) ?_
  intro E hE lp hl'
  have es : E.sub [1] 0 1 = [1] := by subst hE; rfl
  cbv
  refine E_frz hE hl' (d := 4) rfl rfl rfl trivial ?_
  refine E_rounds hE hG hm hl' 3 ?_
  cbv
  (first | (apply E_pcallX hE (c_natMul _ _ ?_ ha ?_ ?_); (case hm => rfl); (case hle => (repeat' (first | exact u_nil | apply u_cons | apply u2_agg | exact u2_int | exact u1_int | exact u2_bool | exact u1_bool | exact u2_sli | exact u1_sli | exact u2_s0 | exact u1_s0))); all_goals (first | (intro u hu; cbv) | (first | (show Lb (E.sub [1] 0 1); rw [es]; exact l1) | (show (E.sub [1] 0 1).length < 134217728; rw [es]; show (1 : Nat) < 134217728; decide) | exact Nat.lt_of_lt_of_le hla (by decide)))) | (apply E_callX hE (c_natMul _ _ ?_ ha ?_ ?_); (case hf => rfl); (case hc => (cbv <;> trivial)); (case hle => (repeat' (first | exact u_nil | apply u_cons | apply u2_agg | exact u2_int | exact u1_int | exact u2_bool | exact u1_bool | exact u2_sli | exact u1_sli | exact u2_s0 | exact u1_s0))); all_goals (first | (intro u hu; cbv) | (first | (show Lb (E.sub [1] 0 1); rw [es]; exact l1) | (show (E.sub [1] 0 1).length < 134217728; rw [es]; show (1 : Nat) < 134217728; decide) | exact Nat.lt_of_lt_of_le hla (by decide)))))
  have U := m1 u (by have k : u = lim (lv (E.sub [1] 0 1) * lv a) := hu; rw [es] at k; exact k)
  clear hu m1
  (first | (apply E_pcallX hE (c_natMul _ _ U.1 hb U.2.1 ?_); (case hm => rfl); (case hle => (repeat' (first | exact u_nil | apply u_cons | apply u2_agg | exact u2_int | exact u1_int | exact u2_bool | exact u1_bool | exact u2_sli | exact u1_sli | exact u2_s0 | exact u1_s0))); all_goals (first | (intro v hv; cbv) | (exact Nat.lt_of_lt_of_le hlb (by decide)))) | (apply E_callX hE (c_natMul _ _ U.1 hb U.2.1 ?_); (case hf => rfl); (case hc => (cbv <;> trivial)); (case hle => (repeat' (first | exact u_nil | apply u_cons | apply u2_agg | exact u2_int | exact u1_int | exact u2_bool | exact u1_bool | exact u2_sli | exact u1_sli | exact u2_s0 | exact u1_s0))); all_goals (first | (intro v hv; cbv) | (exact Nat.lt_of_lt_of_le hlb (by decide)))))
  have V := m2 u v U.2.2 hv
  clear hv m2
  (first | (apply E_pcallX hE (c_wMake _ _ V.1 V.2.1); (case hm => rfl); (case hle => (repeat' (first | exact u_nil | apply u_cons | apply u2_agg | exact u2_int | exact u1_int | exact u2_bool | exact u1_bool | exact u2_sli | exact u1_sli | exact u2_s0 | exact u1_s0))); all_goals (first | (intro t ht; cbv) | (assumption))) | (apply E_callX hE (c_wMake _ _ V.1 V.2.1); (case hf => rfl); (case hc => (cbv <;> trivial)); (case hle => (repeat' (first | exact u_nil | apply u_cons | apply u2_agg | exact u2_int | exact u1_int | exact u2_bool | exact u1_bool | exact u2_sli | exact u1_sli | exact u2_s0 | exact u1_s0))); all_goals (first | (intro t ht; cbv) | (assumption))))
  rw [← fin v t _ V.2.2 (by subst hE; cases na <;> cases nb <;> rfl) ht]; exact ⟨rfl, rfl, trivial⟩
theorem c_wNeg (na : Bool) (a : List Int) (ha : Lb a) (hla : a.length ≤ 268435456) :
    ∃ t : Bool × List Int, t = (!na && decide (lv a ≠ 0), lim (lv a)) ∧ CallsA Tryd.prog 89 [.agg [.bool (.s na), .sli .u32 a]] (.agg [.bool (.s t.1), .sli .u32 t.2]) := by
  refine ⟨_, rfl, ?_⟩
  generalize hr : ((!na && decide (lv a ≠ 0), lim (lv a)) : Bool × List Int) = r
  refine callsA_of hG hm Tryd.func89 (by kernel_rfl) ?_
  intro E hE lp hl'
  have en : E.bnot na = !na := by subst hE; rfl
  cbv
  (first | (apply E_pcallX hE (c_wMake _ _ ha hla); (case hm => rfl); (case hle => (repeat' (first | exact u_nil | apply u_cons | apply u2_agg | exact u2_int | exact u1_int | exact u2_bool | exact u1_bool | exact u2_sli | exact u1_sli | exact u2_s0 | exact u1_s0))); all_goals (first | (intro t ht; cbv) | (assumption))) | (apply E_callX hE (c_wMake _ _ ha hla); (case hf => rfl); (case hc => (cbv <;> trivial)); (case hle => (repeat' (first | exact u_nil | apply u_cons | apply u2_agg | exact u2_int | exact u1_int | exact u2_bool | exact u1_bool | exact u2_sli | exact u1_sli | exact u2_s0 | exact u1_s0))); all_goals (first | (intro t ht; cbv) | (assumption))))
  have k : t = (E.bnot na && decide (lv a ≠ 0), lim (lv a)) := ht
  rw [en, hr] at k
  rw [k]; exact ⟨rfl, rfl, trivial⟩

end Go.Proofs.YtpadpcjdakfokaaDoor.Ev

/- Contracts: where the lowest bit stands; how many noughts there are at the end of limbs. Printed by gen.py. -/
namespace Go.Proofs.YtpadpcjdakfokaaDoor.Ev
open Go Go.Proofs
set_option linter.unusedVariables false
set_option linter.unusedSimpArgs false

attribute [local irreducible] Lb
theorem tz_low {x : Int} (h0 : 0 < x) (h1 : x < 4294967296) : intBinR .and .u32 x (intBinR .sub .u32 0 x) = ((2 ^ v2 x.toNat : Nat) : Int) := by
  obtain ⟨n, rfl⟩ := Int.eq_ofNat_of_zero_le (Int.le_of_lt h0)
  have e : intBinR .sub .u32 0 (n : Int) = ((4294967296 - n : Nat) : Int) := by
    show IntKind.u32.wrap (0 - (n : Int)) = _
    rw [wu32]; omega
  have lb := low_bit 32 n (by omega) (by omega)
  have l2 : v2 n < 32 := v2_lt (by omega) (by omega)
  have p2 : 2 ^ v2 n ≤ 2 ^ 31 := Nat.pow_le_pow_right (by decide) (by omega)
  show IntKind.u32.wrap ((BitVec.ofInt IntKind.u32.bits (n : Int) &&& BitVec.ofInt IntKind.u32.bits (intBinR .sub .u32 0 (n : Int))).toNat : Int) = _
  rw [e]
  have b1 : (BitVec.ofInt IntKind.u32.bits (n : Int)).toNat = n := by
    show (BitVec.ofInt 32 (n : Int)).toNat = n
    rw [BitVec.ofInt_natCast, BitVec.toNat_ofNat]; omega
  have b2 : (BitVec.ofInt IntKind.u32.bits ((4294967296 - n : Nat) : Int)).toNat = 4294967296 - n := by
    show (BitVec.ofInt 32 ((4294967296 - n : Nat) : Int)).toNat = _
    rw [BitVec.ofInt_natCast, BitVec.toNat_ofNat]; omega
  rw [BitVec.toNat_and, b1, b2, show (4294967296 : Nat) = 2 ^ 32 by rfl, lb, wu32, Int.toNat_natCast]
  omega
theorem tz_index {x : Int} (h0 : 0 < x) (h1 : x < 4294967296) (y : Int) (hy : y = intBinR .shr .u32 (intBinR .mul .u32 (intBinR .and .u32 x (intBinR .sub .u32 0 x)) 125613361) 27) :
    0 ≤ y ∧ y < 32 ∧ tzT.getD y.toNat 0 = v2 x.toNat ∧ v2 x.toNat < 32 := by
  have l2 : v2 x.toNat < 32 := v2_lt (by omega) (by omega)
  rw [tz_low h0 h1] at hy
  have e : intBinR .mul .u32 ((2 ^ v2 x.toNat : Nat) : Int) 125613361 = ((2 ^ v2 x.toNat * 125613361 % 4294967296 : Nat) : Int) := by
    show IntKind.u32.wrap (((2 ^ v2 x.toNat : Nat) : Int) * 125613361) = _
    rw [wu32]; omega
  have e2 : y = ((2 ^ v2 x.toNat * 125613361 % 4294967296 / 134217728 : Nat) : Int) := by
    rw [hy, e]
    show Int.fdiv _ (2 ^ (min (27 : Int).toNat 32)) = _
    rw [show (2 : Int) ^ (min (27 : Int).toNat 32) = 134217728 by decide, Int.fdiv_eq_ediv_of_nonneg _ (by decide)]
    omega
  rw [e2]
  have t := tz_table (v2 x.toNat) l2
  refine ⟨by omega, by omega, ?_, l2⟩
  rw [Int.toNat_natCast]; exact t
theorem c_TZ32 (x : Int) (h0 : 0 < x) (h1 : x < 4294967296) : ∃ t : Int, t = v2 x.toNat ∧ CallsA Tryd.prog 80 [.int .u32 (.s x)] (.int .i64 (.s t)) := by
  refine ⟨_, rfl, ?_⟩
  generalize hr : (v2 x.toNat : Int) = r
  have idx := tz_index h0 h1
  have fin : ∀ y, tzT.getD y 0 = v2 x.toNat → IntKind.i64.wrap (tzT.getD y 0) = r := by
    intro y hy
    have := (idx _ rfl).2.2.2
    rw [hy, wi64_id (by omega) (by omega), hr]
  refine callsA_of hG hm Tryd.func80 (by kernel_rfl) ?_
  intro E hE lp hl
  cbv
  refine E_br hE (fun g => ?_) (fun g => ?_) <;> cbv
  · exfalso
    subst hE
    have := eql_t g
    omega
  have ix := idx (E.bin .shr .u32 (E.bin .mul .u32 (E.bin .and .u32 x (E.bin .sub .u32 0 x)) 125613361) 27) (by subst hE; rfl)
  refine E_br hE (fun b1 => ?_) (fun b1 => ?_) <;> cbv
  · refine E_br hE (fun b2 => ?_) (fun b2 => ?_) <;> cbv
    · refine E_nm hE (fun v hv => ?_); cbv
      rw [hv]
      have f := fin _ ix.2.2.1
      subst hE
      exact f
    · exfalso
      subst hE
      exact lss_f b2 ix.2.1
  · exfalso
    subst hE
    exact leq_f b1 ix.1

/-- how many noughts there are at the end: of limbs of which so many are nought -/
theorem trail_step {m : List Int} (h : Lb m) {j : Nat} (hj : j < m.length) : (m.getD j 0 = 0 → lv (m.drop j) = 4294967296 * lv (m.drop (j + 1))) ∧
    (m.getD j 0 ≠ 0 → v2 (lv (m.drop j)) = v2 (m.getD j 0).toNat ∧ 0 < m.getD j 0) := by
  have e : m.drop j = m.getD j 0 :: m.drop (j + 1) := by
    rw [List.drop_eq_getElem_cons hj, List.getD, List.getElem?_eq_getElem hj]; rfl
  have g := h.getD j
  rw [e]
  constructor
  · intro z; simp only [lv]; rw [z]; simp
  · intro z
    simp only [lv]
    exact ⟨v2_low (by omega) (by omega), by omega⟩
theorem c_trailing (m : List Int) (hm_ : Lb m) (hl_ : m.length < 67108864) (h0 : 0 < lv m) : ∃ t : Int, t = v2 (lv m) ∧ CallsA Tryd.prog 42 [.sli .u32 m] (.int .i64 (.s t)) := by
  refine ⟨_, rfl, ?_⟩
  generalize hr : (v2 (lv m) : Int) = r
  obtain ⟨ms, em⟩ : ∃ ms : Int × Int → Nat, ∀ p, ms p = ((m.length : Int) - p.1).toNat := ⟨_, fun _ => rfl⟩
  obtain ⟨ok, eok⟩ : ∃ ok : Int × Int → Prop, ∀ p, ok p ↔ (0 ≤ p.1 ∧ p.1 ≤ m.length ∧ p.2 = 32 * p.1 ∧ 0 < lv (m.drop p.1.toNat) ∧ r = 32 * p.1 + v2 (lv (m.drop p.1.toNat))) := ⟨_, fun _ => Iff.rfl⟩
  have start : ok (0, 0) := (eok _).2 ⟨Int.le_refl _, Int.natCast_nonneg _, rfl, h0, by rw [← hr]; show _ = (32 : Int) * 0 + _; simp⟩
  have bnd : ∀ i n, ok (i, n) → 0 ≤ i ∧ i < m.length := by
    intro i n h
    obtain ⟨k1, k2, k3, k4, k5⟩ := (eok _).1 h
    dsimp only at k1 k2 k3 k4 k5
    refine ⟨k1, ?_⟩
    by_cases z : i.toNat < m.length
    · omega
    · rw [List.drop_eq_nil_of_le (by omega)] at k4; exact absurd k4 (Nat.lt_irrefl 0)
  have next : ∀ i n, ok (i, n) → m.getD i.toNat 0 = 0 → ms (IntKind.i64.wrap (i + 1), IntKind.i64.wrap (n + 32)) < ms (i, n) ∧ ok (IntKind.i64.wrap (i + 1), IntKind.i64.wrap (n + 32)) := by
    intro i n h z
    have b := bnd i n h
    obtain ⟨k1, k2, k3, k4, k5⟩ := (eok _).1 h
    dsimp only at k1 k2 k3 k4 k5
    have st := (trail_step hm_ (j := i.toNat) (by omega)).1 z
    rw [wi64_id (by omega) (by omega), wi64_id (by omega) (by omega)]
    have e : (i + 1).toNat = i.toNat + 1 := by omega
    refine ⟨by rw [em, em]; dsimp only; omega, (eok _).2 ⟨by dsimp only; omega, by dsimp only; omega, by dsimp only; omega, ?_, ?_⟩⟩
    · dsimp only; rw [e]; rw [st] at k4; omega
    · dsimp only
      rw [e]
      rw [st] at k4 k5
      have := v2_shift (r := lv (m.drop (i.toNat + 1))) (by omega) 32
      rw [show (2 : Nat) ^ 32 = 4294967296 by rfl] at this
      omega
  have stop : ∀ i n, ok (i, n) → m.getD i.toNat 0 ≠ 0 → 0 < m.getD i.toNat 0 ∧ m.getD i.toNat 0 < 4294967296 ∧ ∀ t : Int, t = v2 (m.getD i.toNat 0).toNat → IntKind.i64.wrap (n + t) = r := by
    intro i n h z
    have b := bnd i n h
    obtain ⟨k1, k2, k3, k4, k5⟩ := (eok _).1 h
    dsimp only at k1 k2 k3 k4 k5
    have st := (trail_step hm_ (j := i.toNat) (by omega)).2 z
    have g := hm_.getD i.toNat
    have l2 : v2 (m.getD i.toNat 0).toNat < 32 := v2_lt (by omega) (by omega)
    refine ⟨st.2, g.2, fun t ht => ?_⟩
    rw [st.1] at k5
    rw [wi64_id (by omega) (by omega)]; omega
  clear hr h0
  refine callsA_of hG hm Tryd.func42 (by kernel_rfl) ?_
  intro E hE lp hl
  cbv
  refine E_loop hE hG hm hl (fun p : Int × Int => (⟨[(3, .int .i64 (.s p.2)), (6, .sli .u32 m), (7, .int .i64 (.s (E.len m))), (8, .int .i64 (.s p.1))], []⟩ : St)) ms ok ⟨(0, 0), start, stLe rfl ?_⟩ ?_
  · (repeat' (first | exact t_nil | apply t_cons | exact u2_sli | exact u2_int | exact u2_bool | exact u2_ms | exact u2_ptr | exact (rfl : sle2 .s0 .s0)))
  rintro ⟨i, n⟩ hok
  have bd := bnd i n hok
  have nx := next i n hok
  have sp := stop i n hok
  clear bnd next stop start hok
  cbv
  refine E_br hE (fun g => ?_) (fun g => ?_) <;> cbv
  · refine E_br hE (fun b1 => ?_) (fun b1 => ?_) <;> cbv
    · refine E_br hE (fun b2 => ?_) (fun b2 => ?_) <;> cbv
      · refine E_nm hE (fun v hv => ?_); cbv
        have hv : v = m.getD i.toNat 0 := by subst hE; exact hv
        rw [← hv] at nx sp
        refine E_br hE (fun b3 => ?_) (fun b3 => ?_) <;> cbv
        · have z : v ≠ 0 := by subst hE; have q : decide (v ≠ 0) = true := (cmp_neq _ _).symm.trans b3; simpa using q
          have sp := sp z

          (first | (apply E_pcallX hE (c_TZ32 v sp.1 sp.2.1); (case hm => rfl); (case hle => (repeat' (first | exact u_nil | apply u_cons | apply u2_agg | exact u2_int | exact u1_int | exact u2_bool | exact u1_bool | exact u2_sli | exact u1_sli | exact u2_s0 | exact u1_s0))); all_goals (first | (intro t ht; cbv) | (assumption))) | (apply E_callX hE (c_TZ32 v sp.1 sp.2.1); (case hf => rfl); (case hc => (cbv <;> trivial)); (case hle => (repeat' (first | exact u_nil | apply u_cons | apply u2_agg | exact u2_int | exact u1_int | exact u2_bool | exact u1_bool | exact u2_sli | exact u1_sli | exact u2_s0 | exact u1_s0))); all_goals (first | (intro t ht; cbv) | (assumption))))
          refine E_nm hE (fun u hu => ?_); cbv
          rw [hu]
          have f := sp.2.2 t ht
          subst hE
          exact f
        · have z : v = 0 := by subst hE; have q : decide (v ≠ 0) = false := (cmp_neq _ _).symm.trans b3; simpa using q
          have nx := nx z
          refine E_nm hE (fun u hu => ?_); cbv
          have eu : u = IntKind.i64.wrap (n + 32) := by subst hE; exact hu
          refine ⟨(E.bin .add .i64 i 1, u), ?_, ?_, stLe rfl ?_⟩
          · rw [eu]; subst hE; exact nx.1
          · rw [eu]; subst hE; exact nx.2
          · (repeat' (first | exact t_nil | apply t_cons | exact u2_sli | exact u2_int | exact u2_bool | exact u2_ms | exact u2_ptr | exact (rfl : sle2 .s0 .s0)))
      · exfalso
        subst hE
        exact lss_f b2 bd.2
    · exfalso
      subst hE
      exact leq_f b1 bd.1
  · exfalso
    subst hE
    exact lss_f g bd.2

end Go.Proofs.YtpadpcjdakfokaaDoor.Ev

/- Loops whose rounds hand on memory that they have made: it is named anew behind each. -/
namespace Go.Proofs.YtpadpcjdakfokaaDoor.Ev
open Go Go.RowKit
set_option linter.unusedVariables false
set_option linter.unusedSimpArgs false

/-- a block's former name -/
def nth0 : List Nat → Nat → Nat
  | [], n => n
  | r :: _, 0 => r
  | _ :: rs, n + 1 => nth0 rs n
def rn1 (ρ : List Nat) : AV → AV
  | .ms b sz row len => .ms (nth0 ρ b) sz row len
  | .ptr b sz row col => .ptr (nth0 ρ b) sz row col
  | c => c
def mapB {α β : Type} (f : α → β) : List α → List β
  | [] => []
  | x :: r => f x :: mapB f r
def rnB (ρ : List Nat) : Blk → Blk
  | .rows w sz d l => .rows w sz d (mapB (mapB (rn1 ρ)) l)
  | b => b
theorem mapB_eq {α β : Type} (f : α → β) (l : List α) : mapB f l = l.map f := by induction l <;> simp_all [mapB]
section
variable {P : Program} {G : Nat → TI} {base : Nat} {O0 : Nat → Prop} {μ : Nat → Nat} {hp hq : List Blk} {w w' : World}

/-- memory and its new names -/
structure Named (ρ : List Nat) (hp hq : List Blk) : Prop where
  len : ρ.length = hq.length
  blk : ∀ b x, hq[b]? = some x → x ≠ .dead → hp[nth0 ρ b]? = some (rnB ρ x)
  apart : ∀ b b' x x', hq[b]? = some x → x ≠ .dead → hq[b']? = some x' → x' ≠ .dead → nth0 ρ b = nth0 ρ b' → b = b'
  inl : blksIn (lenB hq) hq

theorem rnB_dim {ρ : List Nat} {x : Blk} : (rnB ρ x).dim = x.dim := by cases x <;> simp [rnB, Blk.dim, mapB_eq]
theorem rnB_wr {ρ : List Nat} {x : Blk} : (rnB ρ x).wr = x.wr := by cases x <;> rfl
theorem not_dead_of_dim {x : Blk} {n : Nat × Nat} (h : x.dim = some n) : x ≠ .dead := by rintro rfl; simp [Blk.dim] at h
theorem not_dead_of_wr {x : Blk} (h : x.wr = true) : x ≠ .dead := by rintro rfl; simp [Blk.wr] at h

theorem Named.dim {ρ : List Nat} (N : Named ρ hp hq) {b : Nat} {n : Nat × Nat} (h : dimB hq b = some n) : dimB hp (nth0 ρ b) = some n := by
  unfold dimB at h ⊢
  cases hb : hq[b]? with
  | none => rw [hb] at h; simp [Blk.dim] at h
  | some x =>
    rw [hb] at h
    have hx : x ≠ .dead := not_dead_of_dim h
    rw [N.blk b x hb hx]
    simp only [Option.getD_some] at h ⊢
    rw [rnB_dim]
    exact h
theorem Named.wr {ρ : List Nat} (N : Named ρ hp hq) {b : Nat} (h : wrB hq b = true) : wrB hp (nth0 ρ b) = true := by
  unfold wrB at h ⊢
  cases hb : hq[b]? with
  | none => rw [hb] at h; simp [Blk.wr] at h
  | some x =>
    rw [hb] at h
    have hx : x ≠ .dead := not_dead_of_wr h
    rw [N.blk b x hb hx]
    simp only [Option.getD_some] at h ⊢
    rw [rnB_wr]
    exact h
theorem some_of_dim {b : Nat} (h : dimB hq b ≠ none) : ∃ x, hq[b]? = some x ∧ x ≠ .dead := by
  unfold dimB at h
  cases hb : hq[b]? with
  | none => rw [hb] at h; simp [Blk.dim] at h
  | some x => exact ⟨x, rfl, by rintro rfl; rw [hb] at h; simp [Blk.dim] at h⟩
theorem some_of_wr {b : Nat} (h : wrB hq b = true) : ∃ x, hq[b]? = some x ∧ x ≠ .dead := by
  unfold wrB at h
  cases hb : hq[b]? with
  | none => rw [hb] at h; simp [Blk.wr] at h
  | some x => exact ⟨x, rfl, by rintro rfl; rw [hb] at h; simp [Blk.wr] at h⟩

theorem Named.ok {ρ : List Nat} (N : Named ρ hp hq) {n : Nat} (h : okO base O0 μ hp w n) : okO base O0 (fun b => μ (nth0 ρ b)) hq w n := by
  rcases h with h | ⟨h1, h2, h3⟩
  · exact .inl h
  · exact .inr ⟨h1, h2, fun b hb => h3 _ (N.wr hb)⟩

theorem leaf_named {ρ : List Nat} (N : Named ρ hp hq) {c : AV} {v : Value} (h : LeafR (mkX base O0 μ hp w) (rn1 ρ c) v) (hi : in1 (lenB hq) c = true) : LeafR (mkX base O0 (fun b => μ (nth0 ρ b)) hq w) c v := by
  rw [lenB_eq] at hi
  cases c with
  | ms b sz row len =>
    obtain ⟨hb, h0, h1, A, cap, rfl, hle, hA, hd⟩ := (show LeafR _ (.ms (nth0 ρ b) sz row len) v from h)
    exact ⟨Nat.le_of_ble_eq_true hi, h0, h1, A, cap, rfl, hle, hA, fun n s hn => hd n s (N.dim hn)⟩
  | ptr b sz row col =>
    obtain ⟨hb, h0, rfl, hd⟩ := (show LeafR _ (.ptr (nth0 ρ b) sz row col) v from h)
    exact ⟨Nat.le_of_ble_eq_true hi, h0, rfl, fun n s hn => hd n s (N.dim hn)⟩
  | _ => exact RoV.mono (fun n hn => N.ok hn) (fun _ _ _ h => h) (show RoV _ _ _ v from h)

theorem HR.named {ρ : List Nat} (H : HR base O0 μ hp w) (N : Named ρ hp hq) : HR base O0 (fun b => μ (nth0 ρ b)) hq w := by
  refine ⟨H.all, fun b x hx => ?_, fun b hd => ?_, fun b b' h1 h2 h3 => ?_, fun b x hx => ?_, H.gl⟩
  · by_cases hne : x = .dead
    · subst hne; trivial
    · have := H.blk _ _ (N.blk b x hx hne)
      cases x with
      | dead => trivial
      | ints wr kk l => exact this
      | rows wr sz d l =>
        obtain ⟨h1, c, e, h2, h3⟩ := this
        have hin := blksIn_at N.inl hx
        rw [allB_eq, List.all_eq_true] at hin
        refine ⟨h1, c, e, h2, fun i r hi => ?_⟩
        have h4 := h3 i (mapB (rn1 ρ) r) (by rw [mapB_eq, List.getElem?_map, hi]; rfl)
        refine ⟨by simpa [mapB_eq] using h4.1, fun j a hj => ?_⟩
        obtain ⟨y, h5, h6⟩ := h4.2 j (rn1 ρ a) (by rw [mapB_eq, List.getElem?_map, hj]; rfl)
        have hr := hin r (List.mem_of_getElem? hi)
        rw [allB_eq, List.all_eq_true] at hr
        exact ⟨y, h5, leaf_named N h6 (hr a (List.mem_of_getElem? hj))⟩
  · cases hn : dimB hq b with
    | none => exact absurd hn hd
    | some n => exact H.low _ (by rw [N.dim hn]; simp)
  · obtain ⟨x, q1, q2⟩ := some_of_wr h1
    obtain ⟨x', q3, q4⟩ := some_of_dim h2
    cases hn : dimB hq b' with
    | none => exact absurd hn h2
    | some n => exact N.apart b b' x x' q1 q2 q3 q4 (H.inj _ _ (N.wr h1) (by rw [N.dim hn]; simp) h3)
  · by_cases hne : x = .dead
    · subst hne; exact fun ts ht => by cases ht
    · exact TyR.less (.inr (by cases x <;> rfl)) (H.ty _ _ (N.blk b x hx hne))

end
end Go.Proofs.YtpadpcjdakfokaaDoor.Ev

/- Contracts of the reference: limbs cut of their noughts, which of two is less, a limb. Printed by gen.py. -/
namespace Go.Proofs.YtpadpcjdakfokaaDoor.Ev
open Go Go.Proofs
set_option linter.unusedVariables false
set_option linter.unusedSimpArgs false

attribute [local irreducible] Lb
end Go.Proofs.YtpadpcjdakfokaaDoor.Ev

/- Contracts of the reference: a limb, and the sum. Printed by gen.py. -/
namespace Go.Proofs.YtpadpcjdakfokaaDoor.Ev
open Go Go.Proofs
set_option linter.unusedVariables false
set_option linter.unusedSimpArgs false

attribute [local irreducible] Lb
end Go.Proofs.YtpadpcjdakfokaaDoor.Ev

/- Contracts of the reference: which of two is less, the difference. Printed by gen.py. -/
namespace Go.Proofs.YtpadpcjdakfokaaDoor.Ev
open Go Go.Proofs
set_option linter.unusedVariables false
set_option linter.unusedSimpArgs false

attribute [local irreducible] Lb
end Go.Proofs.YtpadpcjdakfokaaDoor.Ev

/- Contracts of the reference: the difference. Printed by gen.py. -/
namespace Go.Proofs.YtpadpcjdakfokaaDoor.Ev
open Go Go.Proofs
set_option linter.unusedVariables false
set_option linter.unusedSimpArgs false

attribute [local irreducible] Lb
end Go.Proofs.YtpadpcjdakfokaaDoor.Ev

/- Contracts of the reference: the product. Printed by gen.py. -/
namespace Go.Proofs.YtpadpcjdakfokaaDoor.Ev
open Go Go.Proofs
set_option linter.unusedVariables false
set_option linter.unusedSimpArgs false

attribute [local irreducible] Lb
end Go.Proofs.YtpadpcjdakfokaaDoor.Ev

/- Contracts of the reference: how many bits, shifted, a bit, a bit more. Printed by gen.py. -/
namespace Go.Proofs.YtpadpcjdakfokaaDoor.Ev
open Go Go.Proofs
set_option linter.unusedVariables false
set_option linter.unusedSimpArgs false

attribute [local irreducible] Lb
end Go.Proofs.YtpadpcjdakfokaaDoor.Ev

/- Contracts of the reference: a bit, a bit more. Printed by gen.py. -/
namespace Go.Proofs.YtpadpcjdakfokaaDoor.Ev
open Go Go.Proofs
set_option linter.unusedVariables false
set_option linter.unusedSimpArgs false

attribute [local irreducible] Lb
end Go.Proofs.YtpadpcjdakfokaaDoor.Ev

/- Contracts of the reference: the quotient, bit by bit. Printed by gen.py. -/
namespace Go.Proofs.YtpadpcjdakfokaaDoor.Ev
open Go Go.Proofs
set_option linter.unusedVariables false
set_option linter.unusedSimpArgs false

attribute [local irreducible] Lb
end Go.Proofs.YtpadpcjdakfokaaDoor.Ev

/- Contracts of the reference: shifted down. Printed by gen.py. -/
namespace Go.Proofs.YtpadpcjdakfokaaDoor.Ev
open Go Go.Proofs
set_option linter.unusedVariables false
set_option linter.unusedSimpArgs false

attribute [local irreducible] Lb
end Go.Proofs.YtpadpcjdakfokaaDoor.Ev

/- Contracts of the reference: whole numbers. Printed by gen.py. -/
namespace Go.Proofs.YtpadpcjdakfokaaDoor.Ev
open Go Go.Proofs
set_option linter.unusedVariables false
set_option linter.unusedSimpArgs false

attribute [local irreducible] Lb
end Go.Proofs.YtpadpcjdakfokaaDoor.Ev

/- Contracts of the reference: numbers times powers of two. Printed by gen.py. -/
namespace Go.Proofs.YtpadpcjdakfokaaDoor.Ev
open Go Go.Proofs
set_option linter.unusedVariables false
set_option linter.unusedSimpArgs false

attribute [local irreducible] Lb
end Go.Proofs.YtpadpcjdakfokaaDoor.Ev

/- Contracts of the reference: numbers. Printed by gen.py out of R12.spec. -/
namespace Go.Proofs.YtpadpcjdakfokaaDoor.Ev
open Go Go.Proofs
set_option linter.unusedVariables false
set_option linter.unusedSimpArgs false
end Go.Proofs.YtpadpcjdakfokaaDoor.Ev

/- Contracts of the reference: limbs, a word, exact numbers. Printed by gen.py. -/
namespace Go.Proofs.YtpadpcjdakfokaaDoor.Ev
open Go Go.Proofs
set_option linter.unusedVariables false
set_option linter.unusedSimpArgs false

attribute [local irreducible] Lb
end Go.Proofs.YtpadpcjdakfokaaDoor.Ev

/- Contracts of the reference: exact numbers, and rounding. Printed by gen.py. -/
namespace Go.Proofs.YtpadpcjdakfokaaDoor.Ev
open Go Go.Proofs
set_option linter.unusedVariables false
set_option linter.unusedSimpArgs false

attribute [local irreducible] Lb
theorem rlimbs_lb {m : Int} (h0 : 0 ≤ m) (h1 : m < 18446744073709551616) : Lb [m % 4294967296, m / 4294967296] :=
  Lb.cons (by omega) (by omega) (Lb.cons (by omega) (by omega) Lb.nil)
theorem rlimbs_lv {m : Int} (h0 : 0 ≤ m) : lv [m % 4294967296, m / 4294967296] = m.toNat := by
  simp only [lv]; omega
end Go.Proofs.YtpadpcjdakfokaaDoor.Ev

/- Contracts: limbs shifted. Printed by gen.py. -/
namespace Go.Proofs.YtpadpcjdakfokaaDoor.Ev
open Go Go.Proofs
set_option linter.unusedVariables false
set_option linter.unusedSimpArgs false


attribute [local irreducible] Lb
def shlS (E : Env) (x : List Int) (l r : Int) : Int × List Int → St := fun p => ⟨[(0, .sli .u32 x), (5, .int .i64 (.s l)), (6, .int .i64 (.s r)), (7, .ms 0 1 (.l 0) (.s (E.bin .add .i64 (E.bin .add .i64 (E.len x) l) 1))), (36, .sli .u32 x), (37, .int .i64 (.s (E.len x))), (38, .int .i64 (.s p.1))], [.ints true .u32 p.2]⟩
set_option maxHeartbeats 1000000 in
theorem c_natShl (a : List Int) (n : Int) (ha : Lb a) (hla : a.length < 67108864) : ∃ t : List Int, t = (if n < 1 then lim (lv a) else if 16777216 < n then [] else lim (lv a * 2 ^ n.toNat)) ∧ CallsA Tryd.prog 69 [.sli .u32 a, .int .i64 (.s n)] (.sli .u32 t) := by
  refine ⟨_, rfl, ?_⟩
  generalize hr : (if n < 1 then lim (lv a) else if 16777216 < n then [] else lim (lv a * 2 ^ n.toNat)) = r
  have hlx := lim_length_le' ha
  have hx := lim_lb (lv a)
  have vx := lv_lim (lv a)
  obtain ⟨x, ex⟩ : ∃ x, lim (lv a) = x := ⟨_, rfl⟩
  rw [ex] at hlx hx vx
  obtain ⟨m, em⟩ : ∃ m : Int × List Int → Nat, ∀ p, m p = (x.length - p.1).toNat := ⟨_, fun _ => rfl⟩
  obtain ⟨ok, eok⟩ : ∃ ok : Int × List Int → Prop, ∀ p, ok p ↔ 0 ≤ p.1 ∧ p.1 ≤ x.length ∧ ShlInv x p.2 (n / 32).toNat (n % 32).toNat p.1.toNat := ⟨_, fun _ => Iff.rfl⟩
  have eN : ∀ l : Int, 1 ≤ n → n ≤ 16777216 → l = intBinR .quo .i64 n 32 → IntKind.i64.wrap (IntKind.i64.wrap ((x.length : Int) + l) + 1) = x.length + n / 32 + 1 := by
    intro l n1 n2 el
    have : l = n / 32 := by rw [el]; exact quo32 (by omega) (by omega)
    rw [this, wi64_id (n := (x.length : Int) + n / 32) (by omega) (by omega), wi64_id (by omega) (by omega)]
  refine callsA_of hG hm Tryd.func69 (by kernel_rfl) ?_
  intro E hE lp hl
  cbv
  (apply E_callX hE (c_cut a ha (by omega)); (case hf => rfl); (case hc => (cbv <;> trivial)); (case hle => exact ⟨u2_sli, trivial⟩); intro x' hx'; cbv)
  rw [hx'.trans ex]
  clear hx' x'
  refine E_br hE (fun h => ?_) (fun h => ?_)
  · have e : x = r := by subst hE; rw [← hr, if_pos (lss_t h), ex]
    cbv
    repeat' (first
    | (refine E_br hE (fun h => ?_) (fun h => ?_) <;> cbv)
    | (refine E_nm hE (fun v hv => ?_); cbv)
    | (refine E_nilS hE (fun b hb => ?_); cbv)
    | (apply E_callX hE (c_Clone _ ?_); (case hf => rfl); (case hc => (cbv <;> trivial)); (case hle => exact u_up); all_goals (first | (intro t ht; cbv) | (omega)))
    | fail)
    exact ‹_ = x›.trans e
  have n1 : 1 ≤ n := by subst hE; have := lss_f h; omega
  cbv
  repeat' (first
    | (refine E_br hE (fun h => ?_) (fun h => ?_) <;> cbv)
    | (refine E_nm hE (fun v hv => ?_); cbv)
    | (refine E_nilS hE (fun b hb => ?_); cbv)
    | fail)
  · have n2 : 16777216 < n := by subst hE; exact gtr_t ‹_›
    rw [← hr, if_neg (by omega), if_pos n2]
  · have e0 : x.length = 0 := by subst hE; have := eql_t h; simp only [realE] at this; omega
    have e1 : x = [] := List.length_eq_zero_iff.1 e0
    rw [e1] at vx
    rw [← hr, if_neg (by omega)]
    split
    · rfl
    · rw [← vx]; simp [lv, lim_zero]
  all_goals (have n2 : n ≤ 16777216 := (by subst hE; have := gtr_f ‹(realE Tryd.prog).cmp .gtr n 16777216 = false›; omega))
  all_goals (try (exfalso; have := eN _ n1 n2 (by subst hE; assumption); subst hE; simp only [NatCast.natCast, Int.ofNat_eq_natCast, realE, cmp_eql, cmp_neq, cmp_lss, cmp_leq, cmp_gtr, cmp_geq, intBinR, decide_eq_true_eq, decide_eq_false_iff_not, SI.val, SB.val, Num.eta, Iv.eta] at *; rw [this] at *; omega))
  rename_i l el _ _
  replace eN := eN l n1 n2 (by subst hE; exact el)
  simp only [NatCast.natCast, Int.ofNat_eq_natCast] at eN
  have er := hv
  have l1 : l = n / 32 := by subst hE; rw [el]; exact quo32 (by omega) (by omega)
  have r1 : 0 ≤ v := by
    have : v = n % 32 := by subst hE; rw [hv]; exact rem32 (by omega)
    omega
  clear hv
  refine E_loop hE hG hm hl (shlS E x l v) m ok ⟨(0, E.rep (E.bin .add .i64 (E.bin .add .i64 (E.len x) l) 1)), (eok _).2 ?_, stLe rfl ?_⟩ ?_
  · refine ⟨by show (0 : Int) ≤ 0; omega, by show (0 : Int) ≤ x.length; omega, ?_⟩
    have := ShlInv.start x (n / 32).toNat (n % 32).toNat
    subst hE; simp only [NatCast.natCast, Int.ofNat_eq_natCast, realE, cmp_eql, cmp_neq, cmp_lss, cmp_leq, cmp_gtr, cmp_geq, intBinR, decide_eq_true_eq, decide_eq_false_iff_not, SI.val, SB.val, Num.eta, Iv.eta] at *; rw [eN, show ((x.length : Int) + n / 32 + 1).toNat = x.length + (n / 32).toNat + 1 by omega]
    exact this
  · (repeat' (first | exact t_nil | apply t_cons | exact u2_sli | exact u2_int | exact u2_bool | exact u2_ms | exact u2_ptr | exact (rfl : sle2 .s0 .s0)))
  rintro ⟨i, out⟩ hok
  have h1 : 0 ≤ i := ((eok _).1 hok).1
  have h2 : i ≤ x.length := ((eok _).1 hok).2.1
  have inv : ShlInv x out (n / 32).toNat (n % 32).toNat i.toNat := ((eok _).1 hok).2.2
  have hol := inv.len
  have fin : ¬ i < x.length → Lb out ∧ lim (lv out) = r := by
    intro h
    have inv' := inv
    rw [show i.toNat = x.length by omega] at inv'
    refine ⟨inv.lb, ?_⟩
    rw [inv'.stop, ← hr, if_neg (by omega), if_neg (by omega), vx, show 32 * (n / 32).toNat + (n % 32).toNat = n.toNat by omega]
  have ht : lim (lv a * 2 ^ n.toNat) = r := by rw [← hr, if_neg (by omega), if_neg (by omega)]
  clear hok hr ex
  cbv
  repeat' (first
    | (refine E_br hE (fun h => ?_) (fun h => ?_) <;> cbv)
    | (refine E_nm hE (fun v hv => ?_); cbv)
    | (refine E_nilS hE (fun b hb => ?_); cbv)
    | (apply E_callX hE (c_cut _ ?_ ?_); (case hf => rfl); (case hc => (cbv <;> trivial)); (case hle => exact u_up); all_goals (first | (intro t ht; cbv) | ((subst hE; simp only [NatCast.natCast, Int.ofNat_eq_natCast, realE, cmp_eql, cmp_neq, cmp_lss, cmp_leq, cmp_gtr, cmp_geq, intBinR, decide_eq_true_eq, decide_eq_false_iff_not, SI.val, SB.val, Num.eta, Iv.eta] at *; rw [eN] at *; rw [sub_all (by omega)]; first | exact (fin ‹_›).1 | omega))))
    | fail)
  case hK => subst hE; simp only [NatCast.natCast, Int.ofNat_eq_natCast, realE, cmp_eql, cmp_neq, cmp_lss, cmp_leq, cmp_gtr, cmp_geq, intBinR, decide_eq_true_eq, decide_eq_false_iff_not, SI.val, SB.val, Num.eta, Iv.eta] at *; rw [‹t = _›, eN, sub_all (by omega), (fin ‹_›).2]
  all_goals (try refine ⟨(E.bin .add .i64 i 1, _), ?_, ?_, stLe rfl ?_⟩)
  all_goals (try ((repeat' (first | exact t_nil | apply t_cons | exact u2_sli | exact u2_int | exact u2_bool | exact u2_ms | exact u2_ptr | exact (rfl : sle2 .s0 .s0))); done))
  all_goals (subst hE)
  all_goals (try (first | (rw [em, em]; exact (shl_next hx (by omega) n1 n2 h1 (lss_t ‹_›) inv ‹_› el er ‹_› ‹_› rfl).2.2.1) | (rw [eok]; have q := shl_next hx (by omega) n1 n2 h1 (lss_t ‹_›) inv ‹_› el er ‹_› ‹_› rfl; exact ⟨q.1, q.2.1, q.2.2.2⟩)))
  all_goals (clear inv eok em fin ht er el; simp only [NatCast.natCast, Int.ofNat_eq_natCast, realE, cmp_eql, cmp_neq, cmp_lss, cmp_leq, cmp_gtr, cmp_geq, intBinR, decide_eq_true_eq, decide_eq_false_iff_not, SI.val, SB.val, Num.eta, Iv.eta] at *; (try rw [eN] at *); clear eN; (try simp only [wi64] at *); omega)
def shrS (E : Env) (x : List Int) (l r : Int) : Int × List Int → St := fun p => ⟨[(0, .sli .u32 x), (5, .int .i64 (.s l)), (6, .int .i64 (.s r)), (7, .ms 0 1 (.l 0) (.s (E.bin .sub .i64 (E.len x) l))), (33, .int .i64 (.s (E.bin .sub .i64 (E.len x) l))), (34, .int .i64 (.s p.1))], [.ints true .u32 p.2]⟩
set_option maxHeartbeats 1000000 in
theorem c_natShr (a : List Int) (n : Int) (ha : Lb a) (hla : a.length < 67108864) : ∃ t : List Int, t = lim (lv a / 2 ^ n.toNat) ∧ CallsA Tryd.prog 43 [.sli .u32 a, .int .i64 (.s n)] (.sli .u32 t) := by
  refine ⟨_, rfl, ?_⟩
  generalize hr : lim (lv a / 2 ^ n.toNat) = r
  have hlx := lim_length_le' ha
  have hx := lim_lb (lv a)
  have vx := lv_lim (lv a)
  obtain ⟨x, ex⟩ : ∃ x, lim (lv a) = x := ⟨_, rfl⟩
  rw [ex] at hlx hx vx
  obtain ⟨m, em⟩ : ∃ m : Int × List Int → Nat, ∀ p, m p = (x.length - p.1).toNat := ⟨_, fun _ => rfl⟩
  obtain ⟨ok, eok⟩ : ∃ ok : Int × List Int → Prop, ∀ p, ok p ↔ 0 ≤ p.1 ∧ p.1 ≤ (x.length : Int) - n / 32 ∧ ShrInv x p.2 (n / 32).toNat (n % 32).toNat p.1.toNat := ⟨_, fun _ => Iff.rfl⟩
  have eN : ∀ l : Int, 1 ≤ n → n < 32 * x.length → l = intBinR .quo .i64 n 32 → IntKind.i64.wrap ((x.length : Int) - l) = x.length - n / 32 := by
    intro l n1 n2 el
    have : l = n / 32 := by rw [el]; exact quo32 (by omega) (by omega)
    rw [this, wi64_id (by omega) (by omega)]
  have e32 : IntKind.i64.wrap (32 * (x.length : Int)) = 32 * x.length := wi64_id (by omega) (by omega)
  have big : 32 * (x.length : Int) ≤ n → lv a / 2 ^ n.toNat = 0 := by
    intro h
    have h1 := lv_lt hx
    rw [vx] at h1
    apply Nat.div_eq_of_lt
    have h2 : 4294967296 ^ x.length = 2 ^ (32 * x.length) := by rw [Nat.pow_mul]
    have h3 : 2 ^ (32 * x.length) ≤ 2 ^ n.toNat := Nat.pow_le_pow_right (by omega) (by omega)
    omega
  refine callsA_of hG hm Tryd.func43 (by kernel_rfl) ?_
  intro E hE lp hl
  cbv
  (apply E_callX hE (c_cut a ha (by omega)); (case hf => rfl); (case hc => (cbv <;> trivial)); (case hle => exact ⟨u2_sli, trivial⟩); intro x' hx'; cbv)
  rw [hx'.trans ex]
  clear hx' x'
  refine E_br hE (fun h => ?_) (fun h => ?_)
  · have e : x = r := by subst hE; have := lss_t h; rw [← hr, ← ex, show n.toNat = 0 by omega, Nat.pow_zero, Nat.div_one]
    cbv
    repeat' (first
    | (refine E_br hE (fun h => ?_) (fun h => ?_) <;> cbv)
    | (refine E_nm hE (fun v hv => ?_); cbv)
    | (refine E_nilS hE (fun b hb => ?_); cbv)
    | (apply E_callX hE (c_Clone _ ?_); (case hf => rfl); (case hc => (cbv <;> trivial)); (case hle => exact u_up); all_goals (first | (intro t ht; cbv) | (omega)))
    | fail)
    exact ‹_ = x›.trans e
  have n1 : 1 ≤ n := by subst hE; have := lss_f h; omega
  refine E_br hE (fun h => ?_) (fun h => ?_)
  · have e : [] = r := by
      rw [← hr, big (by subst hE; have := geq_t h; simp only [realE, intBinR, NatCast.natCast, Int.ofNat_eq_natCast] at this e32; rw [e32] at this; omega)]; rfl
    cbv
    exact e.symm
  have n2 : n < 32 * x.length := by subst hE; have := geq_f h; simp only [realE, intBinR, NatCast.natCast, Int.ofNat_eq_natCast] at this e32; rw [e32] at this; omega
  cbv
  repeat' (first
    | (refine E_br hE (fun h => ?_) (fun h => ?_) <;> cbv)
    | (refine E_nm hE (fun v hv => ?_); cbv)
    | (refine E_nilS hE (fun b hb => ?_); cbv)
    | fail)
  all_goals (try (exfalso; have := eN _ n1 n2 (by subst hE; assumption); subst hE; simp only [NatCast.natCast, Int.ofNat_eq_natCast, realE, cmp_eql, cmp_neq, cmp_lss, cmp_leq, cmp_gtr, cmp_geq, intBinR, decide_eq_true_eq, decide_eq_false_iff_not, SI.val, SB.val, Num.eta, Iv.eta] at *; rw [this] at *; omega))
  rename_i l el _ _
  replace n2 : n < 32 * (x.length : Int) := n2
  replace eN := eN l n1 n2 (by subst hE; exact el)
  simp only [NatCast.natCast, Int.ofNat_eq_natCast] at eN
  have er := hv
  have l1 : l = n / 32 := by subst hE; rw [el]; exact quo32 (by omega) (by omega)
  have r1 : 0 ≤ v := by
    have : v = n % 32 := by subst hE; rw [hv]; exact rem32 (by omega)
    omega
  clear hv
  refine E_loop hE hG hm hl (shrS E x l v) m ok ⟨(0, E.rep (E.bin .sub .i64 (E.len x) l)), (eok _).2 ?_, stLe rfl ?_⟩ ?_
  · refine ⟨by show (0 : Int) ≤ 0; omega, by show (0 : Int) ≤ x.length - n / 32; omega, ?_⟩
    have := ShrInv.start x (n / 32).toNat (n % 32).toNat
    subst hE; simp only [NatCast.natCast, Int.ofNat_eq_natCast, realE, cmp_eql, cmp_neq, cmp_lss, cmp_leq, cmp_gtr, cmp_geq, intBinR, decide_eq_true_eq, decide_eq_false_iff_not, SI.val, SB.val, Num.eta, Iv.eta] at *; rw [eN, show ((x.length : Int) - n / 32).toNat = x.length - (n / 32).toNat by omega]
    exact this
  · (repeat' (first | exact t_nil | apply t_cons | exact u2_sli | exact u2_int | exact u2_bool | exact u2_ms | exact u2_ptr | exact (rfl : sle2 .s0 .s0)))
  rintro ⟨i, out⟩ hok
  have h1 : 0 ≤ i := ((eok _).1 hok).1
  have h2 : i ≤ x.length - n / 32 := ((eok _).1 hok).2.1
  have inv : ShrInv x out (n / 32).toNat (n % 32).toNat i.toNat := ((eok _).1 hok).2.2
  have hol := inv.len
  have fin : ¬ i < (x.length : Int) - n / 32 → Lb out ∧ lim (lv out) = r := by
    intro h
    have inv' := inv
    rw [show i.toNat = x.length - (n / 32).toNat by omega] at inv'
    refine ⟨inv.lb, ?_⟩
    rw [inv'.stop hx (by omega), ← hr, vx, show 32 * (n / 32).toNat + (n % 32).toNat = n.toNat by omega]
  clear hok hr ex
  cbv
  repeat' (first
    | (refine E_br hE (fun h => ?_) (fun h => ?_) <;> cbv)
    | (refine E_nm hE (fun v hv => ?_); cbv)
    | (refine E_nilS hE (fun b hb => ?_); cbv)
    | (apply E_callX hE (c_cut _ ?_ ?_); (case hf => rfl); (case hc => (cbv <;> trivial)); (case hle => exact u_up); all_goals (first | (intro t ht; cbv) | ((subst hE; simp only [NatCast.natCast, Int.ofNat_eq_natCast, realE, cmp_eql, cmp_neq, cmp_lss, cmp_leq, cmp_gtr, cmp_geq, intBinR, decide_eq_true_eq, decide_eq_false_iff_not, SI.val, SB.val, Num.eta, Iv.eta] at *; rw [eN] at *; rw [sub_all (by omega)]; first | exact (fin ‹_›).1 | omega))))
    | fail)
  case hK => subst hE; simp only [NatCast.natCast, Int.ofNat_eq_natCast, realE, cmp_eql, cmp_neq, cmp_lss, cmp_leq, cmp_gtr, cmp_geq, intBinR, decide_eq_true_eq, decide_eq_false_iff_not, SI.val, SB.val, Num.eta, Iv.eta] at *; rw [‹t = _›, eN, sub_all (by omega), (fin (by rw [← eN]; assumption)).2]
  all_goals (try refine ⟨(E.bin .add .i64 i 1, _), ?_, ?_, stLe rfl ?_⟩)
  all_goals (try ((repeat' (first | exact t_nil | apply t_cons | exact u2_sli | exact u2_int | exact u2_bool | exact u2_ms | exact u2_ptr | exact (rfl : sle2 .s0 .s0))); done))
  all_goals (subst hE)
  all_goals (try (
    have hi : i < IntKind.i64.wrap ((x.length : Int) - l) := lss_t ‹_›
    rw [eN] at hi
    first
      | (rw [em, em]; exact (shr_next hx (by omega) n1 n2 h1 hi inv ‹_› el er ‹_› (by first | exact .inr ‹_› | exact .inl ⟨lss_f ‹_›, rfl⟩) rfl).2.2.1)
      | (rw [eok]; have q := shr_next hx (by omega) n1 n2 h1 hi inv ‹_› el er ‹_› (by first | exact .inr ‹_› | exact .inl ⟨lss_f ‹_›, rfl⟩) rfl; exact ⟨q.1, q.2.1, q.2.2.2⟩)))
  all_goals (clear inv eok em fin er el e32 big; simp only [NatCast.natCast, Int.ofNat_eq_natCast, realE, cmp_eql, cmp_neq, cmp_lss, cmp_leq, cmp_gtr, cmp_geq, intBinR, decide_eq_true_eq, decide_eq_false_iff_not, SI.val, SB.val, Num.eta, Iv.eta] at *; (try rw [eN] at *); clear eN; (try simp only [wi64] at *); omega)

end Go.Proofs.YtpadpcjdakfokaaDoor.Ev

namespace Go.Proofs.YtpadpcjdakfokaaDoor.Ev
open Go Go.Proofs
set_option linter.unusedVariables false

theorem c_Least (l : List Num) (n : Int) (hn : n = l.length) (hb : n < 9223372036854775808) : ∃ t, t = Num.least l ∧ CallsA Tryd.prog 92 [.slc 4 (.s n) (fun i => Num.cells (l.getD i Num.zero))] (Num.av t) := by
  refine ⟨_, rfl, ?_⟩
  generalize hr : Num.least l = r
  obtain ⟨z, hz⟩ : ∃ z, z = Num.zero := ⟨_, rfl⟩
  rw [← hz]
  refine callsA_of hG hm Tryd.func92 (by kernel_rfl) ?_
  intro E hE lp hl
  cbv
  (apply E_callX hE (c_Inf _); (case hf => rfl); (case hc => (cbv <;> trivial)); (case hle => exact u_up); intro t ht; cbv)
  refine E_loopW hE hG hm hl (ι := Int × Num) (fun p => ⟨[(9, .int .i64 (.s p.1)), (8, .int .i64 (.s n)), (7, .slc 4 (.s n) (fun i => Num.cells (l.getD i z))), (3, .ptr 1 4 (.l 0) 0), (2, .ptr 0 4 (.l 0) 0)],
      [.rows true 4 [.int .i64 (.l 0), .bool (.l false), .int .u64 (.l 0), .int .i64 (.l 0)] [[.int .i64 (.l 0), .bool (.l false), .int .u64 (.l 0), .int .i64 (.l 0)]],
       .rows true 4 [.int .i64 (.l 0), .bool (.l false), .int .u64 (.l 0), .int .i64 (.l 0)] [Num.cells p.2]]⟩)
    (fun p => (n - p.1).toNat) (fun p => 0 ≤ p.1 ∧ p.1 ≤ n ∧ p.2 = Num.leastTo l p.1) (fun p => rfl) ⟨(0, t), ⟨Int.le_refl 0, (by show (0 : Int) ≤ n; rw [hn]; exact Int.natCast_nonneg _), ht⟩, stLe rfl ?_⟩ ?_
  · repeat' (first | exact t_nil | apply t_cons | exact u2_int | exact u2_ptr | exact u2_slc')
  rintro ⟨i, o⟩ ⟨h1, h2, h3⟩
  dsimp only at h1 h2 h3
  cbv
  repeat' (first
    | (refine E_br hE (fun h => ?_) (fun h => ?_) <;> cbv)
    | (refine E_nm hE (fun v hv => ?_); cbv)
    | (refine E_row hE (cell := Num.cells) (fun t ht => ?_); cbv)
    | (apply E_callX hE (c_Cmp ⟨_, _, _, _⟩ ⟨_, _, _, _⟩); (case hf => rfl); (case hc => (cbv <;> trivial)); (case hle => exact u_up); intro t ht; cbv)
    | (apply E_callX hE (c_fair ⟨_, _, _, _⟩); (case hf => rfl); (case hc => (cbv <;> trivial)); (case hle => exact u_up); intro t ht; cbv)
    | fail)
  all_goals (try (first
    | refine ⟨(E.bin .add .i64 i 1, t), ?_, ⟨?_, ?_, ?_⟩, stLeW rfl ⟨rfl, rfl, trivial⟩ ?_⟩
    | refine ⟨(E.bin .add .i64 i 1, o), ?_, ⟨?_, ?_, ?_⟩, stLeW rfl ⟨rfl, rfl, trivial⟩ ?_⟩))
  all_goals (try (refine w_cons ?_ rfl ?_; (repeat' (first | exact w_nil | refine w_cons ?_ rfl ?_ | exact u2_int | exact u2_ptr | exact u2_slc')); done))
  all_goals (subst hE; simp only [realE, cmp_lss, cmp_leq, intBinR, decide_eq_true_eq, decide_eq_false_iff_not, SI.val, SB.val, Num.eta] at *)
  all_goals (try rw [wi64_succ h1 ‹i < n› hb])
  all_goals (try omega)
  all_goals (replace hn : n = (l.length : Int) := hn)
  case hK.refine_2.refine_2 =>
    refine Num.fin (t := o) ?_
    have hi : i = n := by omega
    rw [← hr, h3, hi, hn, Num.leastTo_all]
  all_goals rw [Num.leastTo_succ l h1 (by omega), ← h3, ← hz, ← ‹_ = l.getD i.toNat z›]
  all_goals unfold Num.lesser
  all_goals (first | (rw [if_pos (by omega)]; assumption) | (rw [if_neg (by omega)]))

theorem c_Most (l : List Num) (n : Int) (hn : n = l.length) (hb : n < 9223372036854775808) : ∃ t, t = Num.most l ∧ CallsA Tryd.prog 93 [.slc 4 (.s n) (fun i => Num.cells (l.getD i Num.zero))] (Num.av t) := by
  refine ⟨_, rfl, ?_⟩
  generalize hr : Num.most l = r
  obtain ⟨z, hz⟩ : ∃ z, z = Num.zero := ⟨_, rfl⟩
  rw [← hz]
  refine callsA_of hG hm Tryd.func93 (by kernel_rfl) ?_
  intro E hE lp hl
  cbv
  (apply E_callX hE (c_Inf _); (case hf => rfl); (case hc => (cbv <;> trivial)); (case hle => exact u_up); intro t ht; cbv)
  refine E_loopW hE hG hm hl (ι := Int × Num) (fun p => ⟨[(9, .int .i64 (.s p.1)), (8, .int .i64 (.s n)), (7, .slc 4 (.s n) (fun i => Num.cells (l.getD i z))), (3, .ptr 1 4 (.l 0) 0), (2, .ptr 0 4 (.l 0) 0)],
      [.rows true 4 [.int .i64 (.l 0), .bool (.l false), .int .u64 (.l 0), .int .i64 (.l 0)] [[.int .i64 (.l 0), .bool (.l false), .int .u64 (.l 0), .int .i64 (.l 0)]],
       .rows true 4 [.int .i64 (.l 0), .bool (.l false), .int .u64 (.l 0), .int .i64 (.l 0)] [Num.cells p.2]]⟩)
    (fun p => (n - p.1).toNat) (fun p => 0 ≤ p.1 ∧ p.1 ≤ n ∧ p.2 = Num.mostTo l p.1) (fun p => rfl) ⟨(0, t), ⟨Int.le_refl 0, (by show (0 : Int) ≤ n; rw [hn]; exact Int.natCast_nonneg _), ht⟩, stLe rfl ?_⟩ ?_
  · repeat' (first | exact t_nil | apply t_cons | exact u2_int | exact u2_ptr | exact u2_slc')
  rintro ⟨i, o⟩ ⟨h1, h2, h3⟩
  dsimp only at h1 h2 h3
  cbv
  repeat' (first
    | (refine E_br hE (fun h => ?_) (fun h => ?_) <;> cbv)
    | (refine E_nm hE (fun v hv => ?_); cbv)
    | (refine E_row hE (cell := Num.cells) (fun t ht => ?_); cbv)
    | (apply E_callX hE (c_Cmp ⟨_, _, _, _⟩ ⟨_, _, _, _⟩); (case hf => rfl); (case hc => (cbv <;> trivial)); (case hle => exact u_up); intro t ht; cbv)
    | (apply E_callX hE (c_fair ⟨_, _, _, _⟩); (case hf => rfl); (case hc => (cbv <;> trivial)); (case hle => exact u_up); intro t ht; cbv)
    | fail)
  all_goals (try (first
    | refine ⟨(E.bin .add .i64 i 1, t), ?_, ⟨?_, ?_, ?_⟩, stLeW rfl ⟨rfl, rfl, trivial⟩ ?_⟩
    | refine ⟨(E.bin .add .i64 i 1, o), ?_, ⟨?_, ?_, ?_⟩, stLeW rfl ⟨rfl, rfl, trivial⟩ ?_⟩))
  all_goals (try (refine w_cons ?_ rfl ?_; (repeat' (first | exact w_nil | refine w_cons ?_ rfl ?_ | exact u2_int | exact u2_ptr | exact u2_slc')); done))
  all_goals (subst hE; simp only [realE, cmp_lss, cmp_leq, cmp_gtr, intBinR, decide_eq_true_eq, decide_eq_false_iff_not, SI.val, SB.val, Num.eta] at *)
  all_goals (try rw [wi64_succ h1 ‹i < n› hb])
  all_goals (try omega)
  all_goals (replace hn : n = (l.length : Int) := hn)
  case hK.refine_2.refine_2 =>
    refine Num.fin (t := o) ?_
    have hi : i = n := by omega
    rw [← hr, h3, hi, hn, Num.mostTo_all]
  all_goals rw [Num.mostTo_succ l h1 (by omega), ← h3, ← hz, ← ‹_ = l.getD i.toNat z›]
  all_goals unfold Num.greater
  all_goals (first | (rw [if_pos (by omega)]; assumption) | (rw [if_neg (by omega)]))

end Go.Proofs.YtpadpcjdakfokaaDoor.Ev

/- Contracts: the operations on intervals. -/
namespace Go.Proofs.YtpadpcjdakfokaaDoor.Ev
open Go Go.Proofs
set_option linter.unusedVariables false
theorem c_none (l : List Iv) (n : Int) (hn : n = l.length) (hb : n < 9223372036854775808) : ∃ t, t = Iv.anyBad l ∧ CallsA Tryd.prog 51 [.slc 9 (.s n) (fun i => Iv.cells (l.getD i Iv.none))] (.bool (.s t)) := by
  refine ⟨_, rfl, ?_⟩
  generalize hr : Iv.anyBad l = r
  obtain ⟨z, hz⟩ : ∃ z, z = Iv.none := ⟨_, rfl⟩
  rw [← hz]
  refine callsA_of hG hm Tryd.func51 (by kernel_rfl) ?_
  intro E hE lp hl
  cbv
  refine E_loopW hE hG hm hl (ι := Int) (fun i => ⟨[(7, .int .i64 (.s i)), (6, .int .i64 (.s n)), (5, .slc 9 (.s n) (fun i => Iv.cells (l.getD i z))), (2, .bool (.l false))], []⟩)
    (fun i => (n - i).toNat) (fun i => 0 ≤ i ∧ i ≤ n ∧ Iv.badTo l i = false) (fun p => rfl) ⟨0, ⟨Int.le_refl 0, (by show (0 : Int) ≤ n; rw [hn]; exact Int.natCast_nonneg _), rfl⟩, stLe rfl ?_⟩ ?_
  · repeat' (first | exact t_nil | apply t_cons | exact u2_int | exact u2_ptr | exact u2_slc' | exact (rfl : sle2 (.bool (.l false)) (.bool (.l false))))
  rintro i ⟨h1, h2, h3⟩
  cbv
  repeat' (first
    | (refine E_br hE (fun h => ?_) (fun h => ?_) <;> cbv)
    | (refine E_nm hE (fun v hv => ?_); cbv)
    | (refine E_row hE (cell := Iv.cells) (fun t ht => ?_); cbv)
    | (apply E_callX hE (c_ivMay ⟨_, ⟨_, _, _, _⟩, ⟨_, _, _, _⟩⟩); (case hf => rfl); (case hc => (cbv <;> trivial)); (case hle => exact u_up); intro t ht; cbv)
    | fail)
  all_goals (try refine ⟨E.bin .add .i64 i 1, ?_, ⟨?_, ?_, ?_⟩, stLeW rfl trivial ?_⟩)
  all_goals (try (refine w_cons ?_ rfl ?_; (repeat' (first | exact w_nil | refine w_cons ?_ rfl ?_ | exact u2_int | exact u2_ptr | exact u2_slc' | exact (rfl : sle2 (.bool (.l false)) (.bool (.l false))))); done))
  all_goals (subst hE; simp only [realE, cmp_lss, cmp_leq, intBinR, decide_eq_true_eq, decide_eq_false_iff_not, SI.val, SB.val, Num.eta, Iv.eta] at *)
  all_goals (try rw [wi64_succ h1 ‹i < n› hb])
  all_goals (try omega)
  all_goals (replace hn : n = (l.length : Int) := hn)
  all_goals subst hz
  case refine_2.refine_2 =>
    have hi : i = (l.length : Int) := by omega
    rw [← hr, ← Iv.badTo_all, ← hi, h3]
  all_goals first
    | (rw [← hr]; refine (Iv.anyBad_at l h1 (by omega) ?_).symm; rw [← ‹_ = l.getD i.toNat Iv.none›]; unfold Iv.bad; simp_all; done)
    | (rw [Iv.badTo_succ l h1 (by omega), h3, ← ‹_ = l.getD i.toNat Iv.none›]; unfold Iv.bad; simp_all; done)

theorem slc4 {a b c d : Num} {z : Num} : sle2 (.slc 4 (.l 4) (fun i => getRow [a.cells, b.cells, c.cells, d.cells] (Int.ofNat i))) (.slc 4 (.s 4) (fun i => Num.cells ([a, b, c, d].getD i z))) := by
  have r : ∀ {x : Num}, sleL sle0 x.cells x.cells := ⟨⟨rfl, rfl⟩, rfl, ⟨rfl, rfl⟩, ⟨rfl, rfl⟩, trivial⟩
  refine ⟨rfl, rfl, fun i hi => ?_⟩
  match i, hi with
  | 0, _ => exact r
  | 1, _ => exact r
  | 2, _ => exact r
  | 3, _ => exact r
  | i + 4, hi => exact absurd hi (by simp [SI.val])
theorem c_corners (a b : Iv) (f : FuncId) (F : Num → Num → Bool → Num) (ok : Num → Prop) (hF : ∀ x y up, ok x → ok y → ∃ t, t = F x y up ∧ CallsA Tryd.prog f [x.av, y.av, .bool (.s up)] t.av)
    (h1 : ok a.lo) (h2 : ok a.hi) (h3 : ok b.lo) (h4 : ok b.hi) :
    ∃ t, t = Iv.make (Num.least [F a.lo b.lo false, F a.lo b.hi false, F a.hi b.lo false, F a.hi b.hi false]) (Num.most [F a.lo b.lo true, F a.lo b.hi true, F a.hi b.lo true, F a.hi b.hi true]) ∧
      CallsA Tryd.prog 57 [a.av, b.av, .fn f []] t.av := by
  refine ⟨_, rfl, ?_⟩
  generalize hr : Iv.make (Num.least [F a.lo b.lo false, F a.lo b.hi false, F a.hi b.lo false, F a.hi b.hi false]) (Num.most [F a.lo b.lo true, F a.lo b.hi true, F a.hi b.lo true, F a.hi b.hi true]) = r
  refine callsA_of hG hm Tryd.func57 (by kernel_rfl) ?_
  intro E hE lp hl
  cbv
  refine E_in hE hG hm Tryd.func91 (by kernel_rfl) (fun lp2 hl2 => ?_)
  cbv
  (apply E_pcallX hE (hF a.lo b.lo false h1 h3); (case hm => rfl); (case hle => exact u_up); intro s1 es1; cbv)
  (apply E_pcallX hE (hF a.lo b.hi false h1 h4); (case hm => rfl); (case hle => exact u_up); intro s2 es2; cbv)
  (apply E_pcallX hE (hF a.hi b.lo false h2 h3); (case hm => rfl); (case hle => exact u_up); intro s3 es3; cbv)
  (apply E_pcallX hE (hF a.hi b.hi false h2 h4); (case hm => rfl); (case hle => exact u_up); intro s4 es4; cbv)
  (apply E_callX hE (c_Least [s1, s2, s3, s4] 4 rfl (by decide)); (case hf => rfl); (case hc => (cbv <;> trivial)); (case hle => exact ⟨slc4, trivial⟩); intro lo elo; cbv)
  refine E_in hE hG hm Tryd.func91 (by kernel_rfl) (fun lp3 hl3 => ?_)
  cbv
  (apply E_pcallX hE (hF a.lo b.lo true h1 h3); (case hm => rfl); (case hle => exact u_up); intro t1 et1; cbv)
  (apply E_pcallX hE (hF a.lo b.hi true h1 h4); (case hm => rfl); (case hle => exact u_up); intro t2 et2; cbv)
  (apply E_pcallX hE (hF a.hi b.lo true h2 h3); (case hm => rfl); (case hle => exact u_up); intro t3 et3; cbv)
  (apply E_pcallX hE (hF a.hi b.hi true h2 h4); (case hm => rfl); (case hle => exact u_up); intro t4 et4; cbv)
  (apply E_callX hE (c_Most [t1, t2, t3, t4] 4 rfl (by decide)); (case hf => rfl); (case hc => (cbv <;> trivial)); (case hle => exact ⟨slc4, trivial⟩); intro hi ehi; cbv)
  (apply E_callX hE (c_ivMake ⟨_, _, _, _⟩ ⟨_, _, _, _⟩); (case hf => rfl); (case hc => (cbv <;> trivial)); (case hle => exact u_up); intro t ht; cbv)
  have e : t = r := by
    rw [← hr]
    refine ht.trans ?_
    show Iv.make lo hi = _
    rw [elo, ehi, es1, es2, es3, es4, et1, et2, et3, et4]
  subst e
  exact ⟨rfl, rfl, rfl, rfl, rfl, rfl, rfl, rfl, rfl, trivial⟩
end Go.Proofs.YtpadpcjdakfokaaDoor.Ev

/- Contracts: the product of intervals. -/
namespace Go.Proofs.YtpadpcjdakfokaaDoor.Ev
open Go Go.Proofs
set_option linter.unusedVariables false

theorem iv_cells_self {x : Iv} : sleL sle0 x.cells x.cells :=
  ⟨rfl, ⟨rfl, rfl⟩, rfl, ⟨rfl, rfl⟩, ⟨rfl, rfl⟩, ⟨rfl, rfl⟩, rfl, ⟨rfl, rfl⟩, ⟨rfl, rfl⟩, trivial⟩
theorem slcO2 {P : Program} {E : Env} (hE : E = realE P) {a b z : Iv} {d : List AV} : sle2 (.slc 9 (.l 2) (E.rfun [a.cells, b.cells] 0 d)) (.slc 9 (.s 2) (fun i => Iv.cells ([a, b].getD i z))) := by
  subst hE
  refine ⟨rfl, rfl, fun i hi => ?_⟩
  match i, hi with
  | 0, _ => exact iv_cells_self
  | 1, _ => exact iv_cells_self
  | i + 2, hi => exact absurd hi (by simp [SI.val])

theorem c_opMul (a b : Iv) (h1 : a.lo.ok) (h2 : a.hi.ok) (h3 : b.lo.ok) (h4 : b.hi.ok) : ∃ t, t = Iv.mul a b ∧ CallsA Tryd.prog 23 [a.av, b.av] t.av := by
  refine ⟨_, rfl, ?_⟩
  generalize hr : Iv.mul a b = r
  refine callsA_of hG hm Tryd.func23 (by kernel_rfl) ?_
  intro E hE lp hl
  cbv
  (apply E_callX hE (c_none [a, b] 2 rfl (by decide)); (case hf => rfl); (case hc => (cbv <;> trivial)); (case hle => exact ⟨slcO2 hE, trivial⟩); intro t ht; cbv)
  refine E_br hE (fun h => ?_) (fun h => ?_) <;> cbv
  · (apply E_callX hE c_ivNone; (case hf => rfl); (case hc => (cbv <;> trivial)); (case hle => exact trivial); intro t' ht'; cbv)
    have e : t' = r := by
      rw [← hr, ht']; unfold Iv.mul; rw [if_pos (by rw [← ht]; exact h)]
    subst e
    exact ⟨rfl, rfl, rfl, rfl, rfl, rfl, rfl, rfl, rfl, trivial⟩
  · (apply E_callX hE (c_corners a b 58 Num.mul Num.ok (fun x y up hx hy => c_arMul x y up hx hy) h1 h2 h3 h4); (case hf => rfl); (case hc => (cbv <;> trivial)); (case hle => (repeat' (first | exact u_nil | apply u_cons | apply u2_agg | exact u2_int | exact u1_int | exact u2_bool | exact u1_bool | exact u2_sli | exact u1_sli | exact u2_s0 | exact u1_s0 | exact u2_fn))); intro t' ht'; cbv)
    have e : t' = r := by
      rw [← hr, ht']; unfold Iv.mul; rw [if_neg (by rw [← ht, h]; simp)]; rfl
    subst e
    exact ⟨rfl, rfl, rfl, rfl, rfl, rfl, rfl, rfl, rfl, trivial⟩
end Go.Proofs.YtpadpcjdakfokaaDoor.Ev
