/- Texts of the proof, joined: R5 Br2 R6 R7 R8 R9 R10 Br3 R11 Pu4 R12 R13 Br4 Pu5 Pu6 Pu8 R14 R15 R16 Pu9 Pu10 R17 Pu11 Pu7 Pu12 Pu13 Pu14 Pu15 Pu16 -/
import Derived.Test.YtpadpcjdakfokaaGreatDoorB3
set_option linter.unusedVariables false
set_option linter.unusedSimpArgs false

/- Contracts of the reference: the product. Printed by gen.py. -/
namespace Go.Proofs.YtpadpcjdakfokaaGreatDoor.Ev
open Go Go.Proofs
set_option linter.unusedVariables false
set_option linter.unusedSimpArgs false

attribute [local irreducible] Lb
def rrowS (a b U : List Int) (i N : Int) : Int × Int × Option (List Int × Int) → St
  | (k, c, none) => ⟨[(0, .sli .u32 a), (1, .sli .u32 b), (5, .ms 1 1 (.l 0) (.s N)), (6, .int .i64 (.s i)), (8, .s0), (9, .int .u64 (.s c)), (10, .int .i64 (.s k))], [.dead, .ints true .u32 U]⟩
  | (k, c, some (l, n)) => ⟨[(0, .sli .u32 a), (1, .sli .u32 b), (5, .ms 1 1 (.l 0) (.s N)), (6, .int .i64 (.s i)), (8, .ms 2 1 (.l 0) (.s n)), (9, .int .u64 (.s c)), (10, .int .i64 (.s k))], [.dead, .ints true .u32 U, .ints true .u32 l]⟩
theorem up_sub (o : List Int) : (((([0] : List Int).drop (0 : Int).toNat).take (1 : Int).toNat ++ o).drop (0 : Int).toNat).take (1 + (o.length : Int)).toNat = [0] ++ o := by
  rw [show (1 + (o.length : Int)).toNat = o.length + 1 by omega]
  simp
theorem row_sub {l : List Int} {n x : Int} (h : n = l.length) : ((((l.drop (0 : Int).toNat).take n.toNat) ++ (([x] : List Int).drop (0 : Int).toNat).take (1 : Int).toNat).drop (0 : Int).toNat).take (n + 1).toNat = l ++ [x] := by
  rw [rsub_all h, show (n + 1).toNat = l.length + 1 by omega]
  show ((l ++ [x]).drop 0).take (l.length + 1) = l ++ [x]
  rw [List.drop_zero, List.take_of_length_le (by simp)]
theorem rrow_word {x y c v : Int} (hx : 0 ≤ x ∧ x < 4294967296) (hy : 0 ≤ y ∧ y < 4294967296) (hc : 0 ≤ c ∧ c < 4294967296) (hv : v = IntKind.u64.wrap (IntKind.u64.wrap (IntKind.u64.wrap x * IntKind.u64.wrap y) + c)) :
    IntKind.u32.wrap (intBinR .rem .u64 v 4294967296) = (x * y + c) % 4294967296 ∧ intBinR .quo .u64 v 4294967296 = (x * y + c) / 4294967296 := by
  have d := row_digit hx hy hc
  have e : v = x * y + c := by
    rw [hv, wu64_id (x := x) (by omega) (by omega), wu64_id (x := y) (by omega) (by omega), wu64_id (x := x * y) (by omega) (by omega), wu64_id (by omega) (by omega)]
  subst e
  rw [rem_u64 (by omega), quo_u64 (by omega) (by omega), wu32]
  exact ⟨by omega, rfl⟩
theorem c_rMul (a b : List Int) (ha : Lb a) (hb : Lb b) (hla : a.length < 67108864) (hlb : b.length < 67108864) : ∃ t : List Int, t = lim (lv a * lv b) ∧ CallsA Tryz.prog 199 [.sli .u32 a, .sli .u32 b] (.sli .u32 t) := by
  refine ⟨_, rfl, ?_⟩
  generalize hr : lim (lv a * lv b) = r
  refine callsA_of hG hm Tryz.func199 (by kernel_rfl) ?_
  intro E hE lp hl
  cbv
  refine E_nm hE (fun n0 hn0 => ?_)
  cbv
  obtain ⟨m, em⟩ : ∃ m : Int × List Int → Nat, ∀ p, m p = (p.1 + 1).toNat := ⟨_, fun _ => rfl⟩
  obtain ⟨ok, eok⟩ : ∃ ok : Int × List Int → Prop, ∀ p, ok p ↔ (-1 ≤ p.1 ∧ p.1 < b.length ∧ p.2 = lim (lv a * lv (b.drop (p.1 + 1).toNat))) := ⟨_, fun _ => Iff.rfl⟩
  refine E_loopM hE hG hm hl (fun p : Int × List Int => (⟨[(0, .sli .u32 a), (1, .sli .u32 b), (5, .sli .u32 p.2), (6, .int .i64 (.s p.1))], []⟩ : St)) m ok ⟨(n0, []), [], ?_, stLeM trivial rfl rfl rfl trivial ?_⟩ ?_
  · have e : n0 = (b.length : Int) - 1 := by
      subst hE
      replace hn0 : n0 = IntKind.i64.wrap ((b.length : Int) - 1) := hn0
      rw [hn0, wi64]; omega
    refine (eok _).2 ⟨by show -1 ≤ n0; omega, by show n0 < _; omega, ?_⟩
    show [] = lim (lv a * lv (b.drop (n0 + 1).toNat))
    rw [e, show ((b.length : Int) - 1 + 1).toNat = b.length by omega, List.drop_length]; rfl
  · (repeat' (first | exact m_nil | refine m_consA (ms_le rfl rfl) rfl ?_ | refine m_cons ?_ rfl ?_ | exact u2_int | exact u2_bool | exact u2_sli | exact (rfl : sle2 .s0 .s0) | exact u2_s0))
  rintro ⟨i, o⟩ hok
  have h1 := ((eok _).1 hok).1
  have h2 := ((eok _).1 hok).2.1
  have h3 := ((eok _).1 hok).2.2
  dsimp only at h1 h2 h3
  have olen : o.length ≤ 134217728 := by
    have k : lv a * lv (b.drop (i + 1).toNat) < 4294967296 ^ (a.length + b.length) := by
      rw [Nat.pow_add]
      have l1 := lv_lt ha
      have l2 := lv_lt (hb.drop (i + 1).toNat)
      have l3 : 4294967296 ^ (b.drop (i + 1).toNat).length ≤ 4294967296 ^ b.length := Nat.pow_le_pow_right (by decide) (by simp)
      exact Nat.mul_lt_mul'' l1 (by omega)
    have := lim_length_le k
    rw [h3]; omega
  have fin : ∀ (t L : List Int) (c : Int), 0 ≤ i → RRow a (b.getD i.toNat 0) L a.length c → t = lim (lv ([0] ++ o) + lv (L ++ [IntKind.u32.wrap c])) → m (i - 1, t) < m (i, o) ∧ ok (i - 1, t) := by
    intro t L c hi hR ht
    have st := hR.stop
    have c0 := hR.c0
    have c1 := hR.c1
    rw [show IntKind.u32.wrap c = c by rw [wu32]; omega] at ht
    refine ⟨by rw [em, em]; show (i - 1 + 1).toNat < (i + 1).toNat; omega, (eok _).2 ⟨by show -1 ≤ i - 1; omega, by show i - 1 < (b.length : Int); omega, ?_⟩⟩
    show t = lim (lv a * lv (b.drop (i - 1 + 1).toNat))
    rw [ht, st.2, lv_zero_cons, h3, lv_lim, show (i - 1 + 1).toNat = i.toNat by omega, lv_drop_step b i.toNat, show (i + 1).toNat = i.toNat + 1 by omega]
    congr 1
    rw [Nat.mul_add, Nat.add_comm]
    congr 1
    rw [Nat.mul_left_comm]
  have bnds : ∀ (L : List Int) (c : Int), RRow a (b.getD i.toNat 0) L a.length c → Lb ([0] ++ o) ∧ ([0] ++ o).length < 268435456 ∧ Lb (L ++ [IntKind.u32.wrap c]) ∧ (L ++ [IntKind.u32.wrap c]).length < 268435456 := by
    intro L c hR
    have c0 := hR.c0
    have c1 := hR.c1
    rw [show IntKind.u32.wrap c = c by rw [wu32]; omega]
    exact ⟨Lb.cons (by omega) (by omega) (by rw [h3]; exact lim_lb _), by simp; omega, hR.stop.1, by simp [hR.len]; omega⟩
  have last : ¬ 0 ≤ i → Lb o ∧ o.length ≤ 268435456 ∧ lim (lv o) = r := by
    intro hi
    rw [h3, lv_lim, show (i + 1).toNat = 0 by omega, List.drop_zero]
    exact ⟨lim_lb _, by rw [h3, show (i + 1).toNat = 0 by omega, List.drop_zero] at olen; omega, hr⟩
  have es1 : E.sub (E.app (E.sub [0] 0 1) o) 0 (E.plus 1 (E.len o)) = [0] ++ o := by subst hE; exact up_sub o
  have wpi : 0 ≤ i → IntKind.i64.wrap (i - 1) = i - 1 := fun p => by rw [wi64]; omega
  clear h3 hok
  obtain ⟨m2, em2⟩ : ∃ m : Int × Int × Option (List Int × Int) → Nat, ∀ p, m p = ((a.length : Int) - p.1).toNat := ⟨_, fun _ => rfl⟩
  obtain ⟨ok2, eok2⟩ : ∃ ok : Int × Int × Option (List Int × Int) → Prop, ∀ p, ok p ↔ (0 ≤ p.1 ∧ p.1 ≤ (a.length : Int) ∧ RRow a (b.getD i.toNat 0) (raddL p.2.2) p.1.toNat p.2.1 ∧ raddN p.2.2 = (raddL p.2.2).length) := ⟨_, fun _ => Iff.rfl⟩
  have hbi := hb.getD i.toNat
  have start2 : ok2 (0, 0, none) := (eok2 _).2 ⟨Int.le_refl _, by show (0 : Int) ≤ _; omega, RRow.start a _, rfl⟩
  have next : ∀ k c o' (v x : Int), ok2 (k, c, o') → k < a.length → x = a.getD k.toNat 0 → v = IntKind.u64.wrap (IntKind.u64.wrap (IntKind.u64.wrap x * IntKind.u64.wrap (b.getD i.toNat 0)) + c) →
      m2 (IntKind.i64.wrap (k + 1), intBinR .quo .u64 v 4294967296, some (raddL o' ++ [IntKind.u32.wrap (intBinR .rem .u64 v 4294967296)], raddN o' + 1)) < m2 (k, c, o') ∧
      ok2 (IntKind.i64.wrap (k + 1), intBinR .quo .u64 v 4294967296, some (raddL o' ++ [IntKind.u32.wrap (intBinR .rem .u64 v 4294967296)], raddN o' + 1)) := by
    intro k c o' v x hok hc hx hv
    obtain ⟨q1, q2, q3, q4⟩ := (eok2 _).1 hok
    dsimp only at q1 q2 q3 q4
    have gx := ha.getD k.toNat
    have c0 := q3.c0
    have c1 := q3.c1
    have st := q3.step ha hbi
    rw [← hx] at st gx
    have w := rrow_word gx hbi ⟨c0, c1⟩ hv
    rw [w.1, w.2, wi64_id (by omega) (by omega)]
    refine ⟨by rw [em2, em2]; show ((a.length : Int) - (k + 1)).toNat < ((a.length : Int) - k).toNat; omega, (eok2 _).2 ⟨by show 0 ≤ k + 1; omega, by show k + 1 ≤ (a.length : Int); omega, by show RRow a _ _ (k + 1).toNat _; rw [show (k + 1).toNat = k.toNat + 1 by omega]; exact st, ?_⟩⟩
    show raddN o' + 1 = ((raddL o' ++ _).length : Int)
    rw [q4]; simp
  have stop : ∀ k c o', ok2 (k, c, o') → ¬ k < a.length → RRow a (b.getD i.toNat 0) (raddL o') a.length c := by
    intro k c o' hok n1
    obtain ⟨q1, q2, q3, q4⟩ := (eok2 _).1 hok
    dsimp only at q1 q2 q3 q4
    rw [show k.toNat = a.length by omega] at q3
    exact q3
  have bnd : ∀ k c o', ok2 (k, c, o') → 0 ≤ k ∧ k < 9223372036854775807 ∧ 0 ≤ raddN o' ∧ raddN o' < 17179869184 ∧ raddN o' = (raddL o').length := by
    intro k c o' hok
    obtain ⟨q1, q2, q3, q4⟩ := (eok2 _).1 hok
    dsimp only at q1 q2 q3 q4
    refine ⟨q1, by omega, by rw [q4]; omega, by rw [q4, q3.len]; omega, q4⟩
  cbv
  refine E_br hE (fun hi => ?_) (fun hi => ?_) <;> cbv
  · have hi0 : 0 ≤ i := by subst hE; exact geq_t hi
    refine E_br hE (fun hle => ?_) (fun hle => ?_) <;> cbv
    · refine E_loopM hE hG hm hl (rrowS a b (E.app (E.sub [0] 0 1) o) i (E.plus 1 (E.len o))) m2 ok2 ⟨(0, 0, none), [0, 1], start2, stLeM ⟨rfl, trivial⟩ rfl rfl rfl trivial ?_⟩ ?_
      · (repeat' (first | exact m_nil | refine m_consA (ms_le rfl rfl) rfl ?_ | refine m_cons ?_ rfl ?_ | exact u2_int | exact u2_bool | exact u2_sli | exact (rfl : sle2 .s0 .s0) | exact u2_s0))
      rintro ⟨k, c, (_ | ⟨l, n⟩)⟩ hok2
      · have nx := fun v x => next k c none v x hok2
        have sp := stop k c none hok2
        have bd := bnd k c none hok2
        have es2 : E.sub (E.sub [E.conv .u32 c] 0 1) 0 1 = [] ++ [E.conv .u32 c] := by subst hE; rfl
        clear next stop bnd hok2
        cbv
        repeat' (first
    | (refine E_br hE (fun h => ?_) (fun h => ?_) <;> cbv)
    | (refine E_nm hE (fun v hv => ?_); cbv)
    | (refine E_nilS hE (fun b hb => ?_); cbv)
    | (apply E_callX hE (c_rAdd _ _ ?_ ?_ ?_ ?_); (case hf => rfl); (case hc => (cbv <;> trivial)); (case hle => exact u_up); all_goals (first | (intro t ht; cbv) | ((have q : ¬ k < a.length := (by subst hE; exact lss_f (by assumption)); have q := bnds _ c (sp q); first | (show Lb (E.sub (E.app (E.sub [0] 0 1) o) 0 (E.plus 1 (E.len o))); rw [es1]; exact q.1) | (show (E.sub (E.app (E.sub [0] 0 1) o) 0 (E.plus 1 (E.len o))).length < _; rw [es1]; exact q.2.1) | (subst hE; exact q.2.2.1) | (subst hE; exact q.2.2.2)))))
    | fail)
        all_goals (try (exfalso; subst hE; first
          | exact absurd bd.1 (leq_f (by assumption))
          | exact absurd hi0 (leq_f (by assumption))
          | exact absurd h2 (lss_f (by assumption))
          | exact absurd (lss_t (a := k) (b := (a.length : Int)) (by assumption)) (lss_f (by assumption))
          | (have k1 := leq_f (by assumption); apply k1; have k2 := bd.2.2.2.1; show n + 1 ≤ 17179869184; have k3 : n < 17179869184 := k2; omega)))
        case refine_3.refine_1.refine_1.refine_2.none.refine_2.hK =>
          refine ⟨(v, t), [], ?_, ?_, stLeM trivial rfl rfl rfl trivial ?_⟩
          rotate_right
          · (repeat' (first | exact m_nil | refine m_consA (ms_le rfl rfl) rfl ?_ | refine m_cons ?_ rfl ?_ | exact u2_int | exact u2_bool | exact u2_sli | exact (rfl : sle2 .s0 .s0) | exact u2_s0))
          all_goals (replace ht : t = lim (lv (E.sub (E.app (E.sub [0] 0 1) o) 0 (E.plus 1 (E.len o))) + lv (E.sub (E.sub [E.conv .u32 c] 0 1) 0 1)) := ht; rw [es1, es2] at ht; subst hE; have q := fin t _ c hi0 (sp (lss_f (by assumption))) ht; have hv' : v = IntKind.i64.wrap (i - 1) := hv; rw [wpi hi0] at hv'; subst hv'; first | exact q.1 | exact q.2)
        all_goals rename_i v1 hv1 w hw
        all_goals refine ⟨(v, w, some (E.sub [E.conv .u32 (E.bin .rem .u64 v1 4294967296)] 0 1, 1)), [0, 1, 3], ?_, ?_, stLeM ⟨rfl, rfl, trivial⟩ rfl rfl rfl trivial ?_⟩
        all_goals (try ((repeat' (first | exact m_nil | refine m_consA (ms_le rfl rfl) rfl ?_ | refine m_cons ?_ rfl ?_ | exact u2_int | exact u2_bool | exact u2_sli | exact (rfl : sle2 .s0 .s0) | exact u2_s0)); done))
        all_goals (subst hE; have q := nx v1 _ (lss_t (by assumption)) rfl hv1; have hv' : v = IntKind.i64.wrap (k + 1) := hv; have hw' : w = intBinR .quo .u64 v1 4294967296 := hw; subst hv'; subst hw'; first | exact q.1 | exact q.2)
      · have nx := fun v x => next k c (some (l, n)) v x hok2
        have sp := stop k c (some (l, n)) hok2
        have bd := bnd k c (some (l, n)) hok2
        have sl : (l.drop (0 : Int).toNat).take n.toNat = l := rsub_all bd.2.2.2.2
        have es2 : E.sub (E.app (E.sub l 0 n) (E.sub [E.conv .u32 c] 0 1)) 0 (E.plus n 1) = l ++ [E.conv .u32 c] := by subst hE; exact row_sub bd.2.2.2.2
        clear next stop bnd hok2
        cbv
        repeat' (first
    | (refine E_br hE (fun h => ?_) (fun h => ?_) <;> cbv)
    | (refine E_nm hE (fun v hv => ?_); cbv)
    | (refine E_nilS hE (fun b hb => ?_); cbv)
    | (apply E_callX hE (c_rAdd _ _ ?_ ?_ ?_ ?_); (case hf => rfl); (case hc => (cbv <;> trivial)); (case hle => exact u_up); all_goals (first | (intro t ht; cbv) | ((have q : ¬ k < a.length := (by subst hE; exact lss_f (by assumption)); have q := bnds _ c (sp q); first | (show Lb (E.sub (E.app (E.sub [0] 0 1) o) 0 (E.plus 1 (E.len o))); rw [es1]; exact q.1) | (show (E.sub (E.app (E.sub [0] 0 1) o) 0 (E.plus 1 (E.len o))).length < _; rw [es1]; exact q.2.1) | (show Lb (E.sub (E.app (E.sub l 0 n) (E.sub [E.conv .u32 c] 0 1)) 0 (E.plus n 1)); rw [es2]; subst hE; exact q.2.2.1) | (show (E.sub (E.app (E.sub l 0 n) (E.sub [E.conv .u32 c] 0 1)) 0 (E.plus n 1)).length < _; rw [es2]; subst hE; exact q.2.2.2)))))
    | fail)
        all_goals (try (exfalso; subst hE; first
          | exact absurd bd.1 (leq_f (by assumption))
          | exact absurd hi0 (leq_f (by assumption))
          | exact absurd h2 (lss_f (by assumption))
          | exact absurd (lss_t (a := k) (b := (a.length : Int)) (by assumption)) (lss_f (by assumption))
          | (have k1 := leq_f (by assumption); apply k1; have k2 := bd.2.2.2.1; show n + 1 ≤ 17179869184; have k3 : n < 17179869184 := k2; omega)))
        case refine_3.refine_1.refine_1.refine_2.some.refine_2.refine_1.hK =>
          refine ⟨(v, t), [], ?_, ?_, stLeM trivial rfl rfl rfl trivial ?_⟩
          rotate_right
          · (repeat' (first | exact m_nil | refine m_consA (ms_le rfl rfl) rfl ?_ | refine m_cons ?_ rfl ?_ | exact u2_int | exact u2_bool | exact u2_sli | exact (rfl : sle2 .s0 .s0) | exact u2_s0))
          all_goals (replace ht : t = lim (lv (E.sub (E.app (E.sub [0] 0 1) o) 0 (E.plus 1 (E.len o))) + lv (E.sub (E.app (E.sub l 0 n) (E.sub [E.conv .u32 c] 0 1)) 0 (E.plus n 1))) := ht; rw [es1, es2] at ht; subst hE; have q := fin t _ c hi0 (sp (lss_f (by assumption))) ht; have hv' : v = IntKind.i64.wrap (i - 1) := hv; rw [wpi hi0] at hv'; subst hv'; first | exact q.1 | exact q.2)
        all_goals rename_i v1 hv1 w hw
        all_goals refine ⟨(v, w, some (E.app (E.sub l 0 n) (E.sub [E.conv .u32 (E.bin .rem .u64 v1 4294967296)] 0 1), E.plus n 1)), [0, 1, 4], ?_, ?_, stLeM ⟨rfl, rfl, trivial⟩ rfl rfl rfl trivial ?_⟩
        all_goals (try ((repeat' (first | exact m_nil | refine m_consA (ms_le rfl rfl) rfl ?_ | refine m_cons ?_ rfl ?_ | exact u2_int | exact u2_bool | exact u2_sli | exact (rfl : sle2 .s0 .s0) | exact u2_s0)); done))
        all_goals (subst hE; have q := nx v1 _ (lss_t (by assumption)) rfl hv1; have hv' : v = IntKind.i64.wrap (k + 1) := hv; have hw' : w = intBinR .quo .u64 v1 4294967296 := hw; subst hv'; subst hw'; rw [show (realE Tryz.prog).sub l 0 n = l from sl]; first | exact q.1 | exact q.2)
    · exfalso
      subst hE
      have k1 := leq_f hle
      apply k1
      show 1 + (o.length : Int) ≤ 17179869184
      omega
  · repeat' (first
    | (refine E_br hE (fun h => ?_) (fun h => ?_) <;> cbv)
    | (refine E_nm hE (fun v hv => ?_); cbv)
    | (refine E_nilS hE (fun b hb => ?_); cbv)
    | (apply E_callX hE (c_rTrim _ ?_ ?_); (case hf => rfl); (case hc => (cbv <;> trivial)); (case hle => exact u_up); all_goals (first | (intro t ht; cbv) | ((have q : ¬ 0 ≤ i := (by subst hE; exact geq_f hi); first | exact (last q).1 | exact (last q).2.1))))
    | fail)
    subst hE
    rw [ht]
    exact (last (geq_f hi)).2.2

end Go.Proofs.YtpadpcjdakfokaaGreatDoor.Ev

/- The reference's shifts and its division bit by bit: plain Lean. -/
namespace Go.Proofs.YtpadpcjdakfokaaGreatDoor.Ev
open Go

theorem blen_half {t : Int} (h : 0 < t) : blen t = blen (t / 2) + 1 := by
  rcases Int.lt_or_le t 2 with k | k
  · have : t = 1 := by omega
    subst this; decide
  · have := blen_div (x := t) 1 k
    simp at this
    omega
theorem quo2_u32 {t : Int} (h : 0 ≤ t) (h' : t < 4294967296) : intBinR .quo .u32 t 2 = t / 2 := by
  show IntKind.u32.wrap (t.tdiv 2) = _
  rw [Int.tdiv_eq_ediv_of_nonneg h, wu32]; omega
theorem two_le {r : Nat} (h : r < 32) : (2 : Int) ^ r ≤ 2147483648 ∧ 0 < (2 : Int) ^ r := by
  have h1 : (2 : Nat) ^ r ≤ 2 ^ 31 := Nat.pow_le_pow_right (by decide) (by omega)
  have h2 : 0 < (2 : Nat) ^ r := Nat.pow_pos (by decide)
  rw [pow2_cast]
  omega
theorem shl_one {r : Int} (h0 : 0 ≤ r) (h1 : r < 32) : intBinR .shl .u32 1 r = 2 ^ r.toNat := by
  show IntKind.u32.wrap (1 * 2 ^ min r.toNat IntKind.u32.bits) = _
  rw [Nat.min_eq_left (show r.toNat ≤ IntKind.u32.bits by show r.toNat ≤ 32; omega), Int.one_mul, wu32]
  have := two_le (r := r.toNat) (by omega)
  omega
theorem shr_u64 {x r : Int} (h0 : 0 ≤ r) (h1 : r < 32) : intBinR .shr .u64 x r = x / 2 ^ r.toNat := by
  show x.fdiv (2 ^ min r.toNat IntKind.u64.bits) = _
  rw [Nat.min_eq_left (show r.toNat ≤ IntKind.u64.bits by show r.toNat ≤ 64; omega)]
  exact Int.fdiv_eq_ediv_of_nonneg _ (Int.le_of_lt (Int.pow_pos (by decide)))
theorem pow_split (i : Nat) : (2 : Nat) ^ i = 4294967296 ^ (i / 32) * 2 ^ (i % 32) := by
  rw [show (4294967296 : Nat) = 2 ^ 32 from rfl, ← Nat.pow_mul, ← Nat.pow_add]
  congr 1; omega
theorem two_pow_32 {r : Nat} (h : r < 32) : (4294967296 : Nat) = 2 ^ r * (2 ^ (31 - r) * 2) := by
  rw [← Nat.pow_succ, ← Nat.pow_add, show r + (31 - r + 1) = 32 by omega]
/-- the number from a limb on -/
theorem lv_from {a : List Int} (ha : Lb a) (k : Nat) : lv a / 4294967296 ^ k = (a.getD k 0).toNat + 4294967296 * lv (a.drop (k + 1)) := by
  rcases Nat.lt_or_ge a.length k with h | h
  · rw [getD_past (by omega), List.drop_eq_nil_of_le (by omega)]
    have l := lv_lt ha
    have p : (4294967296 : Nat) ^ a.length ≤ 4294967296 ^ k := Nat.pow_le_pow_right (by decide) (by omega)
    rw [Nat.div_eq_of_lt (by omega)]; rfl
  · rw [← lv_drop ha k h, lv_drop_cons]
theorem bit_eq {a : List Int} (ha : Lb a) (i : Nat) : (a.getD (i / 32) 0).toNat / 2 ^ (i % 32) % 2 = lv a / 2 ^ i % 2 := by
  have hr : i % 32 < 32 := Nat.mod_lt _ (by decide)
  have e := lv_from ha (i / 32)
  rw [pow_split i, ← Nat.div_div_eq_div_mul, e]
  have p := two_pow_32 hr
  generalize (a.getD (i / 32) 0).toNat = x at *
  generalize lv (a.drop (i / 32 + 1)) = H at *
  generalize i % 32 = r at *
  have hp : 0 < 2 ^ r := Nat.pow_pos (by decide)
  rw [p, Nat.mul_assoc, Nat.add_mul_div_left _ _ hp, Nat.mul_assoc (2 ^ (31 - r)) 2 H, Nat.mul_left_comm]
  omega
theorem padL {a : List Int} (ha : Lb a) (k : Nat) : Lb (a ++ List.replicate (k + 1 - a.length) 0) ∧ lv (a ++ List.replicate (k + 1 - a.length) 0) = lv a ∧ k < (a ++ List.replicate (k + 1 - a.length) 0).length ∧
    (a ++ List.replicate (k + 1 - a.length) 0).length = max a.length (k + 1) :=
  ⟨ha.append (Lb.replicate _), lv_pad a _, by simp; omega, by simp; omega⟩
/-- a bit more, above which there are some at most -/
theorem setL_ok {a : List Int} (ha : Lb a) (i : Nat) (hd : 2 ^ (i + 1) ∣ lv a) :
    (a ++ List.replicate (i / 32 + 1 - a.length) 0).getD (i / 32) 0 + 2 ^ (i % 32) < 4294967296 ∧ Lb (setL a i) ∧ lv (setL a i) = lv a + 2 ^ i ∧ (setL a i).length = max a.length (i / 32 + 1) := by
  have hr : i % 32 < 32 := Nat.mod_lt _ (by decide)
  obtain ⟨p1, p2, p3, p4⟩ := padL ha (i / 32)
  unfold setL
  generalize a ++ List.replicate (i / 32 + 1 - a.length) 0 = p at *
  have gx := p1.getD (i / 32)
  have e := lv_from p1 (i / 32)
  have two := two_pow_32 hr
  have t := two_le hr
  have key : (p.getD (i / 32) 0) + 2 ^ (i % 32) < 4294967296 := by
    rw [p2] at e
    obtain ⟨q, hq⟩ := hd
    rw [hq, Nat.pow_succ, pow_split i, Nat.mul_assoc, Nat.mul_assoc, Nat.mul_div_cancel_left _ (Nat.pow_pos (by decide))] at e
    obtain ⟨x, hx⟩ := Int.eq_ofNat_of_zero_le gx.1
    rw [hx] at e gx ⊢
    rw [pow2_cast]
    have hx' : x < 4294967296 := by omega
    simp only [Int.toNat_natCast] at e
    generalize lv (p.drop (i / 32 + 1)) = H at *
    generalize i % 32 = r at *
    have hp : 0 < 2 ^ r := Nat.pow_pos (by decide)
    -- x is a multiple of twice that bit
    have m : 2 ^ r * 2 ∣ x := by
      have d1 : 2 ^ r * 2 ∣ x + 4294967296 * H := ⟨q, by rw [← e, Nat.mul_assoc]⟩
      have d2 : 2 ^ r * 2 ∣ 4294967296 * H := ⟨2 ^ (31 - r) * H, by rw [two]; simp only [Nat.mul_assoc]; congr 1; rw [Nat.mul_left_comm]⟩
      exact (Nat.dvd_add_iff_left d2).2 d1
    obtain ⟨u, hu⟩ := m
    have lt : 2 ^ r * 2 * u < 2 ^ r * 2 * 2 ^ (31 - r) := by
      rw [← hu]
      have : 2 ^ r * 2 * 2 ^ (31 - r) = 4294967296 := by rw [two, Nat.mul_assoc, Nat.mul_comm 2]
      omega
    have ul : u < 2 ^ (31 - r) := Nat.lt_of_mul_lt_mul_left lt
    have : 2 ^ r * 2 * (u + 1) ≤ 2 ^ r * 2 * 2 ^ (31 - r) := Nat.mul_le_mul_left _ ul
    have e2 : 2 ^ r * 2 * 2 ^ (31 - r) = 4294967296 := by rw [two, Nat.mul_assoc, Nat.mul_comm 2]
    rw [Nat.mul_add] at this
    omega
  refine ⟨key, p1.set _ (by omega) key, ?_, by simp [p4]⟩
  have s := lv_set (l := p) (i := i / 32) (p.getD (i / 32) 0 + 2 ^ (i % 32)) p3
  have c : (p.getD (i / 32) 0 + 2 ^ (i % 32)).toNat = (p.getD (i / 32) 0).toNat + 2 ^ (i % 32) := by
    have : ((2 ^ (i % 32) : Nat) : Int) = 2 ^ (i % 32) := by push_cast; rfl
    omega
  rw [c, Nat.mul_add, ← pow_split i, p2] at s
  omega
theorem div_step {A D i : Nat} (hD : 0 < D) :
    (2 * (A / 2 ^ (i + 1) % D) + A / 2 ^ i % 2 < D → A / 2 ^ i % D = 2 * (A / 2 ^ (i + 1) % D) + A / 2 ^ i % 2 ∧ A / 2 ^ i / D = 2 * (A / 2 ^ (i + 1) / D)) ∧
    (D ≤ 2 * (A / 2 ^ (i + 1) % D) + A / 2 ^ i % 2 → A / 2 ^ i % D = 2 * (A / 2 ^ (i + 1) % D) + A / 2 ^ i % 2 - D ∧ A / 2 ^ i / D = 2 * (A / 2 ^ (i + 1) / D) + 1) := by
  have e : A / 2 ^ (i + 1) = A / 2 ^ i / 2 := by rw [Nat.pow_succ, Nat.div_div_eq_div_mul]
  rw [e]
  generalize A / 2 ^ i = x
  have h1 := Nat.div_add_mod (x / 2) D
  have h2 := Nat.mod_lt (x / 2) hD
  generalize x / 2 / D = q at *
  generalize x / 2 % D = r at *
  have h3 : x = D * (2 * q) + (2 * r + x % 2) := by
    have : D * (2 * q) = 2 * (D * q) := by rw [Nat.mul_left_comm]
    omega
  constructor
  · intro h
    constructor
    · conv => lhs; rw [h3]
      rw [Nat.mul_add_mod, Nat.mod_eq_of_lt h]
    · conv => lhs; rw [h3]
      rw [Nat.mul_add_div hD, Nat.div_eq_of_lt h]; rfl
  · intro h
    have h4 : x = D * (2 * q + 1) + (2 * r + x % 2 - D) := by rw [Nat.mul_add]; omega
    have h5 : 2 * r + x % 2 - D < D := by omega
    constructor
    · conv => lhs; rw [h4]
      rw [Nat.mul_add_mod, Nat.mod_eq_of_lt h5]
    · conv => lhs; rw [h4]
      rw [Nat.mul_add_div hD, Nat.div_eq_of_lt h5]
end Go.Proofs.YtpadpcjdakfokaaGreatDoor.Ev

/- Contracts of the reference: how many bits, shifted, a bit, a bit more. Printed by gen.py. -/
namespace Go.Proofs.YtpadpcjdakfokaaGreatDoor.Ev
open Go Go.Proofs
set_option linter.unusedVariables false
set_option linter.unusedSimpArgs false

attribute [local irreducible] Lb
theorem c_rLen (a : List Int) (ha : Lb a) (hla : a.length ≤ 268435456) : ∃ t : Int, t = blen (lv a : Int) ∧ CallsA Tryz.prog 196 [.sli .u32 a] (.int .i64 (.s t)) := by
  refine ⟨_, rfl, ?_⟩
  generalize hr : blen (lv a : Int) = r
  have hx := lim_lb (lv a)
  have vx := lv_lim (lv a)
  have hlx := lim_length_le' ha
  have hlast := (lim_cn (lv a)).last
  obtain ⟨x, ex⟩ : ∃ x, lim (lv a) = x := ⟨_, rfl⟩
  rw [ex] at hx vx hlx hlast
  have zero : x.length = 0 → 0 = r := by
    intro h
    have : x = [] := List.length_eq_zero_iff.1 h
    rw [this] at vx
    rw [← hr, ← vx]; rfl
  have some_ : x.length ≠ 0 → r = 32 * ((x.length : Int) - 1) + blen (x.getD (x.length - 1) 0) := by
    intro h
    have ne : x ≠ [] := fun k => h (by rw [k]; rfl)
    rw [← hr, ← vx]; exact blen_len hx ne (hlast ne)
  have htop := hx.getD (x.length - 1)
  obtain ⟨m, em⟩ : ∃ m : Int × Int → Nat, ∀ p, m p = p.2.toNat := ⟨_, fun _ => rfl⟩
  obtain ⟨ok, eok⟩ : ∃ ok : Int × Int → Prop, ∀ p, ok p ↔ (0 ≤ p.1 ∧ p.1 ≤ 8589934592 + 32 ∧ 0 ≤ p.2 ∧ p.2 < 4294967296 ∧ p.1 + blen p.2 = r) := ⟨_, fun _ => Iff.rfl⟩
  have start : ∀ n t : Int, x.length ≠ 0 → n = IntKind.i64.wrap (32 * IntKind.i64.wrap ((x.length : Int) - 1)) → t = x.getD (IntKind.i64.wrap ((x.length : Int) - 1)).toNat 0 → ok (n, t) := by
    intro n t h hn ht
    have e1 : IntKind.i64.wrap ((x.length : Int) - 1) = x.length - 1 := by rw [wi64]; omega
    rw [e1] at hn ht
    rw [wi64_id (by omega) (by omega)] at hn
    rw [show ((x.length : Int) - 1).toNat = x.length - 1 by omega] at ht
    subst ht
    exact (eok _).2 ⟨by show 0 ≤ n; omega, by show n ≤ 8589934592 + 32; omega, htop.1, htop.2, by show n + blen _ = r; rw [some_ h, hn]⟩
  have rng : x.length ≠ 0 → 0 ≤ IntKind.i64.wrap ((x.length : Int) - 1) ∧ IntKind.i64.wrap ((x.length : Int) - 1) < x.length := by
    intro h; rw [wi64]; omega
  have next : ∀ n t : Int, ok (n, t) → 0 < t → m (IntKind.i64.wrap (n + 1), intBinR .quo .u32 t 2) < m (n, t) ∧ ok (IntKind.i64.wrap (n + 1), intBinR .quo .u32 t 2) := by
    intro n t hok h
    obtain ⟨h1, h2, h3, h4, h5⟩ := (eok _).1 hok
    dsimp only at h1 h2 h3 h4 h5
    rw [quo2_u32 h3 h4, wi64_id (by omega) (by omega)]
    have b := blen_half h
    have b0 := blen_nonneg t
    have b1 := blen_le 32 (x := t) (by omega)
    have rb : r ≤ 8589934592 + 32 := by
      rcases Nat.eq_zero_or_pos x.length with k | k
      · have := zero k; omega
      · have b2 := blen_le 32 (x := x.getD (x.length - 1) 0) (by omega); rw [some_ (by omega)]; omega
    exact ⟨by rw [em, em]; show (t / 2).toNat < t.toNat; omega, (eok _).2 ⟨by show 0 ≤ n + 1; omega, by show n + 1 ≤ 8589934592 + 32; have := blen_nonneg (t / 2); omega, by show 0 ≤ t / 2; omega, by show t / 2 < _; omega, by show n + 1 + blen (t / 2) = r; omega⟩⟩
  have stop : ∀ n t : Int, ok (n, t) → ¬ 0 < t → n = r := by
    intro n t hok h
    obtain ⟨h1, h2, h3, h4, h5⟩ := (eok _).1 hok
    dsimp only at h1 h2 h3 h4 h5
    have : t = 0 := by omega
    subst this
    rw [blen_zero] at h5; omega
  refine callsA_of hG hm Tryz.func196 (by kernel_rfl) ?_
  intro E hE lp hl
  cbv
  (apply E_callX hE (c_rTrim a ha hla); (case hf => rfl); (case hc => (cbv <;> trivial)); (case hle => exact ⟨u2_sli, trivial⟩); intro x' hx'; cbv)
  rw [hx'.trans ex]
  clear hx' x'
  refine E_br hE (fun h => ?_) (fun h => ?_) <;> cbv
  · subst hE; exact zero (by have k : (x.length : Int) = 0 := eql_t h; omega)
  have ne : x.length ≠ 0 := by subst hE; have k : ¬ (x.length : Int) = 0 := eql_f h; omega
  refine E_nm hE (fun n0 hn0 => ?_)
  cbv
  refine E_br hE (fun b1 => ?_) (fun b1 => ?_) <;> cbv
  · refine E_br hE (fun b2 => ?_) (fun b2 => ?_) <;> cbv
    · refine E_nm hE (fun t0 ht0 => ?_)
      cbv
      refine E_loop hE hG hm hl (fun p : Int × Int => (⟨[(4, .int .i64 (.s p.1)), (5, .int .u32 (.s p.2))], []⟩ : St)) m ok ⟨(n0, t0), (by subst hE; exact start n0 t0 ne hn0 ht0), stLe rfl ?_⟩ ?_
      · (repeat' (first | exact t_nil | apply t_cons | exact u2_sli | exact u2_int | exact u2_bool | exact u2_ms | exact u2_ptr | exact (rfl : sle2 .s0 .s0)))
      rintro ⟨n, t⟩ hok
      have nx := next n t hok
      have sp := stop n t hok
      clear next stop start hok
      cbv
      refine E_br hE (fun g => ?_) (fun g => ?_) <;> cbv
      · refine E_nm hE (fun n' hn' => ?_)
        cbv
        refine E_nm hE (fun t' ht' => ?_)
        cbv
        refine ⟨(n', t'), ?_, ?_, stLe rfl ?_⟩
        rotate_right
        · (repeat' (first | exact t_nil | apply t_cons | exact u2_sli | exact u2_int | exact u2_bool | exact u2_ms | exact u2_ptr | exact (rfl : sle2 .s0 .s0)))
        all_goals (subst hE; have q := nx (gtr_t g); have e1 : n' = IntKind.i64.wrap (n + 1) := hn'; have e2 : t' = intBinR .quo .u32 t 2 := ht'; subst e1; subst e2; first | exact q.1 | exact q.2)
      · refine E_nm hE (fun z hz => ?_)
        cbv
        subst hE
        exact Eq.trans (b := n) hz (sp (gtr_f g))
    · exfalso; subst hE; exact (lss_f b2) (rng ne).2
  · exfalso; subst hE; exact (leq_f b1) (rng ne).1

theorem rep_sub {q : Int} {a : List Int} (h : 0 ≤ q) : ((((List.replicate q.toNat (0 : Int)).drop (0 : Int).toNat).take q.toNat ++ a).drop (0 : Int).toNat).take (q + (a.length : Int)).toNat = List.replicate q.toNat 0 ++ a := by
  have e : ((List.replicate q.toNat (0 : Int)).drop (0 : Int).toNat).take q.toNat = List.replicate q.toNat 0 := by
    show ((List.replicate q.toNat (0 : Int)).drop 0).take q.toNat = _
    rw [List.drop_zero, List.take_of_length_le (by simp)]
  rw [e]
  show ((List.replicate q.toNat (0 : Int) ++ a).drop 0).take (q + (a.length : Int)).toNat = _
  rw [List.drop_zero, List.take_of_length_le (by simp; omega)]
theorem shl_pre {a : List Int} {n : Int} (ha : Lb a) (n1 : 1 ≤ n) (n2 : n ≤ 16777216) : lim (lv ((List.replicate (n / 32).toNat 0) ++ a) * lv [(2 : Int) ^ (n % 32).toNat]) = lim (lv a * 2 ^ n.toNat) := by
  rw [lv_zeros]
  congr 1
  have e : lv [(2 : Int) ^ (n % 32).toNat] = 2 ^ (n % 32).toNat := by
    show ((2 : Int) ^ (n % 32).toNat).toNat + 4294967296 * 0 = _
    rw [pow2_cast]; simp only [Int.toNat_natCast, Nat.mul_zero, Nat.add_zero]
  have p := pow_split n.toNat
  rw [show n.toNat / 32 = (n / 32).toNat by omega, show n.toNat % 32 = (n % 32).toNat by omega] at p
  rw [e, p, Nat.mul_assoc, Nat.mul_comm, Nat.mul_assoc, Nat.mul_comm (2 ^ _)]
theorem c_rShl (a : List Int) (n : Int) (ha : Lb a) (hla : a.length < 33554432) : ∃ t : List Int, t = (if n < 1 then lim (lv a) else if 16777216 < n then [] else lim (lv a * 2 ^ n.toNat)) ∧ CallsA Tryz.prog 137 [.sli .u32 a, .int .i64 (.s n)] (.sli .u32 t) := by
  refine ⟨_, rfl, ?_⟩
  generalize hr : (if n < 1 then lim (lv a) else if 16777216 < n then [] else lim (lv a * 2 ^ n.toNat)) = r
  have pre := shl_pre (n := n) ha
  have low : n < 1 → lim (lv a) = r := fun h => by rw [← hr, if_pos h]
  have hig : ¬ n < 1 → 16777216 < n → [] = r := fun h g => by rw [← hr, if_neg h, if_pos g]
  have mid : ¬ n < 1 → ¬ 16777216 < n → lim (lv a * 2 ^ n.toNat) = r := fun h g => by rw [← hr, if_neg h, if_neg g]
  have nums : ¬ n < 1 → ¬ 16777216 < n → intBinR .quo .i64 n 32 = n / 32 ∧ intBinR .rem .i64 n 32 = n % 32 ∧ 0 ≤ n / 32 ∧ n / 32 ≤ 524288 := by
    intro h g
    refine ⟨quo32 (by omega) (by omega), rem32 (by omega), by omega, by omega⟩
  refine callsA_of hG hm Tryz.func137 (by kernel_rfl) ?_
  intro E hE lp hl
  cbv
  refine E_br hE (fun g1 => ?_) (fun g1 => ?_) <;> cbv
  · repeat' (first
    | (refine E_br hE (fun h => ?_) (fun h => ?_) <;> cbv)
    | (refine E_nm hE (fun v hv => ?_); cbv)
    | (refine E_nilS hE (fun b hb => ?_); cbv)
    | (apply E_callX hE (c_rTrim _ ha ?_); (case hf => rfl); (case hc => (cbv <;> trivial)); (case hle => exact u_up); all_goals (first | (intro t ht; cbv) | (omega)))
    | fail)
    subst hE; rw [ht]; exact low (lss_t g1)
  refine E_br hE (fun g2 => ?_) (fun g2 => ?_) <;> cbv
  · subst hE; exact (hig (lss_f g1) (gtr_t g2)).symm
  have nm : E.bin .quo .i64 n 32 = n / 32 ∧ E.bin .rem .i64 n 32 = n % 32 ∧ 0 ≤ n / 32 ∧ n / 32 ≤ 524288 := by subst hE; exact nums (lss_f g1) (gtr_f g2)
  have es1 : E.sub (E.app (E.sub (E.rep (E.bin .quo .i64 n 32)) 0 (E.bin .quo .i64 n 32)) a) 0 (E.plus (E.bin .quo .i64 n 32) (E.len a)) = List.replicate (n / 32).toNat 0 ++ a := by
    subst hE; rw [nm.1]; exact rep_sub nm.2.2.1
  have es2 : ∀ v, v = E.bin .shl .u32 1 (E.conv .u64 (E.bin .rem .i64 n 32)) → E.sub [v] 0 1 = [2 ^ (n % 32).toNat] := by
    intro v hv
    subst hE
    have e : (realE Tryz.prog).conv .u64 ((realE Tryz.prog).bin .rem .i64 n 32) = n % 32 := by
      rw [nm.2.1]; show IntKind.u64.wrap (n % 32) = n % 32; rw [wu64]; omega
    rw [e] at hv
    have e2 : v = intBinR .shl .u32 1 (n % 32) := hv
    rw [shl_one (by omega) (by omega)] at e2
    subst e2; rfl
  have l1 : Lb (List.replicate (n / 32).toNat 0 ++ a) ∧ (List.replicate (n / 32).toNat 0 ++ a).length < 67108864 := ⟨(Lb.replicate _).append ha, by rw [List.length_append, List.length_replicate]; omega⟩
  have l2 : Lb [(2 : Int) ^ (n % 32).toNat] := by have := two_le (r := (n % 32).toNat) (by omega); exact Lb.cons (by omega) (by omega) Lb.nil
  have fin : ¬ n < 1 ∧ ¬ 16777216 < n := by subst hE; exact ⟨lss_f g1, gtr_f g2⟩
  have val := (pre (by omega) (by omega)).trans (mid fin.1 fin.2)
  clear pre low hig mid nums
  repeat' (first
    | (refine E_br hE (fun h => ?_) (fun h => ?_) <;> cbv)
    | (refine E_nm hE (fun v hv => ?_); cbv)
    | (refine E_nilS hE (fun b hb => ?_); cbv)
    | (apply E_callX hE (c_rMul _ _ ?_ ?_ ?_ ?_); (case hf => rfl); (case hc => (cbv <;> trivial)); (case hle => exact u_up); all_goals (first | (intro t ht; cbv) | ((first | (show Lb (E.sub (E.app (E.sub (E.rep (E.bin .quo .i64 n 32)) 0 (E.bin .quo .i64 n 32)) a) 0 (E.plus (E.bin .quo .i64 n 32) (E.len a))); rw [es1]; exact l1.1) | (show Lb (E.sub [v] 0 1); rw [es2 v hv]; exact l2) | (show (E.sub (E.app (E.sub (E.rep (E.bin .quo .i64 n 32)) 0 (E.bin .quo .i64 n 32)) a) 0 (E.plus (E.bin .quo .i64 n 32) (E.len a))).length < 67108864; rw [es1]; exact l1.2) | (show (E.sub [v] 0 1).length < 67108864; rw [es2 v hv]; show (1 : Nat) < 67108864; decide)))))
    | fail)
  case refine_2.refine_2.refine_1.refine_1.refine_1.refine_1.refine_2.hK =>
    replace ht : t = lim (lv (E.sub (E.app (E.sub (E.rep (E.bin .quo .i64 n 32)) 0 (E.bin .quo .i64 n 32)) a) 0 (E.plus (E.bin .quo .i64 n 32) (E.len a))) * lv (E.sub [v] 0 1)) := ht
    rw [es1, es2 v hv, val] at ht
    exact ht
  all_goals (exfalso; subst hE; have q := nm.1; have q2 := nm.2.1; have q3 := nm.2.2; first
    | (have h1 := lss_t ‹_›; apply absurd h1; show ¬ IntKind.u64.wrap (intBinR .rem .i64 n 32) < 0; rw [wu64]; omega)
    | (have h1 := leq_f ‹(realE Tryz.prog).cmp .leq ((realE Tryz.prog).plus _ _) _ = false›; apply h1; show intBinR .quo .i64 n 32 + (a.length : Int) ≤ 17179869184; rw [show intBinR .quo .i64 n 32 = n / 32 from q]; omega)
    | (have h1 := leq_f ‹_›; apply h1; first | exact Int.le_refl _ | (show (0 : Int) ≤ intBinR .quo .i64 n 32; rw [show intBinR .quo .i64 n 32 = n / 32 from q]; omega) | (show intBinR .quo .i64 n 32 ≤ 17179869184; rw [show intBinR .quo .i64 n 32 = n / 32 from q]; omega)))

end Go.Proofs.YtpadpcjdakfokaaGreatDoor.Ev

/- Contracts of the reference: a bit, a bit more. Printed by gen.py. -/
namespace Go.Proofs.YtpadpcjdakfokaaGreatDoor.Ev
open Go Go.Proofs
set_option linter.unusedVariables false
set_option linter.unusedSimpArgs false

attribute [local irreducible] Lb
theorem rem2_u64 {n : Int} (h : 0 ≤ n) : intBinR .rem .u64 n 2 = n % 2 := by
  show n.tmod 2 = _
  exact Int.tmod_eq_emod_of_nonneg h
theorem bit_word {a : List Int} {i : Int} (ha : Lb a) (h0 : 0 ≤ i) (h1 : i < 9223372036854775807) : intBinR .quo .i64 i 32 = i / 32 ∧ intBinR .rem .i64 i 32 = i % 32 ∧
    (intBinR .rem .u64 (intBinR .shr .u64 (a.getD (i / 32).toNat 0) (i % 32)) 2 = 1 ↔ lv a / 2 ^ i.toNat % 2 = 1) := by
  refine ⟨quo32 h0 (by omega), rem32 h0, ?_⟩
  have gx := ha.getD (i / 32).toNat
  have b := bit_eq ha i.toNat
  rw [show i.toNat / 32 = (i / 32).toNat by omega, show i.toNat % 32 = (i % 32).toNat by omega] at b
  rw [shr_u64 (by omega) (by omega)]
  obtain ⟨x, hx⟩ := Int.eq_ofNat_of_zero_le gx.1
  rw [hx] at b ⊢
  simp only [Int.toNat_natCast] at b
  have e : ((x : Int) / 2 ^ (i % 32).toNat) = ((x / 2 ^ (i % 32).toNat : Nat) : Int) := by rw [pow2_cast]; simp
  rw [e]
  rw [rem2_u64 (n := ((x / 2 ^ (i % 32).toNat : Nat) : Int)) (Int.natCast_nonneg _)]
  omega
theorem c_rBit (a : List Int) (i : Int) (ha : Lb a) (h0 : 0 ≤ i) (h1 : i < 9223372036854775807) : ∃ t : Bool, t = decide (lv a / 2 ^ i.toNat % 2 = 1) ∧ CallsA Tryz.prog 227 [.sli .u32 a, .int .i64 (.s i)] (.bool (.s t)) := by
  refine ⟨_, rfl, ?_⟩
  generalize hr : decide (lv a / 2 ^ i.toNat % 2 = 1) = r
  have w := bit_word ha h0 h1
  refine callsA_of hG hm Tryz.func227 (by kernel_rfl) ?_
  intro E hE lp hl
  cbv
  have e1 : E.bin .quo .i64 i 32 = i / 32 := by subst hE; exact w.1
  have e2 : E.conv .u64 (E.bin .rem .i64 i 32) = i % 32 := by subst hE; show IntKind.u64.wrap (intBinR .rem .i64 i 32) = _; rw [w.2.1, wu64]; omega
  repeat' (first
    | (refine E_br hE (fun h => ?_) (fun h => ?_) <;> cbv)
    | (refine E_nm hE (fun v hv => ?_); cbv)
    | (refine E_nilS hE (fun b hb => ?_); cbv)
    | (apply E_callX hE (c_rAt _ _ ha ?_ ?_); (case hf => rfl); (case hc => (cbv <;> trivial)); (case hle => exact u_up); all_goals (first | (intro t ht; cbv) | ((first | (show 0 ≤ E.bin .quo .i64 i 32; rw [e1]; omega) | (show E.bin .quo .i64 i 32 < 9223372036854775808; rw [e1]; omega)))))
    | fail)
  · exfalso
    rw [e2] at h
    subst hE
    have := lss_t h
    omega
  · have ht' : t = a.getD (i / 32).toNat 0 := by rw [ht]; show a.getD (E.bin .quo .i64 i 32).toNat 0 = _; rw [e1]
    show E.cmp .eql (E.bin .rem .u64 (E.bin .shr .u64 t (E.conv .u64 (E.bin .rem .i64 i 32))) 2) 1 = r
    rw [e2, ht', ← hr]
    subst hE
    simp only [realE, cmp_eql]
    exact decide_eq_decide.2 w.2.2

def rset1 (i : Int) : Option (List Int × Int) → St
  | none => ⟨[(1, .int .i64 (.s i)), (5, .s0)], []⟩
  | some (l, n) => ⟨[(1, .int .i64 (.s i)), (5, .ms 0 1 (.l 0) (.s n))], [.ints true .u32 l]⟩
def rset2 (i : Int) (a : List Int) (N : Int) : Option (List Int × Int) → St
  | none => ⟨[(1, .int .i64 (.s i)), (5, .ms 0 1 (.l 0) (.s N))], [.ints true .u32 a]⟩
  | some (l, n) => ⟨[(1, .int .i64 (.s i)), (5, .ms 1 1 (.l 0) (.s n))], [.dead, .ints true .u32 l]⟩
theorem c_rSet (a : List Int) (i : Int) (ha : Lb a) (hla : a.length < 268435456) (h0 : 0 ≤ i) (h1 : i < 8589934592) (hadd : (a ++ List.replicate (i.toNat / 32 + 1 - a.length) 0).getD (i.toNat / 32) 0 + 2 ^ (i.toNat % 32) < 4294967296) :
    ∃ t : List Int, t = setL a i.toNat ∧ CallsA Tryz.prog 228 [.sli .u32 a, .int .i64 (.s i)] (.sli .u32 t) := by
  refine ⟨_, rfl, ?_⟩
  generalize hr : setL a i.toNat = r
  have q := quo32 h0 (by omega)
  obtain ⟨m, em⟩ : ∃ m : Int → Nat, ∀ n, m n = (i / 32 + 1 - n).toNat := ⟨_, fun _ => rfl⟩
  obtain ⟨ok, eok⟩ : ∃ ok : List Int × Int → Prop, ∀ p, ok p ↔ ((a.length : Int) ≤ p.2 ∧ p.2 ≤ max (a.length : Int) (i / 32 + 1) ∧ p.1 = a ++ List.replicate (p.2.toNat - a.length) 0) := ⟨_, fun _ => Iff.rfl⟩
  have start1 : (a.length : Int) = 0 → ok ([], 0) := by
    intro h
    have e : a = [] := List.length_eq_zero_iff.1 (by omega)
    refine (eok _).2 ⟨by show (a.length : Int) ≤ 0; omega, by show (0 : Int) ≤ _; omega, ?_⟩
    rw [e]; rfl
  have start2 : ok (a, (a.length : Int)) := (eok _).2 ⟨Int.le_refl _, by show (a.length : Int) ≤ _; omega, by show a = a ++ List.replicate ((a.length : Int).toNat - a.length) 0; simp⟩
  have lens : ∀ l n, ok (l, n) → n = l.length ∧ 0 ≤ n ∧ n ≤ 536870913 := by
    intro l n hok
    obtain ⟨k1, k2, k3⟩ := (eok _).1 hok
    dsimp only at k1 k2 k3
    rw [k3, List.length_append, List.length_replicate]
    omega
  have next : ∀ l n, ok (l, n) → n ≤ i / 32 → m (n + 1) < m n ∧ ok (l ++ [0], n + 1) := by
    intro l n hok h
    obtain ⟨k1, k2, k3⟩ := (eok _).1 hok
    dsimp only at k1 k2 k3
    refine ⟨by rw [em, em]; omega, (eok _).2 ⟨by show (a.length : Int) ≤ n + 1; omega, by show n + 1 ≤ _; omega, ?_⟩⟩
    show l ++ [0] = a ++ List.replicate ((n + 1).toNat - a.length) 0
    rw [k3, show (n + 1).toNat - a.length = (n.toNat - a.length) + 1 by omega, List.replicate_succ', List.append_assoc]
  have stop : ∀ l n, ok (l, n) → ¬ n ≤ i / 32 → l.getD (i / 32).toNat 0 + 2 ^ (i % 32).toNat < 4294967296 ∧ 0 ≤ l.getD (i / 32).toNat 0 ∧ l.set (i / 32).toNat (l.getD (i / 32).toNat 0 + 2 ^ (i % 32).toNat) = r := by
    intro l n hok h
    obtain ⟨k1, k2, k3⟩ := (eok _).1 hok
    dsimp only at k1 k2 k3
    have e : l = a ++ List.replicate (i.toNat / 32 + 1 - a.length) 0 := by rw [k3]; congr 2; omega
    have gx := ((padL ha (i.toNat / 32)).1).getD (i.toNat / 32)
    rw [e, ← hr, show (i / 32).toNat = i.toNat / 32 by omega, show (i % 32).toNat = i.toNat % 32 by omega]
    exact ⟨hadd, gx.1, rfl⟩
  have two := two_le (r := (i % 32).toNat) (by omega)
  refine callsA_of hG hm Tryz.func228 (by kernel_rfl) ?_
  intro E hE lp hl
  have e1 : E.bin .quo .i64 i 32 = i / 32 := by subst hE; exact q
  have e2 : E.conv .u64 (E.bin .rem .i64 i 32) = i % 32 := by subst hE; show IntKind.u64.wrap (intBinR .rem .i64 i 32) = _; rw [rem32 h0, wu64]; omega
  cbv
  refine E_br hE (fun g0 => ?_) (fun g0 => ?_) <;> cbv
  · refine E_loopM hE hG hm hl (rset1 i) (fun o => m (o.getD ([], 0)).2) (fun o => ok (o.getD ([], 0))) ⟨none, [], start1 (by subst hE; exact eql_t g0), stLeM trivial rfl rfl rfl trivial ?_⟩ ?_
    · (repeat' (first | exact m_nil | refine m_consA (ms_le rfl rfl) rfl ?_ | refine m_cons ?_ rfl ?_ | exact u2_int | exact u2_bool | exact u2_sli | exact (rfl : sle2 .s0 .s0) | exact u2_s0))
    rintro (_ | ⟨l, n⟩) hok
    · have nx := next _ _ hok
      have sp := stop _ _ hok
      clear next stop start1 start2 lens hok
      cbv
      repeat' (first
    | (refine E_br hE (fun h => ?_) (fun h => ?_) <;> cbv)
    | (refine E_nm hE (fun v hv => ?_); cbv)
    | (refine E_nilS hE (fun b hb => ?_); cbv)
    | fail)
      · refine ⟨some (E.sub [0] 0 1, 1), [1], ?_, ?_, stLeM ⟨rfl, trivial⟩ rfl rfl rfl trivial ?_⟩
        rotate_right
        · (repeat' (first | exact m_nil | refine m_consA (ms_le rfl rfl) rfl ?_ | refine m_cons ?_ rfl ?_ | exact u2_int | exact u2_bool | exact u2_sli | exact (rfl : sle2 .s0 .s0) | exact u2_s0))
        all_goals (subst hE; have g := nx (by omega); first | exact g.1 | exact g.2)
      all_goals (try (exfalso; subst hE; first
        | (have k := leq_f (show (realE Tryz.prog).cmp .leq 0 (i / 32) = false by rw [← e1]; assumption); omega)
        | (have k := lss_f (show (realE Tryz.prog).cmp .lss (i / 32) n = false by rw [← e1]; assumption); have k2 := leq_f (show (realE Tryz.prog).cmp .leq n (i / 32) = false by rw [← e1]; assumption); omega)
        | (have k := lss_t (show (realE Tryz.prog).cmp .lss (i % 32) 0 = true by rw [← e2]; assumption); omega)
        | (have k := leq_f (show (realE Tryz.prog).cmp .leq (n + 1) 17179869184 = false by assumption); have k2 := ln.2.2; omega)))
    · have nx := next _ _ hok
      have sp := stop _ _ hok
      have ln := lens _ _ hok
      clear next stop start1 start2 lens hok
      have sl : (l.drop (0 : Int).toNat).take n.toNat = l := rsub_all ln.1
      cbv
      repeat' (first
    | (refine E_br hE (fun h => ?_) (fun h => ?_) <;> cbv)
    | (refine E_nm hE (fun v hv => ?_); cbv)
    | (refine E_nilS hE (fun b hb => ?_); cbv)
    | fail)
      all_goals (try (exfalso; subst hE; first
        | (have k := leq_f (show (realE Tryz.prog).cmp .leq 0 (i / 32) = false by rw [← e1]; assumption); omega)
        | (have k := lss_f (show (realE Tryz.prog).cmp .lss (i / 32) n = false by rw [← e1]; assumption); have k2 := leq_f (show (realE Tryz.prog).cmp .leq n (i / 32) = false by rw [← e1]; assumption); omega)
        | (have k := lss_t (show (realE Tryz.prog).cmp .lss (i % 32) 0 = true by rw [← e2]; assumption); omega)
        | (have k := leq_f (show (realE Tryz.prog).cmp .leq (n + 1) 17179869184 = false by assumption); have k2 := ln.2.2; omega)))
      · refine ⟨some (E.app (E.sub l 0 n) (E.sub [0] 0 1), E.plus n 1), [2], ?_, ?_, stLeM ⟨rfl, trivial⟩ rfl rfl rfl trivial ?_⟩
        rotate_right
        · (repeat' (first | exact m_nil | refine m_consA (ms_le rfl rfl) rfl ?_ | refine m_cons ?_ rfl ?_ | exact u2_int | exact u2_bool | exact u2_sli | exact (rfl : sle2 .s0 .s0) | exact u2_s0))
        all_goals (subst hE; have g := nx (leq_t (show (realE Tryz.prog).cmp .leq n (i / 32) = true by rw [← e1]; assumption)); rw [show (realE Tryz.prog).sub l 0 n = l from sl]; first | exact g.1 | exact g.2)
      · show E.sub (E.set l (E.bin .quo .i64 i 32) (E.bin .add .u32 (E.get l (E.bin .quo .i64 i 32)) (E.bin .shl .u32 1 (E.conv .u64 (E.bin .rem .i64 i 32))))) 0 n = r
        rw [e1, e2]
        subst hE
        have g := sp (leq_f (show (realE Tryz.prog).cmp .leq n (i / 32) = false by rw [← e1]; assumption))
        have w : (realE Tryz.prog).bin .add .u32 ((realE Tryz.prog).get l (i / 32)) ((realE Tryz.prog).bin .shl .u32 1 (i % 32)) = l.getD (i / 32).toNat 0 + 2 ^ (i % 32).toNat := by
          show IntKind.u32.wrap (l.getD (i / 32).toNat 0 + intBinR .shl .u32 1 (i % 32)) = _
          rw [shl_one (by omega) (by omega), wu32]
          omega
        rw [w]
        show ((l.set (i / 32).toNat (l.getD (i / 32).toNat 0 + 2 ^ (i % 32).toNat)).drop (0 : Int).toNat).take (n).toNat = r
        rw [rsub_all (by rw [List.length_set]; exact ln.1)]
        exact g.2.2
  · refine E_br hE (fun g1 => ?_) (fun g1 => ?_) <;> cbv
    · refine E_loopM hE hG hm hl (rset2 i a (E.len a)) (fun o => m (o.getD (a, (a.length : Int))).2) (fun o => ok (o.getD (a, (a.length : Int)))) ⟨none, [0], start2, stLeM ⟨rfl, trivial⟩ rfl rfl rfl trivial ?_⟩ ?_
      · (repeat' (first | exact m_nil | refine m_consA (ms_le rfl rfl) rfl ?_ | refine m_cons ?_ rfl ?_ | exact u2_int | exact u2_bool | exact u2_sli | exact (rfl : sle2 .s0 .s0) | exact u2_s0))
      rintro (_ | ⟨l, n⟩) hok
      · obtain ⟨n, en⟩ : ∃ n : Int, n = (a.length : Int) := ⟨_, rfl⟩
        have hok : ok (a, n) := by rw [en]; exact hok
        have nx := next _ _ hok
        have sp := stop _ _ hok
        have ln := lens _ _ hok
        clear next stop start1 start2 lens
        have sl : (a.drop (0 : Int).toNat).take n.toNat = a := rsub_all ln.1
        have eL : E.len a = n := by subst hE; exact en.symm
        rw [eL]
        clear hok
        cbv
        repeat' (first
    | (refine E_br hE (fun h => ?_) (fun h => ?_) <;> cbv)
    | (refine E_nm hE (fun v hv => ?_); cbv)
    | (refine E_nilS hE (fun b hb => ?_); cbv)
    | fail)
        all_goals (try (exfalso; subst hE; first
          | (have k := leq_f (show (realE Tryz.prog).cmp .leq 0 (i / 32) = false by rw [← e1]; assumption); omega)
          | (have k := lss_f (show (realE Tryz.prog).cmp .lss (i / 32) n = false by rw [← e1]; assumption); have k2 := leq_f (show (realE Tryz.prog).cmp .leq n (i / 32) = false by rw [← e1]; assumption); omega)
          | (have k := lss_t (show (realE Tryz.prog).cmp .lss (i % 32) 0 = true by rw [← e2]; assumption); omega)
          | (have k := leq_f (show (realE Tryz.prog).cmp .leq (n + 1) 17179869184 = false by assumption); have k2 := ln.2.2; omega)))
        · refine ⟨some (E.app (E.sub a 0 n) (E.sub [0] 0 1), E.plus n 1), [0, 2], ?_, ?_, stLeM ⟨rfl, trivial⟩ rfl rfl rfl trivial ?_⟩
          rotate_right
          · (repeat' (first | exact m_nil | refine m_consA (ms_le rfl rfl) rfl ?_ | refine m_cons ?_ rfl ?_ | exact u2_int | exact u2_bool | exact u2_sli | exact (rfl : sle2 .s0 .s0) | exact u2_s0))
          all_goals (subst hE; have g := nx (leq_t (show (realE Tryz.prog).cmp .leq n (i / 32) = true by rw [← e1]; assumption)); rw [show (realE Tryz.prog).sub a 0 n = a from sl]; first | (rw [en] at g ⊢; exact g.1) | exact g.2)
        · show E.sub (E.set a (E.bin .quo .i64 i 32) (E.bin .add .u32 (E.get a (E.bin .quo .i64 i 32)) (E.bin .shl .u32 1 (E.conv .u64 (E.bin .rem .i64 i 32))))) 0 n = r
          rw [e1, e2]
          subst hE
          have g := sp (leq_f (show (realE Tryz.prog).cmp .leq n (i / 32) = false by rw [← e1]; assumption))
          have w : (realE Tryz.prog).bin .add .u32 ((realE Tryz.prog).get a (i / 32)) ((realE Tryz.prog).bin .shl .u32 1 (i % 32)) = a.getD (i / 32).toNat 0 + 2 ^ (i % 32).toNat := by
            show IntKind.u32.wrap (a.getD (i / 32).toNat 0 + intBinR .shl .u32 1 (i % 32)) = _
            rw [shl_one (by omega) (by omega), wu32]
            omega
          rw [w]
          show ((a.set (i / 32).toNat (a.getD (i / 32).toNat 0 + 2 ^ (i % 32).toNat)).drop (0 : Int).toNat).take (n).toNat = r
          rw [rsub_all (by rw [List.length_set]; exact ln.1)]
          exact g.2.2
      · have nx := next _ _ hok
        have sp := stop _ _ hok
        have ln := lens _ _ hok
        clear next stop start1 start2 lens hok
        have sl : (l.drop (0 : Int).toNat).take n.toNat = l := rsub_all ln.1
        cbv
        repeat' (first
    | (refine E_br hE (fun h => ?_) (fun h => ?_) <;> cbv)
    | (refine E_nm hE (fun v hv => ?_); cbv)
    | (refine E_nilS hE (fun b hb => ?_); cbv)
    | fail)
        all_goals (try (exfalso; subst hE; first
          | (have k := leq_f (show (realE Tryz.prog).cmp .leq 0 (i / 32) = false by rw [← e1]; assumption); omega)
          | (have k := lss_f (show (realE Tryz.prog).cmp .lss (i / 32) n = false by rw [← e1]; assumption); have k2 := leq_f (show (realE Tryz.prog).cmp .leq n (i / 32) = false by rw [← e1]; assumption); omega)
          | (have k := lss_t (show (realE Tryz.prog).cmp .lss (i % 32) 0 = true by rw [← e2]; assumption); omega)
          | (have k := leq_f (show (realE Tryz.prog).cmp .leq (n + 1) 17179869184 = false by assumption); have k2 := ln.2.2; omega)))
        · refine ⟨some (E.app (E.sub l 0 n) (E.sub [0] 0 1), E.plus n 1), [0, 3], ?_, ?_, stLeM ⟨rfl, trivial⟩ rfl rfl rfl trivial ?_⟩
          rotate_right
          · (repeat' (first | exact m_nil | refine m_consA (ms_le rfl rfl) rfl ?_ | refine m_cons ?_ rfl ?_ | exact u2_int | exact u2_bool | exact u2_sli | exact (rfl : sle2 .s0 .s0) | exact u2_s0))
          all_goals (subst hE; have g := nx (leq_t (show (realE Tryz.prog).cmp .leq n (i / 32) = true by rw [← e1]; assumption)); rw [show (realE Tryz.prog).sub l 0 n = l from sl]; first | exact g.1 | exact g.2)
        · show E.sub (E.set l (E.bin .quo .i64 i 32) (E.bin .add .u32 (E.get l (E.bin .quo .i64 i 32)) (E.bin .shl .u32 1 (E.conv .u64 (E.bin .rem .i64 i 32))))) 0 n = r
          rw [e1, e2]
          subst hE
          have g := sp (leq_f (show (realE Tryz.prog).cmp .leq n (i / 32) = false by rw [← e1]; assumption))
          have w : (realE Tryz.prog).bin .add .u32 ((realE Tryz.prog).get l (i / 32)) ((realE Tryz.prog).bin .shl .u32 1 (i % 32)) = l.getD (i / 32).toNat 0 + 2 ^ (i % 32).toNat := by
            show IntKind.u32.wrap (l.getD (i / 32).toNat 0 + intBinR .shl .u32 1 (i % 32)) = _
            rw [shl_one (by omega) (by omega), wu32]
            omega
          rw [w]
          show ((l.set (i / 32).toNat (l.getD (i / 32).toNat 0 + 2 ^ (i % 32).toNat)).drop (0 : Int).toNat).take (n).toNat = r
          rw [rsub_all (by rw [List.length_set]; exact ln.1)]
          exact g.2.2
    · exfalso
      subst hE
      have k := leq_f g1
      apply k
      show (a.length : Int) ≤ 17179869184
      omega

end Go.Proofs.YtpadpcjdakfokaaGreatDoor.Ev

/- Contracts of the reference: the quotient, bit by bit. Printed by gen.py. -/
namespace Go.Proofs.YtpadpcjdakfokaaGreatDoor.Ev
open Go Go.Proofs
set_option linter.unusedVariables false
set_option linter.unusedSimpArgs false

attribute [local irreducible] Lb
theorem lv_blen {a : List Int} (ha : Lb a) : blen (lv a : Int) ≤ 32 * a.length := by
  have l := lv_lt ha
  have e : (4294967296 : Nat) ^ a.length = 2 ^ (32 * a.length) := by rw [show (4294967296 : Nat) = 2 ^ 32 from rfl, ← Nat.pow_mul]
  have := blen_le (32 * a.length) (x := (lv a : Int)) (by rw [pow2_cast]; omega)
  omega
theorem lt_blen (n : Nat) : n < 2 ^ (blen (n : Int)).toNat := by
  rcases Nat.eq_zero_or_pos n with h | h
  · subst h; decide
  · obtain ⟨k, h1, _, h3⟩ := blen_pos (x := (n : Int)) (by omega)
    rw [h1, show ((k : Int) + 1).toNat = k + 1 by omega]
    rw [pow2_cast] at h3
    omega
theorem c_rDiv (a b : List Int) (ha : Lb a) (hb : Lb b) (hla : a.length < 67108864) (hlb : b.length < 67108864) :
    ∃ t : List Int × List Int × Bool, t = (if lv b = 0 then ([], [], false) else (lim (lv a / lv b), lim (lv a % lv b), true)) ∧ CallsA Tryz.prog 200 [.sli .u32 a, .sli .u32 b] (.tup [.sli .u32 t.1, .sli .u32 t.2.1, .bool (.s t.2.2)]) := by
  refine ⟨_, rfl, ?_⟩
  generalize hr : (if lv b = 0 then ([], [], false) else (lim (lv a / lv b), lim (lv a % lv b), true) : List Int × List Int × Bool) = r
  have hd := lim_lb (lv b)
  have vd := lv_lim (lv b)
  have hld := lim_length_le' hb
  have hnil := lim_eq_nil (n := lv b)
  obtain ⟨d, ed⟩ : ∃ d, lim (lv b) = d := ⟨_, rfl⟩
  rw [ed] at hd vd hld hnil
  have zero : d.length = 0 → ([], [], false) = r := by
    intro h
    rw [← hr, if_pos (hnil.1 (List.length_eq_zero_iff.1 h))]
  have pos : d.length ≠ 0 → 0 < lv d := by
    intro h
    rcases Nat.eq_zero_or_pos (lv d) with k | k
    · exfalso; apply h; rw [hnil.2 (by omega)]; rfl
    · exact k
  have bl := lv_blen ha
  have b0 := blen_nonneg (lv a : Int)
  have bt := lt_blen (lv a)
  obtain ⟨m, em⟩ : ∃ m : Int × List Int × List Int → Nat, ∀ p, m p = (p.1 + 1).toNat := ⟨_, fun _ => rfl⟩
  obtain ⟨ok, eok⟩ : ∃ ok : Int × List Int × List Int → Prop, ∀ p, ok p ↔ (-1 ≤ p.1 ∧ p.1 < 32 * a.length ∧ p.2.2 = lim (lv a / 2 ^ (p.1 + 1).toNat % lv d) ∧ Lb p.2.1 ∧ lv p.2.1 = lv a / 2 ^ (p.1 + 1).toNat / lv d * 2 ^ (p.1 + 1).toNat ∧ p.2.1.length ≤ a.length) := ⟨_, fun _ => Iff.rfl⟩
  have wn : ∀ n : Int, n = blen (lv a : Int) → IntKind.i64.wrap (n - 1) = blen (lv a : Int) - 1 := by intro n h; rw [h, wi64]; omega
  have start : ok (blen (lv a : Int) - 1, [], []) := by
    have z : lv a / 2 ^ (blen (lv a : Int)).toNat = 0 := Nat.div_eq_of_lt bt
    refine (eok _).2 ⟨by show -1 ≤ blen (lv a : Int) - 1; omega, by show blen (lv a : Int) - 1 < _; omega, ?_, Lb.nil, ?_, Nat.zero_le _⟩
    · show [] = lim (lv a / 2 ^ (blen (lv a : Int) - 1 + 1).toNat % lv d)
      rw [show blen (lv a : Int) - 1 + 1 = blen (lv a : Int) by omega, z, Nat.zero_mod]; rfl
    · show lv [] = lv a / 2 ^ (blen (lv a : Int) - 1 + 1).toNat / lv d * _
      rw [show blen (lv a : Int) - 1 + 1 = blen (lv a : Int) by omega, z, Nat.zero_div, Nat.zero_mul]; rfl
  have inv : ∀ i q w, 0 < lv d → ok (i, q, w) → Lb q ∧ q.length ≤ a.length ∧ Lb w ∧ w.length ≤ b.length ∧ lv w < lv d ∧ i < 8589934592 ∧ (0 ≤ i → 2 ^ (i.toNat + 1) ∣ lv q) := by
    intro i q w hp hok
    obtain ⟨k1, k2, k3, k4, k5, k6⟩ := (eok _).1 hok
    dsimp only at k1 k2 k3 k4 k5 k6
    have lw : lv w < lv d := by rw [k3, lv_lim]; exact Nat.mod_lt _ hp
    refine ⟨k4, k6, by rw [k3]; exact lim_lb _, ?_, lw, by omega, fun hi => ?_⟩
    · have l2 := lv_lt hb
      rw [k3]
      exact lim_length_le (by rw [k3, lv_lim] at lw; omega)
    · rw [k5, show (i + 1).toNat = i.toNat + 1 by omega]
      exact Nat.dvd_mul_left _ _
  have next0 : ∀ i q w w2, 0 < lv d → ok (i, q, w) → 0 ≤ i → w2 = lim (2 * lv w + lv a / 2 ^ i.toNat % 2) → lv w2 < lv d → m (i - 1, q, w2) < m (i, q, w) ∧ ok (i - 1, q, w2) := by
    intro i q w w2 hp hok hi hw h
    obtain ⟨k1, k2, k3, k4, k5, k6⟩ := (eok _).1 hok
    dsimp only at k1 k2 k3 k4 k5 k6
    have e : (i + 1).toNat = i.toNat + 1 := by omega
    rw [e] at k3 k5
    have vw : lv w = lv a / 2 ^ (i.toNat + 1) % lv d := by rw [k3, lv_lim]
    rw [vw] at hw
    rw [hw, lv_lim] at h
    have s := (div_step (A := lv a) (i := i.toNat) hp).1 h
    refine ⟨by rw [em, em]; show (i - 1 + 1).toNat < (i + 1).toNat; omega, (eok _).2 ⟨by show -1 ≤ i - 1; omega, by show i - 1 < _; omega, ?_, k4, ?_, k6⟩⟩
    · show w2 = lim (lv a / 2 ^ (i - 1 + 1).toNat % lv d)
      rw [show (i - 1 + 1).toNat = i.toNat by omega, s.1, hw]
    · show lv q = lv a / 2 ^ (i - 1 + 1).toNat / lv d * 2 ^ (i - 1 + 1).toNat
      rw [show (i - 1 + 1).toNat = i.toNat by omega, s.2, k5, Nat.pow_succ, Nat.mul_comm 2, Nat.mul_assoc, Nat.mul_comm 2]
  have next1 : ∀ i q w w2, 0 < lv d → ok (i, q, w) → 0 ≤ i → w2 = lim (2 * lv w + lv a / 2 ^ i.toNat % 2) → ¬ lv w2 < lv d → m (i - 1, setL q i.toNat, lim (lv w2 - lv d)) < m (i, q, w) ∧ ok (i - 1, setL q i.toNat, lim (lv w2 - lv d)) := by
    intro i q w w2 hp hok hi hw h
    have dv := (inv i q w hp hok).2.2.2.2.2.2 hi
    obtain ⟨k1, k2, k3, k4, k5, k6⟩ := (eok _).1 hok
    dsimp only at k1 k2 k3 k4 k5 k6
    have e : (i + 1).toNat = i.toNat + 1 := by omega
    rw [e] at k3 k5
    have vw : lv w = lv a / 2 ^ (i.toNat + 1) % lv d := by rw [k3, lv_lim]
    rw [vw] at hw
    have st := setL_ok k4 i.toNat dv
    have lw2 : lv w2 = 2 * (lv a / 2 ^ (i.toNat + 1) % lv d) + lv a / 2 ^ i.toNat % 2 := by rw [hw, lv_lim]
    rw [lw2] at h ⊢
    have s := (div_step (A := lv a) (i := i.toNat) hp).2 (by omega)
    refine ⟨by rw [em, em]; show (i - 1 + 1).toNat < (i + 1).toNat; omega, (eok _).2 ⟨by show -1 ≤ i - 1; omega, by show i - 1 < _; omega, ?_, st.2.1, ?_, ?_⟩⟩
    · show lim _ = lim (lv a / 2 ^ (i - 1 + 1).toNat % lv d)
      rw [show (i - 1 + 1).toNat = i.toNat by omega, s.1]
    · show lv (setL q i.toNat) = lv a / 2 ^ (i - 1 + 1).toNat / lv d * 2 ^ (i - 1 + 1).toNat
      rw [show (i - 1 + 1).toNat = i.toNat by omega, s.2, st.2.2.1, k5, Nat.pow_succ, Nat.add_mul, Nat.mul_comm 2, Nat.mul_assoc, Nat.mul_comm 2, Nat.one_mul]
    · show (setL q i.toNat).length ≤ a.length
      rw [st.2.2.2]; omega
  have stop : ∀ i q w, d.length ≠ 0 → ok (i, q, w) → ¬ 0 ≤ i → (lim (lv q), lim (lv w), true) = r := by
    intro i q w hp hok hi
    obtain ⟨k1, k2, k3, k4, k5, k6⟩ := (eok _).1 hok
    dsimp only at k1 k2 k3 k4 k5 k6
    have p := pos hp
    rw [show (i + 1).toNat = 0 by omega, Nat.pow_zero, Nat.div_one] at k3 k5
    rw [k5, k3, lv_lim, Nat.mul_one, vd, ← hr, if_neg (by omega)]
  refine callsA_of hG hm Tryz.func200 (by kernel_rfl) ?_
  intro E hE lp hl
  cbv
  (apply E_callX hE (c_rTrim b hb (by omega)); (case hf => rfl); (case hc => (cbv <;> trivial)); (case hle => exact ⟨u2_sli, trivial⟩); intro x' hx'; cbv)
  rw [hx'.trans ed]
  clear hx' x'
  refine E_br hE (fun h => ?_) (fun h => ?_) <;> cbv
  · subst hE
    have z := zero (by have k : (d.length : Int) = 0 := eql_t h; omega)
    rw [← z]; exact ⟨rfl, rfl, rfl, trivial⟩
  have ne : d.length ≠ 0 := by subst hE; have k : ¬ (d.length : Int) = 0 := eql_f h; omega
  have pd := pos ne
  (apply E_callX hE (c_rLen a ha (by omega)); (case hf => rfl); (case hc => (cbv <;> trivial)); (case hle => exact ⟨u2_sli, trivial⟩); intro n hn; cbv)
  refine E_nm hE (fun i0 hi0 => ?_)
  cbv
  have ei0 : i0 = blen (lv a : Int) - 1 := by subst hE; have k : i0 = IntKind.i64.wrap (n - 1) := hi0; rw [k]; exact wn n hn
  refine E_loopM hE hG hm hl (fun p : Int × List Int × List Int => (⟨[(0, .sli .u32 a), (7, .sli .u32 d), (8, .sli .u32 p.2.1), (9, .sli .u32 p.2.2), (10, .int .i64 (.s p.1))], []⟩ : St)) m ok ⟨(i0, [], []), [], (by rw [ei0]; exact start), stLeM trivial rfl rfl rfl trivial ?_⟩ ?_
  · (repeat' (first | exact m_nil | refine m_consA (ms_le rfl rfl) rfl ?_ | refine m_cons ?_ rfl ?_ | exact u2_int | exact u2_bool | exact u2_sli | exact (rfl : sle2 .s0 .s0) | exact u2_s0))
  rintro ⟨i, q, w⟩ hok
  have iv := inv i q w pd hok
  have n0 := fun w2 => next0 i q w w2 pd hok
  have n1 := fun w2 => next1 i q w w2 pd hok
  have sp := stop i q w ne hok
  have wpi : 0 ≤ i → IntKind.i64.wrap (i - 1) = i - 1 := fun p => by have := iv.2.2.2.2.2.1; rw [wi64]; omega
  have l1 : Lb [(1 : Int)] := Lb.cons (by decide) (by decide) Lb.nil
  have l1 : Lb [(1 : Int)] := Lb.cons (by decide) (by decide) Lb.nil
  have small : ∀ (u : List Int) (X : Nat), u = lim X → X ≤ 2 * lv d → Lb u ∧ u.length < 268435456 := by
    intro u X hu hX
    subst hu
    refine ⟨lim_lb _, ?_⟩
    have l2 := lv_lt hd
    have : (lim X).length ≤ d.length + 1 := lim_length_le (by rw [Nat.pow_succ]; omega)
    omega
  have lw := iv.2.2.2.2.1
  have bit01 := Nat.mod_lt (lv a / 2 ^ i.toNat) (show 0 < 2 by decide)
  have dbl : ∀ t, t = lim (lv w + lv w) → Lb t ∧ t.length < 268435456 ∧ lv t = 2 * lv w := by
    intro t ht
    have k := small t _ ht (by omega)
    exact ⟨k.1, k.2, by rw [ht, lv_lim]; omega⟩
  have nxt0 : ∀ t, t = lim (lv w + lv w) → ¬ lv a / 2 ^ i.toNat % 2 = 1 → t = lim (2 * lv w + lv a / 2 ^ i.toNat % 2) ∧ Lb t ∧ t.length < 268435456 := by
    intro t ht h
    have k := small t _ ht (by omega)
    exact ⟨by rw [ht]; congr 1; omega, k.1, k.2⟩
  have nxt1 : ∀ t u, t = lim (lv w + lv w) → u = lim (lv t + lv [(1 : Int)]) → lv a / 2 ^ i.toNat % 2 = 1 → u = lim (2 * lv w + lv a / 2 ^ i.toNat % 2) ∧ Lb u ∧ u.length < 268435456 := by
    intro t u ht hu h
    have e : lv [(1 : Int)] = 1 := rfl
    rw [e, (dbl t ht).2.2] at hu
    have k := small u _ hu (by omega)
    exact ⟨by rw [hu, h], k.1, k.2⟩
  have lens : w.length < 268435456 ∧ d.length < 268435456 ∧ q.length < 268435456 ∧ i < 9223372036854775807 ∧ i < 8589934592 := ⟨by have := iv.2.2.2.1; omega, by omega, by have := iv.2.1; omega, by have := iv.2.2.2.2.2.1; omega, iv.2.2.2.2.2.1⟩
  have addok : 0 ≤ i → (q ++ List.replicate (i.toNat / 32 + 1 - q.length) 0).getD (i.toNat / 32) 0 + 2 ^ (i.toNat % 32) < 4294967296 := fun h => (setL_ok iv.1 i.toNat (iv.2.2.2.2.2.2 h)).1
  have subs : ∀ (w2 : List Int) (s : List Int × Bool), s = (if lv w2 < lv d then ([], false) else (lim (lv w2 - lv d), true)) → (s.2 = false → lv w2 < lv d) ∧ (s.2 = true → ¬ lv w2 < lv d ∧ s.1 = lim (lv w2 - lv d)) := by
    intro w2 s hs
    subst hs
    by_cases k : lv w2 < lv d
    · rw [if_pos k]; exact ⟨fun _ => k, fun h => by cases h⟩
    · rw [if_neg k]; exact ⟨fun h => by (cases h), fun _ => ⟨k, rfl⟩⟩
  clear next0 next1 stop start inv hok eok zero pos
  cbv
  refine E_br hE (fun hi => ?_) (fun hi => ?_) <;> cbv
  · have hnn : 0 ≤ i := by subst hE; exact geq_t hi
    (apply E_callX hE (c_rAdd w w iv.2.2.1 iv.2.2.1 lens.1 lens.1); (case hf => rfl); (case hc => (cbv <;> trivial)); (case hle => exact ⟨u2_sli, u2_sli, trivial⟩); intro t ht; cbv)
    (apply E_callX hE (c_rBit a i ha hnn lens.2.2.2.1); (case hf => rfl); (case hc => (cbv <;> trivial)); (case hle => exact ⟨u2_sli, u2_int, trivial⟩); intro o ho; cbv)
    refine E_br hE (fun hb1 => ?_) (fun hb1 => ?_) <;> cbv
    · have bt1 : lv a / 2 ^ i.toNat % 2 = 1 := of_decide_eq_true (ho.symm.trans hb1)
      have T := dbl t ht
      have es : E.sub [1] 0 1 = [1] := by subst hE; rfl
      repeat' (first
    | (refine E_br hE (fun h => ?_) (fun h => ?_) <;> cbv)
    | (refine E_nm hE (fun v hv => ?_); cbv)
    | (refine E_nilS hE (fun b hb => ?_); cbv)
    | (apply E_callX hE (c_rAdd _ _ ?_ ?_ ?_ ?_); (case hf => rfl); (case hc => (cbv <;> trivial)); (case hle => exact u_up); all_goals (first | (intro u hu; cbv) | ((first | exact T.1 | exact T.2.1 | (show Lb (E.sub [1] 0 1); rw [es]; exact l1) | (show (E.sub [1] 0 1).length < 268435456; rw [es]; show (1 : Nat) < 268435456; decide)))))
    | fail)
      have U := nxt1 t u ht (by rw [hu]; congr 2; show lv (E.sub [1] 0 1) = _; rw [es]) bt1
      (apply E_callX hE (c_rSub u d U.2.1 hd U.2.2 lens.2.1); (case hf => rfl); (case hc => (cbv <;> trivial)); (case hle => exact ⟨u2_sli, u2_sli, trivial⟩); intro s hs; cbv)
      have SB := subs u s hs
      refine E_br hE (fun hs2 => ?_) (fun hs2 => ?_) <;> cbv
      · have k := SB.2 hs2
        (apply E_callX hE (c_rSet q i iv.1 lens.2.2.1 hnn lens.2.2.2.2 (addok hnn)); (case hf => rfl); (case hc => (cbv <;> trivial)); (case hle => exact ⟨u2_sli, u2_int, trivial⟩); intro q' hq'; cbv)
        refine E_nm hE (fun v hv => ?_)
        cbv
        refine ⟨(v, q', s.1), [], ?_, ?_, stLeM trivial rfl rfl rfl trivial ?_⟩
        rotate_right
        · (repeat' (first | exact m_nil | refine m_consA (ms_le rfl rfl) rfl ?_ | refine m_cons ?_ rfl ?_ | exact u2_int | exact u2_bool | exact u2_sli | exact (rfl : sle2 .s0 .s0) | exact u2_s0))
        all_goals (have g := n1 u hnn U.1 k.1; rw [← k.2, ← show q' = setL q i.toNat from hq'] at g; have hv' : v = i - 1 := (by subst hE; have z : v = IntKind.i64.wrap (i - 1) := hv; rw [z, wpi hnn]); subst hv'; first | exact g.1 | exact g.2)
      · have k := SB.1 hs2
        refine E_nm hE (fun v hv => ?_)
        cbv
        refine ⟨(v, q, u), [], ?_, ?_, stLeM trivial rfl rfl rfl trivial ?_⟩
        rotate_right
        · (repeat' (first | exact m_nil | refine m_consA (ms_le rfl rfl) rfl ?_ | refine m_cons ?_ rfl ?_ | exact u2_int | exact u2_bool | exact u2_sli | exact (rfl : sle2 .s0 .s0) | exact u2_s0))
        all_goals (have g := n0 u hnn U.1 k; have hv' : v = i - 1 := (by subst hE; have z : v = IntKind.i64.wrap (i - 1) := hv; rw [z, wpi hnn]); subst hv'; first | exact g.1 | exact g.2)
    · have bt0 : ¬ lv a / 2 ^ i.toNat % 2 = 1 := of_decide_eq_false (ho.symm.trans hb1)
      have U := nxt0 t ht bt0
      (apply E_callX hE (c_rSub t d U.2.1 hd U.2.2 lens.2.1); (case hf => rfl); (case hc => (cbv <;> trivial)); (case hle => exact ⟨u2_sli, u2_sli, trivial⟩); intro s hs; cbv)
      have SB := subs t s hs
      refine E_br hE (fun hs2 => ?_) (fun hs2 => ?_) <;> cbv
      · have k := SB.2 hs2
        (apply E_callX hE (c_rSet q i iv.1 lens.2.2.1 hnn lens.2.2.2.2 (addok hnn)); (case hf => rfl); (case hc => (cbv <;> trivial)); (case hle => exact ⟨u2_sli, u2_int, trivial⟩); intro q' hq'; cbv)
        refine E_nm hE (fun v hv => ?_)
        cbv
        refine ⟨(v, q', s.1), [], ?_, ?_, stLeM trivial rfl rfl rfl trivial ?_⟩
        rotate_right
        · (repeat' (first | exact m_nil | refine m_consA (ms_le rfl rfl) rfl ?_ | refine m_cons ?_ rfl ?_ | exact u2_int | exact u2_bool | exact u2_sli | exact (rfl : sle2 .s0 .s0) | exact u2_s0))
        all_goals (have g := n1 t hnn U.1 k.1; rw [← k.2, ← show q' = setL q i.toNat from hq'] at g; have hv' : v = i - 1 := (by subst hE; have z : v = IntKind.i64.wrap (i - 1) := hv; rw [z, wpi hnn]); subst hv'; first | exact g.1 | exact g.2)
      · have k := SB.1 hs2
        refine E_nm hE (fun v hv => ?_)
        cbv
        refine ⟨(v, q, t), [], ?_, ?_, stLeM trivial rfl rfl rfl trivial ?_⟩
        rotate_right
        · (repeat' (first | exact m_nil | refine m_consA (ms_le rfl rfl) rfl ?_ | refine m_cons ?_ rfl ?_ | exact u2_int | exact u2_bool | exact u2_sli | exact (rfl : sle2 .s0 .s0) | exact u2_s0))
        all_goals (have g := n0 t hnn U.1 k; have hv' : v = i - 1 := (by subst hE; have z : v = IntKind.i64.wrap (i - 1) := hv; rw [z, wpi hnn]); subst hv'; first | exact g.1 | exact g.2)
  · (apply E_callX hE (c_rTrim q iv.1 (Nat.le_of_lt lens.2.2.1)); (case hf => rfl); (case hc => (cbv <;> trivial)); (case hle => exact ⟨u2_sli, trivial⟩); intro x hx; cbv)
    (apply E_callX hE (c_rTrim w iv.2.2.1 (Nat.le_of_lt lens.1)); (case hf => rfl); (case hc => (cbv <;> trivial)); (case hle => exact ⟨u2_sli, trivial⟩); intro y hy; cbv)
    subst hE
    have g := sp (geq_f hi)
    rw [← g, ← hx, ← hy]
    exact ⟨rfl, rfl, rfl, trivial⟩

end Go.Proofs.YtpadpcjdakfokaaGreatDoor.Ev

/- Contracts of the reference: shifted down. Printed by gen.py. -/
namespace Go.Proofs.YtpadpcjdakfokaaGreatDoor.Ev
open Go Go.Proofs
set_option linter.unusedVariables false
set_option linter.unusedSimpArgs false

attribute [local irreducible] Lb
theorem c_rShr (a : List Int) (n : Int) (ha : Lb a) (hla : a.length < 67108864) (hn : n < 9223372036854775807) : ∃ t : List Int, t = (if n < 1 then lim (lv a) else lim (lv a / 2 ^ n.toNat)) ∧ CallsA Tryz.prog 195 [.sli .u32 a, .int .i64 (.s n)] (.sli .u32 t) := by
  refine ⟨_, rfl, ?_⟩
  generalize hr : (if n < 1 then lim (lv a) else lim (lv a / 2 ^ n.toNat)) = r
  have low : n < 1 → lim (lv a) = r := fun h => by rw [← hr, if_pos h]
  have hig : ¬ n < 1 → IntKind.i64.wrap (32 * (a.length : Int)) ≤ n → [] = r := by
    intro h g
    rw [wi64_id (by omega) (by omega)] at g
    have l := lv_lt ha
    have e : (4294967296 : Nat) ^ a.length = 2 ^ (32 * a.length) := by rw [show (4294967296 : Nat) = 2 ^ 32 from rfl, ← Nat.pow_mul]
    have p : (2 : Nat) ^ (32 * a.length) ≤ 2 ^ n.toNat := Nat.pow_le_pow_right (by decide) (by omega)
    rw [← hr, if_neg h, Nat.div_eq_of_lt (by omega)]; rfl
  have nums : ¬ n < 1 → ¬ IntKind.i64.wrap (32 * (a.length : Int)) ≤ n → intBinR .quo .i64 n 32 = n / 32 ∧ intBinR .rem .i64 n 32 = n % 32 ∧ 0 ≤ n / 32 ∧ n / 32 < a.length := by
    intro h g
    rw [wi64_id (by omega) (by omega)] at g
    refine ⟨quo32 (by omega) (by omega), rem32 (by omega), by omega, by omega⟩
  have val : ¬ n < 1 → n / 32 < a.length → (if lv [(2 : Int) ^ (n % 32).toNat] = 0 then ([], [], false) else (lim (lv (lim (lv (a.drop (n / 32).toNat))) / lv [(2 : Int) ^ (n % 32).toNat]), lim (lv (lim (lv (a.drop (n / 32).toNat))) % lv [(2 : Int) ^ (n % 32).toNat]), true) : List Int × List Int × Bool).1 = r := by
    intro h g
    have e : lv [(2 : Int) ^ (n % 32).toNat] = 2 ^ (n % 32).toNat := by
      show ((2 : Int) ^ (n % 32).toNat).toNat + 4294967296 * 0 = _
      rw [pow2_cast]; simp only [Int.toNat_natCast, Nat.mul_zero, Nat.add_zero]
    have p0 : 0 < 2 ^ (n % 32).toNat := Nat.pow_pos (by decide)
    have p := pow_split n.toNat
    rw [show n.toNat / 32 = (n / 32).toNat by omega, show n.toNat % 32 = (n % 32).toNat by omega] at p
    rw [e, if_neg (by omega), lv_lim, lv_drop ha _ (by omega), Nat.div_div_eq_div_mul, ← p, ← hr, if_neg h]
  have l2 : Lb [(2 : Int) ^ (n % 32).toNat] := by have := two_le (r := (n % 32).toNat) (by omega); exact Lb.cons (by omega) (by omega) Lb.nil
  have hx : ∀ x, x = lim (lv (a.drop (n / 32).toNat)) → Lb x ∧ x.length < 67108864 := by
    intro x h
    subst h
    refine ⟨lim_lb _, ?_⟩
    have := lim_length_le' (ha.drop (n / 32).toNat)
    rw [List.length_drop] at this
    omega
  have ld : Lb (a.drop (n / 32).toNat) ∧ (a.drop (n / 32).toNat).length ≤ 268435456 := ⟨ha.drop _, by rw [List.length_drop]; omega⟩
  refine callsA_of hG hm Tryz.func195 (by kernel_rfl) ?_
  intro E hE lp hl
  cbv
  refine E_br hE (fun g1 => ?_) (fun g1 => ?_) <;> cbv
  · repeat' (first
    | (refine E_br hE (fun h => ?_) (fun h => ?_) <;> cbv)
    | (refine E_nm hE (fun v hv => ?_); cbv)
    | (refine E_nilS hE (fun b hb => ?_); cbv)
    | (apply E_callX hE (c_rTrim _ ha ?_); (case hf => rfl); (case hc => (cbv <;> trivial)); (case hle => exact u_up); all_goals (first | (intro t ht; cbv) | (omega)))
    | fail)
    subst hE; rw [ht]; exact low (lss_t g1)
  refine E_br hE (fun g2 => ?_) (fun g2 => ?_) <;> cbv
  · subst hE; exact (hig (lss_f g1) (geq_t g2)).symm
  have nm : E.bin .quo .i64 n 32 = n / 32 ∧ E.bin .rem .i64 n 32 = n % 32 ∧ 0 ≤ n / 32 ∧ n / 32 < a.length := by subst hE; exact nums (lss_f g1) (geq_f g2)
  have es0 : E.sub a (E.bin .quo .i64 n 32) (E.minus (E.len a) (E.bin .quo .i64 n 32)) = a.drop (n / 32).toNat := by
    subst hE; rw [nm.1]; show (a.drop (n / 32).toNat).take ((a.length : Int) - n / 32).toNat = _; rw [List.take_of_length_le (by rw [List.length_drop]; omega)]
  have es2 : ∀ v, v = E.bin .shl .u32 1 (E.conv .u64 (E.bin .rem .i64 n 32)) → E.sub [v] 0 1 = [2 ^ (n % 32).toNat] := by
    intro v hv
    subst hE
    have e : (realE Tryz.prog).conv .u64 ((realE Tryz.prog).bin .rem .i64 n 32) = n % 32 := by
      rw [nm.2.1]; show IntKind.u64.wrap (n % 32) = n % 32; rw [wu64]; omega
    rw [e] at hv
    have e2 : v = intBinR .shl .u32 1 (n % 32) := hv
    rw [shl_one (by omega) (by omega)] at e2
    subst e2; rfl
  refine E_br hE (fun b1 => ?_) (fun b1 => ?_) <;> cbv
  · refine E_br hE (fun b2 => ?_) (fun b2 => ?_) <;> cbv
    · refine E_br hE (fun b3 => ?_) (fun b3 => ?_) <;> cbv
      · (apply E_callX hE (c_rTrim _ ?_ ?_); (case hf => rfl); (case hc => (cbv <;> trivial)); (case hle => exact ⟨u2_sli, trivial⟩); all_goals (first | (intro x hx'; cbv) | (show Lb (E.sub a (E.bin .quo .i64 n 32) (E.minus (E.len a) (E.bin .quo .i64 n 32))); rw [es0]; exact ld.1) | (show (E.sub a (E.bin .quo .i64 n 32) (E.minus (E.len a) (E.bin .quo .i64 n 32))).length ≤ 268435456; rw [es0]; exact ld.2)))
        replace hx' : x = lim (lv (E.sub a (E.bin .quo .i64 n 32) (E.minus (E.len a) (E.bin .quo .i64 n 32)))) := hx'
        rw [es0] at hx'
        have X := hx x hx'
        refine E_br hE (fun b4 => ?_) (fun b4 => ?_) <;> cbv
        · exfalso
          subst hE
          have k := lss_t b4
          have e : (realE Tryz.prog).conv .u64 ((realE Tryz.prog).bin .rem .i64 n 32) = n % 32 := by rw [nm.2.1]; show IntKind.u64.wrap (n % 32) = n % 32; rw [wu64]; omega
          rw [e] at k
          omega
        · have e2 := es2 _ rfl
          (apply E_callX hE (c_rDiv _ _ X.1 ?_ X.2 ?_); (case hf => rfl); (case hc => (cbv <;> trivial)); (case hle => exact ⟨u2_sli, u2_sli, trivial⟩); all_goals (first | (intro t ht; cbv) | (show Lb (E.sub [(E.bin .shl .u32 1 (E.conv .u64 (E.bin .rem .i64 n 32)))] 0 1); rw [e2]; exact l2) | (show (E.sub [(E.bin .shl .u32 1 (E.conv .u64 (E.bin .rem .i64 n 32)))] 0 1).length < 67108864; rw [e2]; show (1 : Nat) < 67108864; decide)))
          replace ht : t = (if lv (E.sub [(E.bin .shl .u32 1 (E.conv .u64 (E.bin .rem .i64 n 32)))] 0 1) = 0 then ([], [], false) else (lim (lv x / lv (E.sub [(E.bin .shl .u32 1 (E.conv .u64 (E.bin .rem .i64 n 32)))] 0 1)), lim (lv x % lv (E.sub [(E.bin .shl .u32 1 (E.conv .u64 (E.bin .rem .i64 n 32)))] 0 1)), true)) := ht
          rw [e2, hx'] at ht
          rw [← val (by subst hE; exact lss_f g1) nm.2.2.2, ht]
      · exfalso; subst hE; exact leq_f b3 (Int.le_refl _)
    · exfalso; subst hE; apply leq_f b2; show intBinR .quo .i64 n 32 ≤ (a.length : Int); rw [show intBinR .quo .i64 n 32 = n / 32 from nm.1]; exact Int.le_of_lt nm.2.2.2
  · exfalso; subst hE; apply leq_f b1; show (0 : Int) ≤ intBinR .quo .i64 n 32; rw [show intBinR .quo .i64 n 32 = n / 32 from nm.1]; exact nm.2.2.1

end Go.Proofs.YtpadpcjdakfokaaGreatDoor.Ev

/- Contracts of the reference: whole numbers. Printed by gen.py. -/
namespace Go.Proofs.YtpadpcjdakfokaaGreatDoor.Ev
open Go Go.Proofs
set_option linter.unusedVariables false
set_option linter.unusedSimpArgs false

attribute [local irreducible] Lb
theorem lim_len_pos (n : Nat) : 0 < (lim n).length ↔ n ≠ 0 := by
  constructor
  · intro h e; rw [e] at h; exact absurd h (by decide)
  · intro h
    rcases Nat.eq_zero_or_pos (lim n).length with k | k
    · exact absurd (lim_eq_nil.1 (List.length_eq_zero_iff.1 k)) h
    · exact k
theorem c_r2Make (neg : Bool) (m : List Int) (hm_ : Lb m) (hl : m.length ≤ 268435456) : ∃ t : Bool × List Int, t = (neg && decide (lv m ≠ 0), lim (lv m)) ∧ CallsA Tryz.prog 79 [.bool (.s neg), .sli .u32 m] (.agg [.bool (.s t.1), .sli .u32 t.2]) := by
  refine ⟨_, rfl, ?_⟩
  generalize hr : (neg && decide (lv m ≠ 0), lim (lv m)) = r
  have hp := lim_len_pos (lv m)
  refine callsA_of hG hm Tryz.func79 (by kernel_rfl) ?_
  intro E hE lp hl'
  cbv
  repeat' (first
    | (refine E_br hE (fun h => ?_) (fun h => ?_) <;> cbv)
    | (refine E_nm hE (fun v hv => ?_); cbv)
    | (refine E_nilS hE (fun b hb => ?_); cbv)
    | (apply E_callX hE (c_rTrim _ hm_ hl); (case hf => rfl); (case hc => (cbv <;> trivial)); (case hle => exact u_up); all_goals (first | (intro t ht; cbv) | (subst hE; (try simp only [NatCast.natCast, Int.ofNat_eq_natCast, realE, cmp_eql, cmp_neq, cmp_lss, cmp_leq, cmp_gtr, cmp_geq, intBinR, decide_eq_true_eq, decide_eq_false_iff_not, SI.val, SB.val, Num.eta, Iv.eta] at *); subst_vars; (first | assumption | omega))))
    | fail)
  all_goals (subst hE; subst hr)
  · refine ⟨?_, ht, trivial⟩
    rw [‹neg = true›]
    show decide ((0 : Int) < (t.length : Int)) = (true && decide (lv m ≠ 0))
    rw [ht, Bool.true_and]
    exact decide_eq_decide.2 ⟨fun h => hp.1 (by omega), fun h => by have := hp.2 h; omega⟩
  · exact ⟨by rw [‹neg = false›]; rfl, ht, trivial⟩
theorem c_r2Sign (neg : Bool) (m : List Int) (hm_ : Lb m) (hl : m.length ≤ 268435456) : ∃ t : Int, t = (if lv m = 0 then 0 else if neg = true then -1 else 1 : Int) ∧ CallsA Tryz.prog 161 [.agg [.bool (.s neg), .sli .u32 m]] (.int .i64 (.s t)) := by
  refine ⟨_, rfl, ?_⟩
  generalize hr : (if lv m = 0 then 0 else if neg = true then -1 else 1 : Int) = r
  have hp := lim_len_pos (lv m)
  refine callsA_of hG hm Tryz.func161 (by kernel_rfl) ?_
  intro E hE lp hl'
  cbv
  repeat' (first
    | (refine E_br hE (fun h => ?_) (fun h => ?_) <;> cbv)
    | (refine E_nm hE (fun v hv => ?_); cbv)
    | (refine E_nilS hE (fun b hb => ?_); cbv)
    | (apply E_callX hE (c_r2Make _ _ hm_ hl); (case hf => rfl); (case hc => (cbv <;> trivial)); (case hle => exact u_up); all_goals (first | (intro t ht; cbv) | (subst hE; (try simp only [NatCast.natCast, Int.ofNat_eq_natCast, realE, cmp_eql, cmp_neq, cmp_lss, cmp_leq, cmp_gtr, cmp_geq, intBinR, decide_eq_true_eq, decide_eq_false_iff_not, SI.val, SB.val, Num.eta, Iv.eta] at *); subst_vars; (first | assumption | omega))))
    | fail)
  all_goals (subst hE; subst hr)
  · have k : (t.2.length : Int) = 0 := eql_t ‹_›
    rw [ht] at k
    rw [if_pos (by rcases Nat.eq_zero_or_pos (lv m) with z | z; exact z; exact absurd (hp.2 (by omega)) (by show ¬ 0 < (lim (lv m)).length; have k2 : ((lim (lv m)).length : Int) = 0 := k; omega))]
  all_goals (have k : ¬ (t.2.length : Int) = 0 := eql_f ‹_›; rw [ht] at k; have k2 : lv m ≠ 0 := hp.1 (by have k3 : ¬ ((lim (lv m)).length : Int) = 0 := k; omega); rw [if_neg k2])
  · have q : t.1 = true := ‹_›
    rw [ht] at q
    rw [if_pos (by simp [k2] at q; exact q)]
  · have q : t.1 = false := ‹_›
    rw [ht] at q
    have q' : neg = false := by simp [k2] at q; exact q
    rw [if_neg (by rw [q']; decide)]

end Go.Proofs.YtpadpcjdakfokaaGreatDoor.Ev

/- How often a number is even, and its odd part: plain Lean. -/
namespace Go.Proofs.YtpadpcjdakfokaaGreatDoor.Ev
open Go

def v2 (n : Nat) : Nat := if h : 0 < n ∧ n % 2 = 0 then v2 (n / 2) + 1 else 0
termination_by n
decreasing_by omega
theorem v2_even {n : Nat} (h : 0 < n) (h2 : n % 2 = 0) : v2 n = v2 (n / 2) + 1 := by rw [v2, dif_pos ⟨h, h2⟩]
theorem v2_odd {n : Nat} (h2 : n % 2 ≠ 0) : v2 n = 0 := by rw [v2, dif_neg (fun k => h2 k.2)]
theorem v2_spec : ∀ (n : Nat), 0 < n → n / 2 ^ v2 n * 2 ^ v2 n = n ∧ n / 2 ^ v2 n % 2 = 1 ∧ 2 ^ v2 n ≤ n := by
  intro n
  induction n using Nat.strongRecOn with
  | ind n ih =>
    intro h
    rcases Nat.mod_two_eq_zero_or_one n with k | k
    · rw [v2_even h k]
      obtain ⟨i1, i2, i3⟩ := ih (n / 2) (by omega) (by omega)
      rw [Nat.pow_succ, Nat.mul_comm (2 ^ _) 2, ← Nat.div_div_eq_div_mul]
      refine ⟨?_, i2, by omega⟩
      rw [Nat.mul_left_comm, i1]; omega
    · rw [v2_odd (by omega)]
      simp; omega
theorem v2_lt {n k : Nat} (h0 : 0 < n) (h : n < 2 ^ k) : v2 n < k := by
  have := (v2_spec n h0).2.2
  rcases Nat.lt_or_ge (v2 n) k with j | j
  · exact j
  · have : (2 : Nat) ^ k ≤ 2 ^ v2 n := Nat.pow_le_pow_right (by decide) j
    omega
/-- a number times a power of two, told by its odd part -/
def dyMake (neg : Bool) (k : Nat) (e : Int) : Bool × Nat × Int :=
  if k = 0 ∨ e < -4194304 ∨ 4194304 < e then (false, 0, 0) else if 4194304 < e + v2 k then (false, 0, 0) else (neg, k / 2 ^ v2 k, e + v2 k)
theorem half_pow {k j : Nat} : k / 2 ^ j / 2 = k / 2 ^ (j + 1) := by rw [Nat.div_div_eq_div_mul, Nat.pow_succ]
/-- the rounds of taking twos off -/
theorem v2_round {k j : Nat} (hk : 0 < k) (h : v2 k = j + v2 (k / 2 ^ j)) (hp : 0 < k / 2 ^ j) :
    (k / 2 ^ j % 2 = 0 → v2 k = j + 1 + v2 (k / 2 ^ (j + 1)) ∧ 0 < k / 2 ^ (j + 1)) ∧ (k / 2 ^ j % 2 ≠ 0 → v2 k = j) := by
  constructor
  · intro e
    rw [v2_even hp e, half_pow] at h
    exact ⟨by omega, by rw [← half_pow]; omega⟩
  · intro e
    rw [v2_odd e] at h; omega
end Go.Proofs.YtpadpcjdakfokaaGreatDoor.Ev

/- Contracts of the reference: numbers times powers of two. Printed by gen.py. -/
namespace Go.Proofs.YtpadpcjdakfokaaGreatDoor.Ev
open Go Go.Proofs
set_option linter.unusedVariables false
set_option linter.unusedSimpArgs false

attribute [local irreducible] Lb
theorem lv_mod2 {m : List Int} (h : Lb m) (hl : 0 < m.length) : lv m % 2 = 0 ↔ m.getD 0 0 % 2 = 0 := by
  cases m with
  | nil => exact absurd hl (by simp)
  | cons x r =>
    have := h.head
    show (x.toNat + 4294967296 * lv r) % 2 = 0 ↔ x % 2 = 0
    omega
theorem rem2_u32 {n : Int} (h : 0 ≤ n) : intBinR .rem .u32 n 2 = n % 2 := by
  show n.tmod 2 = _
  exact Int.tmod_eq_emod_of_nonneg h
theorem c_r3even (m : List Int) (h : Lb m) : ∃ t : Bool, t = decide (0 < m.length ∧ lv m % 2 = 0) ∧ CallsA Tryz.prog 194 [.sli .u32 m] (.bool (.s t)) := by
  refine ⟨_, rfl, ?_⟩
  generalize hr : decide (0 < m.length ∧ lv m % 2 = 0) = r
  have e := lv_mod2 h
  have g := h.getD 0
  have rm := rem2_u32 g.1
  refine callsA_of hG hm Tryz.func194 (by kernel_rfl) ?_
  intro E hE lp hl'
  cbv
  repeat' (first
    | (refine E_br hE (fun h => ?_) (fun h => ?_) <;> cbv)
    | (refine E_nm hE (fun v hv => ?_); cbv)
    | (refine E_nilS hE (fun b hb => ?_); cbv)
    | fail)
  all_goals (subst hE)
  · have k : 0 < m.length := by have q : (0 : Int) < (m.length : Int) := gtr_t ‹_›; omega
    rw [← hr]
    show (realE Tryz.prog).cmp .eql ((realE Tryz.prog).bin .rem .u32 ((realE Tryz.prog).get m 0) 2) 0 = _
    rw [show (realE Tryz.prog).bin .rem .u32 ((realE Tryz.prog).get m 0) 2 = m.getD 0 0 % 2 from rm]
    simp only [realE, cmp_eql]
    exact decide_eq_decide.2 ⟨fun q => ⟨k, (e k).2 q⟩, fun q => (e k).1 q.2⟩
  · have q1 : (0 : Int) < (m.length : Int) := gtr_t ‹_›
    have q2 : ¬ (0 : Int) < (m.length : Int) := lss_f ‹_›
    exact q2 q1
  · have q2 : ¬ (0 : Int) < (m.length : Int) := gtr_f ‹_›
    rw [← hr, decide_eq_false (fun q => q2 (by omega))]
theorem c_r3Make (neg : Bool) (m : List Int) (e : Int) (h : Lb m) (hl : m.length ≤ 125000) (he : -9223372036854775808 ≤ e ∧ e < 9223372036854775808) : ∃ t : Bool × Nat × Int, t = dyMake neg (lv m) e ∧
    CallsA Tryz.prog 133 [.agg [.bool (.s neg), .sli .u32 m], .int .i64 (.s e)] (.agg [.bool (.s t.1), .sli .u32 (lim t.2.1), .int .i64 (.s t.2.2)]) := by
  refine ⟨_, rfl, ?_⟩
  generalize hr : dyMake neg (lv m) e = r
  obtain ⟨k, ek⟩ : ∃ k, lv m = k := ⟨_, rfl⟩
  obtain ⟨B, hB, hk⟩ : ∃ B : Nat, B ≤ 4000000 ∧ k < 2 ^ B := by
    have l := lv_lt h
    rw [ek, show (4294967296 : Nat) = 2 ^ 32 from rfl, ← Nat.pow_mul] at l
    exact ⟨32 * m.length, by omega, l⟩
  have hx : ∀ t : Bool × List Int, t = (neg && decide (lv m ≠ 0), lim (lv m)) → t.2 = lim k ∧ (t.2.length = 0 ↔ k = 0) ∧ (k ≠ 0 → t.1 = neg) := by
    intro t ht
    subst ht
    rw [ek]
    have := lim_len_pos k
    refine ⟨rfl, ⟨fun z => lim_eq_nil.1 (List.length_eq_zero_iff.1 z), fun z => by rw [z]; rfl⟩, fun z => by simp [z]⟩
  have bad : (k = 0 ∨ e < -4194304 ∨ 4194304 < e) → r = (false, 0, 0) := by
    intro z; rw [← hr, ek]; unfold dyMake; rw [if_pos z]
  have big : ¬ (k = 0 ∨ e < -4194304 ∨ 4194304 < e) → 4194304 < e + v2 k → r = (false, 0, 0) := by
    intro z y; rw [← hr, ek]; unfold dyMake; rw [if_neg z, if_pos y]
  have fine : ¬ (k = 0 ∨ e < -4194304 ∨ 4194304 < e) → ¬ 4194304 < e + v2 k → r = (neg, k / 2 ^ v2 k, e + v2 k) := by
    intro z y; rw [← hr, ek]; unfold dyMake; rw [if_neg z, if_neg y]
  obtain ⟨ms, em⟩ : ∃ ms : Int × Int × List Int → Nat, ∀ p, ms p = ((4000000 : Int) - p.1).toNat := ⟨_, fun _ => rfl⟩
  obtain ⟨ok, eok⟩ : ∃ ok : Int × Int × List Int → Prop, ∀ p, ok p ↔ (0 ≤ p.1 ∧ p.2.1 = e + p.1 ∧ p.2.2 = lim (k / 2 ^ p.1.toNat) ∧ v2 k = p.1.toNat + v2 (k / 2 ^ p.1.toNat) ∧ 0 < k / 2 ^ p.1.toNat ∧ p.2.2.length < 67108864) := ⟨_, fun _ => Iff.rfl⟩
  have vlt : k ≠ 0 → v2 k < 4000000 := fun z => Nat.lt_of_lt_of_le (v2_lt (by omega) hk) hB
  have limlen : ∀ j, (lim (k / 2 ^ j)).length < 67108864 := by
    intro j
    have l := lv_lt h
    rw [ek] at l
    have d : k / 2 ^ j ≤ k := Nat.div_le_self _ _
    have := lim_length_le (n := k / 2 ^ j) (k := m.length) (by omega)
    omega
  have start : k ≠ 0 → ∀ x, x = lim k → ok (0, e, x) := by
    intro z x hx
    refine (eok _).2 ⟨Int.le_refl _, by show e = e + 0; omega, ?_, ?_, ?_, by rw [hx]; have := limlen 0; simpa using this⟩
    · show x = lim (k / 2 ^ (0 : Int).toNat); rw [hx]; simp
    · show v2 k = (0 : Int).toNat + v2 (k / 2 ^ (0 : Int).toNat); simp
    · show 0 < k / 2 ^ (0 : Int).toNat; simp; omega
  have nextE : ∀ i e' L, k ≠ 0 → ok (i, e', L) → (0 < L.length ∧ lv L % 2 = 0) → ∀ L', L' = (if (1 : Int) < 1 then lim (lv L) else lim (lv L / 2 ^ (1 : Int).toNat)) → ms (i + 1, e' + 1, L') < ms (i, e', L) ∧ ok (i + 1, e' + 1, L') := by
    intro i e' L z hok hev L' hL
    obtain ⟨k1, k2, k3, k4, k5, k6⟩ := (eok _).1 hok
    dsimp only at k1 k2 k3 k4 k5 k6
    rw [k3, lv_lim] at hev
    have rd := (v2_round (k := k) (j := i.toNat) (by omega) k4 k5).1 hev.2
    have vl := vlt z
    rw [if_neg (by decide), k3, lv_lim, show (2 : Nat) ^ (1 : Int).toNat = 2 from rfl, half_pow] at hL
    have e3 : (i + 1).toNat = i.toNat + 1 := by omega
    refine ⟨by rw [em, em]; show ((4000000 : Int) - (i + 1)).toNat < ((4000000 : Int) - i).toNat; omega, (eok _).2 ⟨by show 0 ≤ i + 1; omega, by show e' + 1 = e + (i + 1); omega, ?_, ?_, ?_, ?_⟩⟩
    · show L' = lim (k / 2 ^ (i + 1).toNat); rw [e3, hL]
    · show v2 k = (i + 1).toNat + v2 (k / 2 ^ (i + 1).toNat); rw [e3]; exact rd.1
    · show 0 < k / 2 ^ (i + 1).toNat; rw [e3]; exact rd.2
    · show L'.length < _; rw [hL]; exact limlen _
  have inv : ∀ i e' L, k ≠ 0 → ok (i, e', L) → 0 ≤ i ∧ i < 4000000 ∧ e' = e + i ∧ Lb L ∧ L.length < 67108864 := by
    intro i e' L z hok
    obtain ⟨k1, k2, k3, k4, k5, k6⟩ := (eok _).1 hok
    dsimp only at k1 k2 k3 k4 k5 k6
    have vl := vlt z
    exact ⟨k1, by omega, k2, by rw [k3]; exact lim_lb _, k6⟩
  have odd : ∀ i e' L, k ≠ 0 → ok (i, e', L) → ¬ (0 < L.length ∧ lv L % 2 = 0) → (v2 k : Int) = i ∧ L = lim (k / 2 ^ v2 k) := by
    intro i e' L z hok hev
    obtain ⟨k1, k2, k3, k4, k5, k6⟩ := (eok _).1 hok
    dsimp only at k1 k2 k3 k4 k5 k6
    have od : k / 2 ^ i.toNat % 2 ≠ 0 := by
      intro q; apply hev
      rw [k3, lv_lim]
      exact ⟨(lim_len_pos _).2 (by omega), q⟩
    have rd := (v2_round (k := k) (j := i.toNat) (by omega) k4 k5).2 od
    exact ⟨by omega, by rw [k3, rd]⟩
  have wr : ∀ i e' : Int, 0 ≤ i → i < 4000000 → e' = e + i → ¬ (k = 0 ∨ e < -4194304 ∨ 4194304 < e) → IntKind.i64.wrap (i + 1) = i + 1 ∧ IntKind.i64.wrap (e' + 1) = e' + 1 := by
    intro i e' a1 a2 a3 a4
    rw [wi64, wi64]; omega
  refine callsA_of hG hm Tryz.func133 (by kernel_rfl) ?_
  intro E hE lp hl'
  cbv
  (first | (apply E_callX hE (c_r2Make _ _ h (by omega)); (case hf => rfl); (case hc => (cbv <;> trivial)); (case hle => exact ⟨u2_bool, u2_sli, trivial⟩); intro x hx'; cbv))
  have X := hx x hx'
  refine E_br hE (fun g1 => ?_) (fun g1 => ?_) <;> cbv
  · rw [bad (.inl (X.2.1.1 (by subst hE; have q : (x.2.length : Int) = 0 := eql_t g1; omega)))]; exact ⟨rfl, rfl, rfl, trivial⟩
  refine E_br hE (fun g2 => ?_) (fun g2 => ?_) <;> cbv
  · rw [bad (.inr (.inl (by subst hE; exact lss_t g2)))]; exact ⟨rfl, rfl, rfl, trivial⟩
  refine E_br hE (fun g3 => ?_) (fun g3 => ?_) <;> cbv
  · rw [bad (.inr (.inr (by subst hE; exact gtr_t g3)))]; exact ⟨rfl, rfl, rfl, trivial⟩
  have ok0 : ¬ (k = 0 ∨ e < -4194304 ∨ 4194304 < e) := by
    subst hE
    have q1 : ¬ (x.2.length : Int) = 0 := eql_f g1
    have q2 := lss_f g2
    have q3 := gtr_f g3
    have q4 := X.2.1
    omega
  have kz : k ≠ 0 := fun z => by subst hE; have q : ¬ (x.2.length : Int) = 0 := eql_f g1; exact q (by have := X.2.1.2 z; omega)
  refine E_loop hE hG hm hl' (fun p : Int × Int × List Int => (⟨[(1, .int .i64 (.s p.2.1)), (4, .ptr 1 3 (.l 0) 0), (5, .ptr 2 2 (.l 0) 0), (6, .int .i64 (.s p.1))],
    [.rows true 2 [.bool (.l false), .s0] [[.bool (.s neg), .sli .u32 m]], .rows true 3 [.bool (.l false), .s0, .int .i64 (.l 0)] [[.bool (.l false), .s0, .int .i64 (.l 0)]], .rows true 2 [.bool (.l false), .s0] [[.bool (.s x.1), .sli .u32 p.2.2]]]⟩ : St)) ms ok ⟨(0, e, x.2), start kz x.2 X.1, stLe rfl ?_⟩ ?_
  · (repeat' (first | exact t_nil | apply t_cons | exact u2_sli | exact u2_int | exact u2_bool | exact u2_ms | exact u2_ptr | exact (rfl : sle2 .s0 .s0)))
  rintro ⟨i, e', L⟩ hok
  have iv := inv i e' L kz hok
  have nx := nextE i e' L kz hok
  have od := odd i e' L kz hok
  clear nextE inv odd start eok hok
  cbv
  refine E_br hE (fun gi => ?_) (fun gi => ?_) <;> cbv
  · (apply E_callX hE (c_r3even L iv.2.2.2.1); (case hf => rfl); (case hc => (cbv <;> trivial)); (case hle => exact ⟨u2_sli, trivial⟩); intro o ho; cbv)
    refine E_br hE (fun go => ?_) (fun go => ?_) <;> cbv
    · have q : o = false := by subst hE; have z : (!o) = true := go; simpa using z
      have od' := od (of_decide_eq_false (ho.symm.trans q))
      refine E_br hE (fun gb => ?_) (fun gb => ?_) <;> cbv
      · rw [big ok0 (by rw [od'.1, ← iv.2.2.1]; subst hE; exact gtr_t gb)]; exact ⟨rfl, rfl, rfl, trivial⟩
      · rw [fine ok0 (by rw [od'.1, ← iv.2.2.1]; subst hE; exact gtr_f gb)]
        exact ⟨X.2.2 kz, od'.2, by rw [od'.1]; exact iv.2.2.1, trivial⟩
    · have q : o = true := by subst hE; have z : (!o) = false := go; simpa using z
      (apply E_pcallX hE (c_rShr L 1 iv.2.2.2.1 iv.2.2.2.2 (by decide)); (case hm => rfl); (case hle => exact ⟨u2_sli, u2_int, trivial⟩); intro L' hL'; cbv)
      refine E_nm hE (fun e2 he2 => ?_)
      cbv
      refine E_nm hE (fun i2 hi2 => ?_)
      cbv
      refine ⟨(i2, e2, L'), ?_, ?_, stLe rfl ?_⟩
      rotate_right
      · (repeat' (first | exact t_nil | apply t_cons | exact u2_sli | exact u2_int | exact u2_bool | exact u2_ms | exact u2_ptr | exact (rfl : sle2 .s0 .s0)))
      all_goals (have g := nx (of_decide_eq_true (ho.symm.trans q)) L' hL'; have wv := wr i e' iv.1 iv.2.1 iv.2.2.1 ok0; have z1 : e2 = e' + 1 := (by subst hE; exact Eq.trans (b := IntKind.i64.wrap (e' + 1)) he2 wv.2); have z2 : i2 = i + 1 := (by subst hE; exact Eq.trans (b := IntKind.i64.wrap (i + 1)) hi2 wv.1); subst z1; subst z2; first | exact g.1 | exact g.2)
  · exfalso; subst hE; exact lss_f gi iv.2.1

end Go.Proofs.YtpadpcjdakfokaaGreatDoor.Ev

/- The product of two numbers: plain Lean. -/
namespace Go.Proofs.YtpadpcjdakfokaaGreatDoor.Ev
open Go

/-- of a word -/
def Num.ok (n : Num) : Prop := 0 ≤ n.m ∧ n.m < 18446744073709551616

theorem Num.zero_ok : Num.zero.ok := by unfold Num.ok Num.zero; decide
theorem Num.inf_ok (b : Bool) : (Num.inf b).ok := ⟨by simp [Num.inf], by simp [Num.inf]⟩
theorem Num.fair_ok {n : Num} (h : n.ok) : n.fair.ok := by
  unfold Num.fair; split
  · exact h
  · exact Num.zero_ok

/-- what may be: nought, finite, infinite -/
theorem Num.may_cases {n : Num} (h : n.may = true) : n = Num.zero ∨ (n.kind = 1 ∧ 9223372036854775808 ≤ n.m ∧ -1048576 ≤ n.e ∧ n.e ≤ 1048576) ∨ (n = Num.inf n.neg) := by
  unfold Num.may at h
  split at h
  · exact .inl (by simpa using h)
  · split at h
    · rename_i h1
      simp only [Bool.and_eq_true, decide_eq_true_eq] at h
      exact .inr (.inl ⟨h1, h.1.1, h.1.2, h.2⟩)
    · split at h
      · rename_i h1
        simp only [Bool.and_eq_true, decide_eq_true_eq] at h
        exact .inr (.inr (by rw [Num.eq_iff]; simp [Num.inf, h1, h.1, h.2]))
      · cases h

theorem Num.fair_may (n : Num) : n.fair.may = true := by
  unfold Num.fair; split
  · assumption
  · decide
theorem Num.fair_of_may {n : Num} (h : n.may = true) : n.fair = n := by unfold Num.fair; rw [if_pos h]
theorem Num.fair_fair (n : Num) : n.fair.fair = n.fair := Num.fair_of_may n.fair_may

/-- the product, of finite ones -/
def Num.mulF (a b : Num) (up : Bool) : Num :=
  if a.m * b.m < 170141183460469231731687303715884105728 then Num.grow (a.neg != b.neg) (a.m * b.m / 9223372036854775808) (a.e + b.e + 63) (decide (a.m * b.m % 9223372036854775808 ≠ 0)) (up != (a.neg != b.neg))
  else Num.grow (a.neg != b.neg) (a.m * b.m / 18446744073709551616) (a.e + b.e + 64) (decide (a.m * b.m % 18446744073709551616 ≠ 0)) (up != (a.neg != b.neg))

def Num.mul (a b : Num) (up : Bool) : Num :=
  if a.fair.kind = 0 ∨ b.fair.kind = 0 then Num.zero else if a.fair.kind = 2 ∨ b.fair.kind = 2 then Num.inf (a.fair.neg != b.fair.neg) else Num.mulF a.fair b.fair up

theorem Num.fin_of {n : Num} (h0 : n.fair.kind ≠ 0) (h2 : n.fair.kind ≠ 2) : n.fair.kind = 1 ∧ 9223372036854775808 ≤ n.fair.m ∧ -1048576 ≤ n.fair.e ∧ n.fair.e ≤ 1048576 := by
  rcases Num.may_cases n.fair_may with h | h | h
  · rw [h] at h0; exact absurd rfl h0
  · exact h
  · rw [h] at h2; exact absurd rfl h2

theorem Num.fin {t r : Num} (h : t = r) : t.kind = r.kind ∧ t.neg = r.neg ∧ t.m = r.m ∧ t.e = r.e ∧ True := by
  subst h; exact ⟨rfl, rfl, rfl, rfl, trivial⟩

end Go.Proofs.YtpadpcjdakfokaaGreatDoor.Ev

/- Contracts of the reference: numbers. Printed by gen.py out of R12.spec. -/
namespace Go.Proofs.YtpadpcjdakfokaaGreatDoor.Ev
open Go Go.Proofs
set_option linter.unusedVariables false
set_option linter.unusedSimpArgs false
theorem c_rMay (n : Num)  : ∃ t : Bool, t = n.may ∧ CallsA Tryz.prog 111 [n.av] (.bool (.s t)) := by
  refine ⟨_, rfl, ?_⟩
  generalize hr : n.may = r
  refine callsA_of hG hm Tryz.func111 (by kernel_rfl) ?_
  intro E hE lp hl
  cbv
  repeat' (first
    | (refine E_br hE (fun h => ?_) (fun h => ?_) <;> cbv)
    | (refine E_nm hE (fun v hv => ?_); cbv)
    | fail)
  all_goals (subst hE; subst hr)
  all_goals (try simp only [realE, cmp_eql, cmp_neq, cmp_lss, cmp_leq, cmp_gtr, cmp_geq, intBinR, decide_eq_true_eq, decide_eq_false_iff_not, SI.val, SB.val, Num.eta, Iv.eta] at *)
  all_goals (simp only [Num.may, Num.zero, Num.top, Num.eq_iff])
  all_goals (try simp_all)
  all_goals (try (intros; omega))
  all_goals (try (simp only [decide_eq_true_eq]; intros; omega))

theorem c_rFair (n : Num)  : ∃ t : Num, t = n.fair ∧ CallsA Tryz.prog 135 [n.av] (t.av) := by
  refine ⟨_, rfl, ?_⟩
  generalize hr : n.fair = r
  refine callsA_of hG hm Tryz.func135 (by kernel_rfl) ?_
  intro E hE lp hl
  cbv
  repeat' (first
    | (refine E_br hE (fun h => ?_) (fun h => ?_) <;> cbv)
    | (refine E_nm hE (fun v hv => ?_); cbv)
    | (apply E_callX hE (c_rMay ⟨_, _, _, _⟩); (case hf => rfl); (case hc => (cbv <;> trivial)); (case hle => exact u_up); intro t ht; cbv)
    | fail)
  all_goals (subst hE; subst hr)
  all_goals (try simp only [realE, cmp_eql, cmp_neq, cmp_lss, cmp_leq, cmp_gtr, cmp_geq, intBinR, decide_eq_true_eq, decide_eq_false_iff_not, SI.val, SB.val, Num.eta, Iv.eta] at *)
  all_goals (try simp_all [Num.fair, Num.zero])
  all_goals (try omega)
  all_goals (try simp only [Bool.and_assoc])
  all_goals (try rfl)
  all_goals ((repeat' split) <;> (try simp_all) <;> (try omega))

theorem c_rInf (b : Bool)  : ∃ t : Num, t = Num.inf b ∧ CallsA Tryz.prog 180 [.bool (.s b)] (t.av) := by
  refine ⟨_, rfl, ?_⟩
  generalize hr : Num.inf b = r
  refine callsA_of hG hm Tryz.func180 (by kernel_rfl) ?_
  intro E hE lp hl
  cbv
  repeat' (first
    | (refine E_br hE (fun h => ?_) (fun h => ?_) <;> cbv)
    | (refine E_nm hE (fun v hv => ?_); cbv)
    | fail)
  all_goals (subst hE; subst hr)
  all_goals (try simp only [realE, cmp_eql, cmp_neq, cmp_lss, cmp_leq, cmp_gtr, cmp_geq, intBinR, decide_eq_true_eq, decide_eq_false_iff_not, SI.val, SB.val, Num.eta, Iv.eta] at *)
  all_goals (try simp_all [Num.inf])
  all_goals (try omega)
  all_goals (try simp only [Bool.and_assoc])
  all_goals (try rfl)
  all_goals ((repeat' split) <;> (try simp_all) <;> (try omega))

theorem c_rFin (neg : Bool) (m : Int) (e : Int) (away : Bool)  : ∃ t : Num, t = Num.bound neg m e away ∧ CallsA Tryz.prog 197 [.bool (.s neg), .int .u64 (.s m), .int .i64 (.s e), .bool (.s away)] (t.av) := by
  refine ⟨_, rfl, ?_⟩
  generalize hr : Num.bound neg m e away = r
  refine callsA_of hG hm Tryz.func197 (by kernel_rfl) ?_
  intro E hE lp hl
  cbv
  repeat' (first
    | (refine E_br hE (fun h => ?_) (fun h => ?_) <;> cbv)
    | (refine E_nm hE (fun v hv => ?_); cbv)
    | (apply E_callX hE (c_rInf _); (case hf => rfl); (case hc => (cbv <;> trivial)); (case hle => exact u_up); intro t ht; cbv)
    | fail)
  all_goals (subst hE; subst hr)
  all_goals (try simp only [realE, cmp_eql, cmp_neq, cmp_lss, cmp_leq, cmp_gtr, cmp_geq, intBinR, decide_eq_true_eq, decide_eq_false_iff_not, SI.val, SB.val, Num.eta, Iv.eta] at *)
  all_goals (try simp_all [Num.bound, Num.zero, Num.inf, Num.huge, Num.tiny, Num.top])
  all_goals (try omega)
  all_goals (try simp only [Bool.and_assoc])
  all_goals (try rfl)
  all_goals ((repeat' split) <;> (try simp_all) <;> (try omega))

theorem c_rSign (n : Num)  : ∃ t : Int, t = n.sign ∧ CallsA Tryz.prog 106 [n.av] (.int .i64 (.s t)) := by
  refine ⟨_, rfl, ?_⟩
  generalize hr : n.sign = r
  refine callsA_of hG hm Tryz.func106 (by kernel_rfl) ?_
  intro E hE lp hl
  cbv
  repeat' (first
    | (refine E_br hE (fun h => ?_) (fun h => ?_) <;> cbv)
    | (refine E_nm hE (fun v hv => ?_); cbv)
    | (apply E_callX hE (c_rFair ⟨_, _, _, _⟩); (case hf => rfl); (case hc => (cbv <;> trivial)); (case hle => exact u_up); intro t ht; cbv)
    | fail)
  all_goals (subst hE; subst hr)
  all_goals (try simp only [realE, cmp_eql, cmp_neq, cmp_lss, cmp_leq, cmp_gtr, cmp_geq, intBinR, decide_eq_true_eq, decide_eq_false_iff_not, SI.val, SB.val, Num.eta, Iv.eta] at *)
  all_goals (try simp_all [Num.sign])
  all_goals (try omega)
  all_goals (try simp only [Bool.and_assoc])
  all_goals (try rfl)
  all_goals ((repeat' split) <;> (try simp_all) <;> (try omega))

theorem c_r6Fair (n : Num)  : ∃ t : Num, t = n.fair ∧ CallsA Tryz.prog 56 [n.av] (t.av) := by
  refine ⟨_, rfl, ?_⟩
  generalize hr : n.fair = r
  refine callsA_of hG hm Tryz.func56 (by kernel_rfl) ?_
  intro E hE lp hl
  cbv
  repeat' (first
    | (refine E_br hE (fun h => ?_) (fun h => ?_) <;> cbv)
    | (refine E_nm hE (fun v hv => ?_); cbv)
    | (apply E_callX hE (c_rMay ⟨_, _, _, _⟩); (case hf => rfl); (case hc => (cbv <;> trivial)); (case hle => exact u_up); intro t ht; cbv)
    | fail)
  all_goals (subst hE; subst hr)
  all_goals (try simp only [realE, cmp_eql, cmp_neq, cmp_lss, cmp_leq, cmp_gtr, cmp_geq, intBinR, decide_eq_true_eq, decide_eq_false_iff_not, SI.val, SB.val, Num.eta, Iv.eta] at *)
  all_goals (try simp_all [Num.fair, Num.zero])
  all_goals (try omega)
  all_goals (try simp only [Bool.and_assoc])
  all_goals (try rfl)
  all_goals ((repeat' split) <;> (try simp_all) <;> (try omega))

end Go.Proofs.YtpadpcjdakfokaaGreatDoor.Ev

/- Contracts of the reference: limbs, a word, exact numbers. Printed by gen.py. -/
namespace Go.Proofs.YtpadpcjdakfokaaGreatDoor.Ev
open Go Go.Proofs
set_option linter.unusedVariables false
set_option linter.unusedSimpArgs false

attribute [local irreducible] Lb
theorem c_rLimbs (m : Int) (h0 : 0 ≤ m) (h1 : m < 18446744073709551616) : ∃ t : List Int, t = [m % 4294967296, m / 4294967296] ∧ CallsA Tryz.prog 134 [.int .u64 (.s m)] (.sli .u32 t) := by
  refine ⟨_, rfl, ?_⟩
  generalize hr : [m % 4294967296, m / 4294967296] = r
  have w1 : IntKind.u32.wrap (intBinR .rem .u64 m 4294967296) = m % 4294967296 := by rw [rem_u64 h0, wu32]; omega
  have w2 : IntKind.u32.wrap (intBinR .quo .u64 m 4294967296) = m / 4294967296 := by rw [quo_u64 h0 h1, wu32]; omega
  refine callsA_of hG hm Tryz.func134 (by kernel_rfl) ?_
  intro E hE lp hl'
  cbv
  repeat' (first
    | (refine E_br hE (fun h => ?_) (fun h => ?_) <;> cbv)
    | (refine E_nm hE (fun v hv => ?_); cbv)
    | (refine E_nilS hE (fun b hb => ?_); cbv)
    | fail)
  subst hE
  rw [← hr, ← w1, ← w2]
  rfl
theorem word_step {x : Nat} {y : Int} (hx : x < 4294967296) (hy : 0 ≤ y ∧ y < 4294967296) : IntKind.u64.wrap (IntKind.u64.wrap ((x : Int) * 4294967296) + IntKind.u64.wrap y) = ((y.toNat + 4294967296 * x : Nat) : Int) := by
  rw [wu64, wu64, wu64]; omega
theorem c_rWord (m : List Int) (h : Lb m) (hl : m.length ≤ 2) : ∃ t : Int, t = (lv m : Int) ∧ CallsA Tryz.prog 198 [.sli .u32 m] (.int .u64 (.s t)) := by
  refine ⟨_, rfl, ?_⟩
  generalize hr : (lv m : Int) = r
  obtain ⟨ms, em⟩ : ∃ ms : Int × Int → Nat, ∀ p, ms p = (p.1 + 1).toNat := ⟨_, fun _ => rfl⟩
  obtain ⟨ok, eok⟩ : ∃ ok : Int × Int → Prop, ∀ p, ok p ↔ (-1 ≤ p.1 ∧ p.1 < m.length ∧ p.2 = (lv (m.drop (p.1 + 1).toNat) : Int)) := ⟨_, fun _ => Iff.rfl⟩
  have start : ∀ i, i = IntKind.i64.wrap ((m.length : Int) - 1) → ok (i, 0) := by
    intro i hi
    have e : i = m.length - 1 := by rw [hi, wi64]; omega
    refine (eok _).2 ⟨by show -1 ≤ i; omega, by show i < _; omega, ?_⟩
    show 0 = (lv (m.drop (i + 1).toNat) : Int)
    rw [show (i + 1).toNat = m.length by omega, List.drop_length]; rfl
  have next : ∀ i n, ok (i, n) → 0 ≤ i → ∀ n', n' = IntKind.u64.wrap (IntKind.u64.wrap (n * 4294967296) + IntKind.u64.wrap (m.getD i.toNat 0)) → ms (IntKind.i64.wrap (i - 1), n') < ms (i, n) ∧ ok (IntKind.i64.wrap (i - 1), n') := by
    intro i n hok hi n' hn'
    obtain ⟨k1, k2, k3⟩ := (eok _).1 hok
    dsimp only at k1 k2 k3
    have g := h.getD i.toNat
    have small : lv (m.drop (i + 1).toNat) < 4294967296 := by
      have l := lv_lt (h.drop (i + 1).toNat)
      have : (m.drop (i + 1).toNat).length ≤ 1 := by rw [List.length_drop]; omega
      have p : (4294967296 : Nat) ^ (m.drop (i + 1).toNat).length ≤ 4294967296 ^ 1 := Nat.pow_le_pow_right (by decide) this
      omega
    rw [k3, word_step small g] at hn'
    have e : IntKind.i64.wrap (i - 1) = i - 1 := by rw [wi64]; omega
    rw [e]
    refine ⟨by rw [em, em]; show (i - 1 + 1).toNat < (i + 1).toNat; omega, (eok _).2 ⟨by show -1 ≤ i - 1; omega, by show i - 1 < _; omega, ?_⟩⟩
    show n' = (lv (m.drop (i - 1 + 1).toNat) : Int)
    rw [hn', show (i - 1 + 1).toNat = i.toNat by omega, lv_drop_step m i.toNat, show (i + 1).toNat = i.toNat + 1 by omega]
  have stop : ∀ i n, ok (i, n) → ¬ 0 ≤ i → n = r := by
    intro i n hok hi
    obtain ⟨k1, k2, k3⟩ := (eok _).1 hok
    dsimp only at k1 k2 k3
    rw [k3, show (i + 1).toNat = 0 by omega, List.drop_zero, hr]
  have bnd : ∀ i n, ok (i, n) → i < m.length := by
    intro i n hok
    exact ((eok _).1 hok).2.1
  refine callsA_of hG hm Tryz.func198 (by kernel_rfl) ?_
  intro E hE lp hl'
  cbv
  refine E_nm hE (fun i0 hi0 => ?_)
  cbv
  refine E_loop hE hG hm hl' (fun p : Int × Int => (⟨[(0, .sli .u32 m), (3, .int .u64 (.s p.2)), (4, .int .i64 (.s p.1))], []⟩ : St)) ms ok ⟨(i0, 0), (by subst hE; exact start i0 hi0), stLe rfl ?_⟩ ?_
  · (repeat' (first | exact t_nil | apply t_cons | exact u2_sli | exact u2_int | exact u2_bool | exact u2_ms | exact u2_ptr | exact (rfl : sle2 .s0 .s0)))
  rintro ⟨i, n⟩ hok
  have nx := next i n hok
  have sp := stop i n hok
  have bd := bnd i n hok
  clear next stop bnd start hok
  cbv
  refine E_br hE (fun g1 => ?_) (fun g1 => ?_) <;> cbv
  · have i0' : 0 ≤ i := by subst hE; exact geq_t g1
    refine E_br hE (fun g2 => ?_) (fun g2 => ?_) <;> cbv
    · refine E_br hE (fun g3 => ?_) (fun g3 => ?_) <;> cbv
      · refine E_nm hE (fun n2 hn2 => ?_)
        cbv
        refine E_nm hE (fun i2 hi2 => ?_)
        cbv
        refine ⟨(i2, n2), ?_, ?_, stLe rfl ?_⟩
        rotate_right
        · (repeat' (first | exact t_nil | apply t_cons | exact u2_sli | exact u2_int | exact u2_bool | exact u2_ms | exact u2_ptr | exact (rfl : sle2 .s0 .s0)))
        all_goals (subst hE; have g := nx i0' n2 hn2; have z : i2 = IntKind.i64.wrap (i - 1) := hi2; subst z; first | exact g.1 | exact g.2)
      · exfalso; subst hE; exact lss_f g3 bd
    · exfalso; subst hE; exact leq_f g2 i0'
  · refine E_nm hE (fun z hz => ?_)
    cbv
    subst hE
    exact Eq.trans (b := n) hz (sp (geq_f g1))

end Go.Proofs.YtpadpcjdakfokaaGreatDoor.Ev

/- The reference's rounding, as a function of values: plain Lean. -/
namespace Go.Proofs.YtpadpcjdakfokaaGreatDoor.Ev
open Go

/-- an odd number times a power of two, rounded to 64 bits -/
def rnd (ng : Bool) (k : Nat) (e : Int) (up : Bool) : Num :=
  if k = 0 then Num.zero
  else if blen (k : Int) ≤ 64 then Num.bound ng ((k * 2 ^ (64 - blen (k : Int)).toNat : Nat) : Int) (e + blen (k : Int) - 64) (up != ng)
  else Num.grow ng ((k / 2 ^ (blen (k : Int) - 64).toNat : Nat) : Int) (e + blen (k : Int) - 64) true (up != ng)
theorem blen_rng {k : Nat} (h : 0 < k) : ∃ n : Nat, blen (k : Int) = n + 1 ∧ 2 ^ n ≤ k ∧ k < 2 ^ (n + 1) := by
  obtain ⟨n, h1, h2, h3⟩ := blen_pos (x := (k : Int)) (by omega)
  rw [pow2_cast] at h2 h3
  exact ⟨n, h1, by omega, by omega⟩
theorem blen_eq {k n : Nat} (h1 : 2 ^ n ≤ k) (h2 : k < 2 ^ (n + 1)) : blen (k : Int) = n + 1 := (blen_nat_iff n).2 ⟨h1, h2⟩
theorem len_two {k : Nat} (h : k < 18446744073709551616) : (lim k).length ≤ 2 := lim_length_le (by show k < 4294967296 ^ 2; omega)
/-- few bits: moved up to 64 -/
theorem rnd_few {k : Nat} (h0 : 0 < k) (h : blen (k : Int) ≤ 64) : k * 2 ^ (64 - blen (k : Int)).toNat < 18446744073709551616 := by
  obtain ⟨n, h1, h2, h3⟩ := blen_rng h0
  rw [h1] at h ⊢
  have e : (18446744073709551616 : Nat) = 2 ^ (n + 1) * 2 ^ (64 - ((n : Int) + 1)).toNat := by
    rw [← Nat.pow_add, show n + 1 + (64 - ((n : Int) + 1)).toNat = 64 by omega]
  rw [e]
  exact Nat.mul_lt_mul_of_pos_right h3 (Nat.pow_pos (by decide))
/-- many: cut down to 64 -/
theorem rnd_many {k : Nat} (h0 : 0 < k) (h : 64 < blen (k : Int)) : 9223372036854775808 ≤ k / 2 ^ (blen (k : Int) - 64).toNat ∧ k / 2 ^ (blen (k : Int) - 64).toNat < 18446744073709551616 := by
  obtain ⟨n, h1, h2, h3⟩ := blen_rng h0
  rw [h1] at h ⊢
  have p : 0 < 2 ^ ((n : Int) + 1 - 64).toNat := Nat.pow_pos (by decide)
  constructor
  · rw [Nat.le_div_iff_mul_le p]
    have e : (9223372036854775808 : Nat) * 2 ^ ((n : Int) + 1 - 64).toNat = 2 ^ n := by
      rw [show (9223372036854775808 : Nat) = 2 ^ 63 from rfl, ← Nat.pow_add, show 63 + ((n : Int) + 1 - 64).toNat = n by omega]
    omega
  · rw [Nat.div_lt_iff_lt_mul p]
    have e : (18446744073709551616 : Nat) * 2 ^ ((n : Int) + 1 - 64).toNat = 2 ^ (n + 1) := by
      rw [show (18446744073709551616 : Nat) = 2 ^ 64 from rfl, ← Nat.pow_add, show 64 + ((n : Int) + 1 - 64).toNat = n + 1 by omega]
    omega
/-- one more, where it has 65 bits -/
theorem top_more {t : Nat} (h1 : 9223372036854775808 ≤ t) (h2 : t < 18446744073709551616) : (64 < blen ((t + 1 : Nat) : Int) ↔ t = 18446744073709551615) ∧ (t = 18446744073709551615 → (t + 1) / 2 ^ (1 : Int).toNat = 9223372036854775808) := by
  refine ⟨?_, fun h => by subst h; rfl⟩
  constructor
  · intro h
    rcases Nat.lt_or_ge t 18446744073709551615 with k | k
    · have := blen_eq (k := t + 1) (n := 63) (by show 9223372036854775808 ≤ t + 1; omega) (by show t + 1 < 18446744073709551616; omega)
      omega
    · omega
  · intro h
    subst h
    rw [blen_eq (k := 18446744073709551615 + 1) (n := 64) (by decide) (by decide)]
    decide
/-! ### the reference's operations, by value -/
def dyL (p : Bool × Nat × Int) : Bool × List Int × Int := (p.1, lim p.2.1, p.2.2)
theorem dyMake_rng (neg : Bool) (k : Nat) (e : Int) : -4194304 ≤ (dyMake neg k e).2.2 ∧ (dyMake neg k e).2.2 ≤ 4194304 ∧ (dyMake neg k e).2.1 ≤ k := by
  unfold dyMake
  split
  · exact ⟨by show (-4194304 : Int) ≤ 0; decide, by show (0 : Int) ≤ 4194304; decide, Nat.zero_le _⟩
  · rename_i h
    split
    · exact ⟨by show (-4194304 : Int) ≤ 0; decide, by show (0 : Int) ≤ 4194304; decide, Nat.zero_le _⟩
    · exact ⟨by show -4194304 ≤ e + v2 k; omega, by show e + v2 k ≤ 4194304; omega, Nat.div_le_self _ _⟩
/-- an exact number, and whether there is one -/
def Num.exact (n : Num) : (Bool × Nat × Int) × Bool :=
  if n.may = false ∨ n.kind = 2 then ((false, 0, 0), false) else if n.kind = 0 then ((false, 0, 0), true) else (dyMake n.neg n.m.toNat n.e, true)
def dyNorm (p : Bool × Nat × Int) : Bool × Nat × Int := dyMake p.1 p.2.1 p.2.2
def dyRound (p : Bool × Nat × Int) (up : Bool) : Num := rnd (dyNorm p).1 (dyNorm p).2.1 (dyNorm p).2.2 up
end Go.Proofs.YtpadpcjdakfokaaGreatDoor.Ev

/- The least and the greatest of some numbers: plain Lean. -/
namespace Go.Proofs.YtpadpcjdakfokaaGreatDoor.Ev
open Go

theorem wi64_succ {i n : Int} (h0 : 0 ≤ i) (h1 : i < n) (h2 : n < 9223372036854775808) : IntKind.i64.wrap (i + 1) = i + 1 := by
  rw [wi64]; omega

def Num.lesser (o n : Num) : Num := if n.cmp o < 0 then n.fair else o
def Num.least (l : List Num) : Num := l.foldl Num.lesser (Num.inf false)
def Num.greater (o n : Num) : Num := if 0 < n.cmp o then n.fair else o
def Num.most (l : List Num) : Num := l.foldl Num.greater (Num.inf true)
end Go.Proofs.YtpadpcjdakfokaaGreatDoor.Ev

/- Is one of these intervals empty, or none at all? Plain Lean. -/
namespace Go.Proofs.YtpadpcjdakfokaaGreatDoor.Ev
open Go

def Iv.cells (x : Iv) : List AV := [.bool (.s x.empty), .int .i64 (.s x.lo.kind), .bool (.s x.lo.neg), .int .u64 (.s x.lo.m), .int .i64 (.s x.lo.e),
  .int .i64 (.s x.hi.kind), .bool (.s x.hi.neg), .int .u64 (.s x.hi.m), .int .i64 (.s x.hi.e)]
def Iv.bad (x : Iv) : Bool := x.empty || !x.may
def Iv.anyBad (l : List Iv) : Bool := l.any Iv.bad
end Go.Proofs.YtpadpcjdakfokaaGreatDoor.Ev

/- The value of a number, scaled to a whole number; the order; what rounding does: plain Lean. -/
namespace Go.Proofs.YtpadpcjdakfokaaGreatDoor.Ev
open Go

def pw (e : Int) : Int := 2 ^ (e + 8388608).toNat
theorem pw_pos (e : Int) : 0 < pw e := Int.pow_pos (by decide)
theorem pw_add {e f : Int} (h : -8388608 ≤ e) (h2 : 0 ≤ f) : pw (e + f) = pw e * 2 ^ f.toNat := by
  unfold pw; rw [show (e + f + 8388608).toNat = (e + 8388608).toNat + f.toNat by omega, Int.pow_add]
theorem pw_succ {e : Int} (h : -8388608 ≤ e) : pw (e + 1) = pw e * 2 := pw_add h (by decide)
theorem pw_64 {e : Int} (h : -8388608 ≤ e) : pw (e + 64) = pw e * 18446744073709551616 := pw_add h (by decide)
theorem pw_63 {e : Int} (h : -8388608 ≤ e) : pw (e + 63) = pw e * 9223372036854775808 := pw_add h (by decide)
theorem pw_mul {e f : Int} (h : -8388608 ≤ e) (h2 : -8388608 ≤ f) (h3 : -8388608 ≤ e + f) : pw e * pw f = pw 0 * pw (e + f) := by
  unfold pw; rw [← Int.pow_add, ← Int.pow_add, show (e + 8388608).toNat + (f + 8388608).toNat = ((0 : Int) + 8388608).toNat + (e + f + 8388608).toNat by omega]
theorem pw_mono {e f : Int} (h : -8388608 ≤ e) (h2 : e ≤ f) : pw e ≤ pw f := by
  have e1 := pw_add h (show 0 ≤ f - e by omega)
  rw [show e + (f - e) = f by omega] at e1
  rw [e1]
  have p := pw_pos e
  have q : (0 : Int) < 2 ^ (f - e).toNat := Int.pow_pos (by decide)
  have := Int.mul_le_mul_of_nonneg_left (show (1 : Int) ≤ 2 ^ (f - e).toNat by omega) (Int.le_of_lt p)
  omega
theorem pw_lt {e f : Int} (h : -8388608 ≤ e) (h2 : e < f) : pw e * 2 ≤ pw f := by
  rw [← pw_succ h]; exact pw_mono (by omega) (by omega)

def Num.W (n : Num) : Int := if n.kind = 0 then 0 else if n.kind = 1 then n.m * pw n.e else pw 1048640
def Num.val (n : Num) : Int := if n.neg then -n.W else n.W

/-- finite -/
structure Num.Fin (n : Num) : Prop where
  kind : n.kind = 1
  lo : 9223372036854775808 ≤ n.m
  hi : n.m < 18446744073709551616
  elo : -1048576 ≤ n.e
  ehi : n.e ≤ 1048576

theorem Num.may3 {n : Num} (h : n.may = true) (ho : n.ok) : n = Num.zero ∨ n.Fin ∨ n = Num.inf n.neg := by
  rcases Num.may_cases h with h | h | h
  · exact .inl h
  · exact .inr (.inl ⟨h.1, h.2.1, ho.2, h.2.2.1, h.2.2.2⟩)
  · exact .inr (.inr h)

theorem Num.Fin.may {n : Num} (h : n.Fin) : n.may = true := by
  unfold Num.may; rw [if_neg (by rw [h.kind]; decide), if_pos h.kind]
  simp [h.lo, h.elo, h.ehi]
theorem Num.Fin.ok {n : Num} (h : n.Fin) : n.ok := ⟨by have := h.lo; omega, h.hi⟩
theorem Num.Fin.W {n : Num} (h : n.Fin) : n.W = n.m * pw n.e := by
  unfold Num.W; rw [if_neg (by rw [h.kind]; decide), if_pos h.kind]

theorem Num.Fin.lt {n : Num} (h : n.Fin) : 0 < n.W ∧ n.W < pw 1048640 := by
  rw [h.W]
  have p := pw_pos n.e
  have l := h.lo
  have u := h.hi
  have e1 := pw_64 (e := n.e) (by have := h.elo; omega)
  have e2 := pw_mono (e := n.e + 64) (f := 1048640) (by have := h.elo; omega) (by have := h.ehi; omega)
  have e3 : n.m * pw n.e < 18446744073709551616 * pw n.e := Int.mul_lt_mul_of_pos_right u p
  have e4 : 0 < n.m * pw n.e := Int.mul_pos (by omega) p
  omega

theorem Num.zero_W : Num.zero.W = 0 := rfl
theorem Num.inf_W (b : Bool) : (Num.inf b).W = pw 1048640 := rfl
theorem Num.zero_may : Num.zero.may = true := by decide
theorem Num.inf_may (b : Bool) : (Num.inf b).may = true := by cases b <;> decide

/-- the greater exponent makes the greater number -/
theorem lex_lt {m e m' e' : Int} (h1 : 9223372036854775808 ≤ m') (h2 : m < 18446744073709551616) (he : -8388608 ≤ e) (h : e < e') : m * pw e < m' * pw e' := by
  have p := pw_pos e
  have e1 := pw_lt he h
  have e2 : m * pw e < 18446744073709551616 * pw e := Int.mul_lt_mul_of_pos_right h2 p
  have e3 : 9223372036854775808 * pw e' ≤ m' * pw e' := Int.mul_le_mul_of_nonneg_right h1 (by omega)
  omega

theorem Num.farther_iff {a b : Num} (ha : a.may = true) (hb : b.may = true) (oa : a.ok) (ob : b.ok) : a.farther b = true ↔ b.W < a.W := by
  rcases Num.may3 ha oa with h | h | h <;> rcases Num.may3 hb ob with k | k | k
  · rw [h, k]; simp [Num.farther]
  · rw [h]; have := k.lt; simp [Num.farther, k.kind, Num.zero, Num.W]; rw [← k.W]; omega
  · rw [h, k]; have := pw_pos 1048640; simp [Num.farther, Num.zero, Num.inf, Num.W]; omega
  · rw [k]; have := h.lt; simp [Num.farther, h.kind, Num.zero, Num.W]; rw [← h.W]; omega
  · unfold Num.farther
    rw [if_neg (by simp [h.kind, k.kind]), h.W, k.W]
    have := h.lo; have := h.hi; have := h.elo; have := h.ehi
    have := k.lo; have := k.hi; have := k.elo; have := k.ehi
    by_cases he : a.e = b.e
    · rw [if_neg (by simp [he]), he, decide_eq_true_eq]
      have p := pw_pos b.e
      exact (Int.mul_lt_mul_right p).symm
    · rw [if_pos he, decide_eq_true_eq]
      constructor
      · intro g; exact lex_lt h.lo k.hi (by omega) g
      · intro g
        rcases Int.lt_or_le b.e a.e with g' | g'
        · exact g'
        · have := lex_lt k.lo h.hi (by omega) (show a.e < b.e by omega)
          omega
  · rw [k]; have := h.lt; simp [Num.farther, h.kind, Num.inf, Num.W]; rw [← h.W]; omega
  · rw [h, k]; have := pw_pos 1048640; simp [Num.farther, Num.zero, Num.inf, Num.W]; omega
  · rw [h]; have := k.lt; simp [Num.farther, k.kind, Num.inf, Num.W]; rw [← k.W]; omega
  · rw [h, k]; simp [Num.farther, Num.inf, Num.W]

theorem Num.sign_of {n : Num} (h : n.may = true) (o : n.ok) : (n.sign = 0 ∧ n.val = 0 ∧ n.W = 0 ∧ n = Num.zero) ∨ (n.sign = 1 ∧ n.val = n.W ∧ 0 < n.W ∧ n.neg = false ∧ n.kind ≠ 0) ∨ (n.sign = -1 ∧ n.val = -n.W ∧ 0 < n.W ∧ n.neg = true ∧ n.kind ≠ 0) := by
  unfold Num.sign Num.val
  rw [Num.fair_of_may h]
  rcases Num.may3 h o with k | k | k
  · left; rw [k]; simp [Num.zero, Num.W]
  · right
    have := k.lt
    rw [if_neg (by rw [k.kind]; decide)]
    cases hn : n.neg
    · left; simp [k.kind]; omega
    · right; simp [k.kind]; omega
  · right
    have := pw_pos 1048640
    rw [k]
    cases hn : n.neg
    · left; simp [Num.inf, Num.W]; exact this
    · right; simp [Num.inf, Num.W]; exact this

theorem Num.cmp_spec {a b : Num} (oa : a.ok) (ob : b.ok) :
    (a.cmp b = -1 ∧ a.fair.val < b.fair.val) ∨ (a.cmp b = 0 ∧ a.fair.val = b.fair.val) ∨ (a.cmp b = 1 ∧ b.fair.val < a.fair.val) := by
  have ma := a.fair_may
  have mb := b.fair_may
  replace oa := Num.fair_ok oa
  replace ob := Num.fair_ok ob
  unfold Num.cmp
  generalize a.fair = A at *
  generalize b.fair = B at *
  have f1 := Num.farther_iff ma mb oa ob
  have f2 := Num.farther_iff mb ma ob oa
  have w0 : IntKind.i64.wrap (0 - 0) = 0 := by decide
  have w1 : IntKind.i64.wrap (0 - 1) = -1 := by decide
  have w2 : IntKind.i64.wrap (0 - -1) = 1 := by decide
  rcases Num.sign_of ma oa with h | h | h <;> rcases Num.sign_of mb ob with k | k | k <;> rw [h.1, k.1] <;> simp only [f1, f2, w0, w1, w2] <;> repeat' split <;> omega

theorem Num.cmp_le {a b : Num} (oa : a.ok) (ob : b.ok) : a.cmp b ≤ 0 ↔ a.fair.val ≤ b.fair.val := by
  rcases Num.cmp_spec oa ob with h | h | h <;> omega
theorem Num.cmp_lt {a b : Num} (oa : a.ok) (ob : b.ok) : a.cmp b < 0 ↔ a.fair.val < b.fair.val := by
  rcases Num.cmp_spec oa ob with h | h | h <;> omega
theorem Num.cmp_gt {a b : Num} (oa : a.ok) (ob : b.ok) : 0 < a.cmp b ↔ b.fair.val < a.fair.val := by
  rcases Num.cmp_spec oa ob with h | h | h <;> omega

theorem Num.val_inf (b : Bool) : (Num.inf b).val = if b then -pw 1048640 else pw 1048640 := rfl
theorem Num.val_zero : Num.zero.val = 0 := rfl
theorem Num.val_le {n : Num} (h : n.may = true) (o : n.ok) : -pw 1048640 ≤ n.val ∧ n.val ≤ pw 1048640 := by
  have p := pw_pos 1048640
  rcases Num.may3 h o with k | k | k
  · rw [k, Num.val_zero]; omega
  · have := k.lt; unfold Num.val; split <;> omega
  · rw [k, Num.val_inf]; split <;> omega

theorem Num.val_inj {a b : Num} (ha : a.may = true) (hb : b.may = true) (oa : a.ok) (ob : b.ok) (h : a.val = b.val) : a = b := by
  have f1 := Num.farther_iff ha hb oa ob
  have f2 := Num.farther_iff hb ha ob oa
  have key : a.neg = b.neg ∧ a.W = b.W := by
    rcases Num.sign_of ha oa with h | h | h <;> rcases Num.sign_of hb ob with k | k | k <;> first | (exfalso; omega) | (refine ⟨?_, by omega⟩; first | rw [h.2.2.2, k.2.2.2] | rw [h.2.2.2.1, k.2.2.2.1])
  rw [key.2] at f1 f2
  have g1 : a.farther b = false := by
    cases hh : a.farther b
    · rfl
    · have := f1.1 hh; omega
  have g2 : b.farther a = false := by
    cases hh : b.farther a
    · rfl
    · have := f2.1 hh; omega
  unfold Num.farther at g1 g2
  by_cases hk : a.kind = b.kind
  · rw [if_neg (by simp [hk])] at g1 g2
    by_cases he : a.e = b.e
    · rw [if_neg (by simp [he]), decide_eq_false_iff_not] at g1 g2
      exact (Num.eq_iff a b).2 ⟨hk, key.1, by omega, he⟩
    · rw [if_pos he, decide_eq_false_iff_not] at g1
      rw [if_pos (fun h => he h.symm), decide_eq_false_iff_not] at g2
      omega
  · rw [if_pos hk, decide_eq_false_iff_not] at g1
    rw [if_pos (fun h => hk h.symm), decide_eq_false_iff_not] at g2
    omega

theorem Num.ne_inf {n : Num} (h : n.may = true) (o : n.ok) : (n ≠ Num.inf false ↔ n.val < pw 1048640) ∧ (n ≠ Num.inf true ↔ -pw 1048640 < n.val) := by
  have b := Num.val_le h o
  constructor
  · constructor
    · intro g
      rcases Int.lt_or_le n.val (pw 1048640) with k | k
      · exact k
      · exact absurd (Num.val_inj h (Num.inf_may _) o (Num.inf_ok _) (by rw [Num.val_inf]; simp; omega)) g
    · rintro g rfl
      rw [Num.val_inf] at g; simp at g
  · constructor
    · intro g
      rcases Int.lt_or_le (-pw 1048640) n.val with k | k
      · exact k
      · exact absurd (Num.val_inj h (Num.inf_may _) o (Num.inf_ok _) (by rw [Num.val_inf]; simp; omega)) g
    · rintro g rfl
      rw [Num.val_inf] at g; simp at g

/-- finite, or nought: its value is no infinity's -/
theorem Num.fin_val {n : Num} (h : n.may = true) (o : n.ok) : n.kind ≠ 2 ↔ (-pw 1048640 < n.val ∧ n.val < pw 1048640) := by
  have p := pw_pos 1048640
  rcases Num.may3 h o with k | k | k
  · rw [k, Num.val_zero]; simp [Num.zero]; omega
  · have := k.lt; unfold Num.val; simp [k.kind]; split <;> omega
  · rw [k, Num.val_inf]; simp [Num.inf]; split <;> omega

/-! the opposite, and what is made of two ends -/
theorem Num.opp_may (n : Num) : n.opp.may = true := by
  have h := n.fair_may
  unfold Num.opp
  unfold Num.may at h ⊢
  dsimp only
  generalize n.fair = A at *
  split
  · rename_i h0; rw [if_pos h0] at h
    simp only [decide_eq_true_eq] at h ⊢
    rw [h]; rfl
  · rename_i h0; rw [if_neg h0] at h
    exact h
theorem Num.opp_ok {n : Num} (h : n.ok) : n.opp.ok := Num.fair_ok h
theorem Num.opp_opp (n : Num) : n.opp.opp = n.fair := by
  have e := Num.fair_of_may n.opp_may
  rw [Num.eq_iff]
  show n.opp.fair.kind = _ ∧ (decide (n.opp.fair.kind ≠ 0) && !n.opp.fair.neg) = _ ∧ n.opp.fair.m = _ ∧ n.opp.fair.e = _
  rw [e]
  refine ⟨rfl, ?_, rfl, rfl⟩
  show (decide (n.fair.kind ≠ 0) && !(decide (n.fair.kind ≠ 0) && !n.fair.neg)) = n.fair.neg
  rcases Num.may_cases n.fair_may with h | h | h
  · rw [h]; rfl
  · simp [h.1]
  · rw [h]; cases n.fair.neg <;> rfl
theorem Num.opp_val {n : Num} : n.opp.val = -n.fair.val := by
  unfold Num.opp Num.val
  dsimp only
  by_cases h : n.fair.kind = 0
  · have e : n.fair = Num.zero := by
      rcases Num.may_cases n.fair_may with k | k | k
      · exact k
      · omega
      · rw [k] at h; simp [Num.inf] at h
    rw [e]; rfl
  · have e : (decide (n.fair.kind ≠ 0) && !n.fair.neg) = !n.fair.neg := by simp [h]
    rw [e]
    have e2 : (Num.mk n.fair.kind (!n.fair.neg) n.fair.m n.fair.e).W = n.fair.W := rfl
    rw [e2]
    cases n.fair.neg <;> simp

/-- an interval that may be, and is not empty -/
structure Iv.Real (x : Iv) : Prop where
  some : x.empty = false
  lom : x.lo.may = true
  him : x.hi.may = true
  loo : x.lo.ok
  hio : x.hi.ok
  le : x.lo.val ≤ x.hi.val
  lt : x.lo.val < pw 1048640
  gt : -pw 1048640 < x.hi.val

theorem Iv.Real.may {x : Iv} (h : x.Real) : x.may = true := by
  unfold Iv.may
  rw [if_neg (by simp [h.some]), h.lom, h.him]
  have e1 := (Num.cmp_le h.loo h.hio).2 (by rw [Num.fair_of_may h.lom, Num.fair_of_may h.him]; exact h.le)
  have e2 := (Num.ne_inf h.lom h.loo).1.2 h.lt
  have e3 := (Num.ne_inf h.him h.hio).2.2 h.gt
  simp [e1, e2, e3]
theorem Iv.Real.fair {x : Iv} (h : x.Real) : x.fair = x := by unfold Iv.fair; rw [if_pos h.may]
theorem Iv.Real.good {x : Iv} (h : x.Real) : x.bad = false := by simp [Iv.bad, h.some, h.may]
theorem Iv.real_of {x : Iv} (h : x.may = true) (hs : x.empty = false) (o1 : x.lo.ok) (o2 : x.hi.ok) : x.Real := by
  unfold Iv.may at h
  rw [if_neg (by simp [hs])] at h
  simp only [Bool.and_eq_true, decide_eq_true_eq] at h
  obtain ⟨⟨⟨⟨h1, h2⟩, h3⟩, h4⟩, h5⟩ := h
  have e1 := (Num.cmp_le o1 o2).1 h3
  rw [Num.fair_of_may h1, Num.fair_of_may h2] at e1
  exact ⟨hs, h1, h2, o1, o2, e1, (Num.ne_inf h1 o1).1.1 h4, (Num.ne_inf h2 o2).2.1 h5⟩
theorem Iv.empty_may {x : Iv} (h : x.may = true) (hs : x.empty = true) : x = Iv.none := by
  unfold Iv.may at h
  rw [if_pos hs] at h
  simpa using h

theorem Iv.make_eq (lo hi : Num) : Iv.make lo hi = Iv.fair ⟨false, lo.fair, hi.fair⟩ := by unfold Iv.make; rw [Num.opp_opp, Num.opp_opp]
theorem Iv.make_real {lo hi : Num} (h : (Iv.mk false lo.fair hi.fair).Real) : Iv.make lo hi = ⟨false, lo.fair, hi.fair⟩ := by rw [Iv.make_eq, h.fair]
/-- what is made of two ends is none, or just these -/
theorem Iv.make_cases {lo hi : Num} (o1 : lo.ok) (o2 : hi.ok) : (Iv.make lo hi = Iv.none ∧ ¬ (Iv.mk false lo.fair hi.fair).Real) ∨ (Iv.make lo hi = ⟨false, lo.fair, hi.fair⟩ ∧ (Iv.mk false lo.fair hi.fair).Real) := by
  by_cases h : (Iv.mk false lo.fair hi.fair).Real
  · exact .inr ⟨Iv.make_real h, h⟩
  · refine .inl ⟨?_, h⟩
    rw [Iv.make_eq]
    unfold Iv.fair
    split
    · rename_i k
      exact absurd (Iv.real_of k rfl (Num.fair_ok o1) (Num.fair_ok o2)) h
    · rfl

/-! the least and the greatest -/
theorem Num.least_go (l : List Num) : ∀ (o : Num), o.may = true → o.ok → (∀ x ∈ l, x.ok) →
    (l.foldl Num.lesser o).may = true ∧ (l.foldl Num.lesser o).ok ∧ (l.foldl Num.lesser o).val ≤ o.val ∧ (∀ x ∈ l, (l.foldl Num.lesser o).val ≤ x.fair.val) ∧ (l.foldl Num.lesser o = o ∨ ∃ x ∈ l, l.foldl Num.lesser o = x.fair) := by
  induction l with
  | nil => intro o m k _; exact ⟨m, k, Int.le_refl _, by simp, .inl rfl⟩
  | cons a l ih =>
    intro o m k hl
    have ha := hl a (List.mem_cons_self ..)
    have hs := Num.cmp_lt ha k
    rw [Num.fair_of_may m] at hs
    have key : (Num.lesser o a).may = true ∧ (Num.lesser o a).ok ∧ (Num.lesser o a).val ≤ o.val ∧ (Num.lesser o a).val ≤ a.fair.val ∧ (Num.lesser o a = o ∨ Num.lesser o a = a.fair) := by
      unfold Num.lesser
      split
      · exact ⟨a.fair_may, Num.fair_ok ha, by omega, Int.le_refl _, .inr rfl⟩
      · exact ⟨m, k, Int.le_refl _, by omega, .inl rfl⟩
    obtain ⟨k1, k2, k3, k4, k5⟩ := key
    obtain ⟨i1, i2, i3, i4, i5⟩ := ih _ k1 k2 (fun x hx => hl x (List.mem_cons_of_mem _ hx))
    rw [List.foldl_cons]
    refine ⟨i1, i2, by omega, ?_, ?_⟩
    · intro x hx
      rcases List.mem_cons.1 hx with rfl | hx
      · omega
      · exact i4 x hx
    · rcases i5 with i5 | ⟨x, hx, i5⟩
      · rcases k5 with k5 | k5
        · exact .inl (by rw [i5, k5])
        · exact .inr ⟨a, List.mem_cons_self .., by rw [i5, k5]⟩
      · exact .inr ⟨x, List.mem_cons_of_mem _ hx, i5⟩
theorem Num.least_spec (l : List Num) (hl : ∀ x ∈ l, x.ok) : (Num.least l).may = true ∧ (Num.least l).ok ∧ (∀ x ∈ l, (Num.least l).val ≤ x.fair.val) ∧ (Num.least l = Num.inf false ∨ ∃ x ∈ l, Num.least l = x.fair) := by
  obtain ⟨h1, h2, _, h4, h5⟩ := Num.least_go l (Num.inf false) (Num.inf_may _) (Num.inf_ok _) hl
  exact ⟨h1, h2, h4, h5⟩
theorem Num.most_go (l : List Num) : ∀ (o : Num), o.may = true → o.ok → (∀ x ∈ l, x.ok) →
    (l.foldl Num.greater o).may = true ∧ (l.foldl Num.greater o).ok ∧ o.val ≤ (l.foldl Num.greater o).val ∧ (∀ x ∈ l, x.fair.val ≤ (l.foldl Num.greater o).val) ∧ (l.foldl Num.greater o = o ∨ ∃ x ∈ l, l.foldl Num.greater o = x.fair) := by
  induction l with
  | nil => intro o m k _; exact ⟨m, k, Int.le_refl _, by simp, .inl rfl⟩
  | cons a l ih =>
    intro o m k hl
    have ha := hl a (List.mem_cons_self ..)
    have hs := Num.cmp_gt ha k
    rw [Num.fair_of_may m] at hs
    have key : (Num.greater o a).may = true ∧ (Num.greater o a).ok ∧ o.val ≤ (Num.greater o a).val ∧ a.fair.val ≤ (Num.greater o a).val ∧ (Num.greater o a = o ∨ Num.greater o a = a.fair) := by
      unfold Num.greater
      split
      · exact ⟨a.fair_may, Num.fair_ok ha, by omega, Int.le_refl _, .inr rfl⟩
      · exact ⟨m, k, Int.le_refl _, by omega, .inl rfl⟩
    obtain ⟨k1, k2, k3, k4, k5⟩ := key
    obtain ⟨i1, i2, i3, i4, i5⟩ := ih _ k1 k2 (fun x hx => hl x (List.mem_cons_of_mem _ hx))
    rw [List.foldl_cons]
    refine ⟨i1, i2, by omega, ?_, ?_⟩
    · intro x hx
      rcases List.mem_cons.1 hx with rfl | hx
      · omega
      · exact i4 x hx
    · rcases i5 with i5 | ⟨x, hx, i5⟩
      · rcases k5 with k5 | k5
        · exact .inl (by rw [i5, k5])
        · exact .inr ⟨a, List.mem_cons_self .., by rw [i5, k5]⟩
      · exact .inr ⟨x, List.mem_cons_of_mem _ hx, i5⟩
theorem Num.most_spec (l : List Num) (hl : ∀ x ∈ l, x.ok) : (Num.most l).may = true ∧ (Num.most l).ok ∧ (∀ x ∈ l, x.fair.val ≤ (Num.most l).val) ∧ (Num.most l = Num.inf true ∨ ∃ x ∈ l, Num.most l = x.fair) := by
  obtain ⟨h1, h2, _, h4, h5⟩ := Num.most_go l (Num.inf true) (Num.inf_may _) (Num.inf_ok _) hl
  exact ⟨h1, h2, h4, h5⟩

/-! rounding -/
/-- r is a magnitude's q * 2^e, to nought or away -/
structure Rnd (r : Num) (neg away : Bool) (q q' e : Int) : Prop where
  may : r.may = true
  ok : r.ok
  neg : r.kind = 0 ∨ r.neg = neg
  down : away = false → r.kind ≠ 2 ∧ r.W ≤ q * pw e
  up : away = true → r.kind ≠ 0 ∧ (r.kind = 2 ∨ q' * pw e ≤ r.W)

theorem bound_rnd {neg away : Bool} {m e : Int} (hm : 9223372036854775808 ≤ m) (hm' : m < 18446744073709551616) (he : -4194304 ≤ e) (he' : e ≤ 4194304) :
    Rnd (Num.bound neg m e away) neg away m m e := by
  unfold Num.bound
  by_cases h1 : 1048576 < e
  · rw [if_pos h1]
    cases away
    · rw [if_neg (by decide)]
      refine ⟨by cases neg <;> decide, by constructor <;> simp [Num.huge], .inr rfl, fun _ => ⟨by simp [Num.huge], ?_⟩, by simp⟩
      show 18446744073709551615 * pw 1048576 ≤ _
      have := lex_lt (m := 18446744073709551615) hm (by decide) (by decide) h1
      omega
    · rw [if_pos rfl]
      exact ⟨Num.inf_may _, Num.inf_ok _, .inr rfl, by simp, fun _ => ⟨by simp [Num.inf], .inl rfl⟩⟩
  · rw [if_neg h1]
    by_cases h2 : e < -1048576
    · rw [if_pos h2]
      cases away
      · rw [if_neg (by decide)]
        refine ⟨Num.zero_may, Num.zero_ok, .inl rfl, fun _ => ⟨by simp [Num.zero], ?_⟩, by simp⟩
        rw [Num.zero_W]; exact Int.mul_nonneg (by omega) (Int.le_of_lt (pw_pos _))
      · rw [if_pos rfl]
        refine ⟨by cases neg <;> decide, by constructor <;> simp [Num.tiny, Num.top], .inr rfl, by simp, fun _ => ⟨by simp [Num.tiny], .inr ?_⟩⟩
        show _ ≤ 9223372036854775808 * pw (-1048576)
        have := lex_lt (m' := 9223372036854775808) (by decide) hm' (by omega) h2
        omega
    · rw [if_neg h2]
      have f : (Num.mk 1 neg m e).Fin := ⟨rfl, hm, hm', by show -1048576 ≤ e; omega, by show e ≤ 1048576; omega⟩
      exact ⟨f.may, f.ok, .inr rfl, fun _ => ⟨by simp, by rw [f.W]; exact Int.le_refl _⟩, fun _ => ⟨by simp, .inr (by rw [f.W]; exact Int.le_refl _)⟩⟩

theorem grow_rnd {neg cut away : Bool} {m e : Int} (hm : 9223372036854775808 ≤ m) (hm' : m < 18446744073709551616) (he : -4194303 ≤ e) (he' : e ≤ 4194303) :
    Rnd (Num.grow neg m e cut away) neg away m (if cut then m + 1 else m) e := by
  unfold Num.grow
  by_cases hc : (cut && away) = true
  · rw [if_pos hc]
    simp only [Bool.and_eq_true] at hc
    obtain ⟨h1, h2⟩ := hc
    subst h1; subst h2
    rw [if_pos rfl]
    by_cases h0 : IntKind.u64.wrap (m + 1) = 0
    · rw [if_pos h0]
      have em : m + 1 = 18446744073709551616 := by rw [wu64] at h0; omega
      have ee : IntKind.i64.wrap (e + 1) = e + 1 := by rw [wi64]; omega
      rw [ee, em]
      have b := bound_rnd (neg := neg) (away := true) (m := Num.top) (e := e + 1) (by decide) (by decide) (by omega) (by omega)
      have e2 : Num.top * pw (e + 1) = 18446744073709551616 * pw e := by
        rw [pw_succ (by omega)]; show 9223372036854775808 * (pw e * 2) = _; omega
      exact ⟨b.may, b.ok, b.neg, by simp, fun h => ⟨(b.up h).1, by rw [← e2]; exact (b.up h).2⟩⟩
    · rw [if_neg h0]
      have em : IntKind.u64.wrap (m + 1) = m + 1 := by rw [wu64] at h0 ⊢; omega
      have hlt : m + 1 < 18446744073709551616 := by rw [wu64] at h0; omega
      rw [em]
      have b := bound_rnd (neg := neg) (away := true) (m := m + 1) (e := e) (by omega) hlt (by omega) (by omega)
      exact ⟨b.may, b.ok, b.neg, by simp, b.up⟩
  · rw [if_neg hc]
    have b := bound_rnd (neg := neg) (away := away) hm hm' (e := e) (by omega) (by omega)
    refine ⟨b.may, b.ok, b.neg, b.down, ?_⟩
    intro ha
    subst ha
    simp only [Bool.and_true, Bool.not_eq_true] at hc
    rw [if_neg (by simp [hc])]
    exact b.up rfl

/-- what a rounded one's value is to the exact one, t / c -/
structure Side (r : Num) (up : Bool) (t c : Int) : Prop where
  may : r.may = true
  ok : r.ok
  down : up = false → r ≠ Num.inf false ∧ (r = Num.inf true ∨ r.val * c ≤ t)
  up : up = true → r ≠ Num.inf true ∧ (r = Num.inf false ∨ t ≤ r.val * c)

theorem Num.inf_of {r : Num} (h : r.may = true) (o : r.ok) (hk : r.kind = 2) : r = Num.inf r.neg := by
  rcases Num.may3 h o with k | k | k
  · rw [k] at hk; simp [Num.zero] at hk
  · have := k.kind; omega
  · exact k

theorem Rnd.side {r : Num} {neg up : Bool} {q q' e T c : Int} (R : Rnd r neg (up != neg) q q' e) (h1 : q * pw e * c ≤ T) (h2 : T ≤ q' * pw e * c) (hT : 0 ≤ T) (hc : 0 ≤ c) : Side r up (if neg then -T else T) c := by
  have hv : r.val * c = if r.neg then -(r.W * c) else r.W * c := by
    unfold Num.val; cases r.neg <;> simp [Int.neg_mul]
  have down : (up != neg) = false → r.kind ≠ 2 ∧ r.W * c ≤ T := fun h => ⟨(R.down h).1, Int.le_trans (Int.mul_le_mul_of_nonneg_right (R.down h).2 hc) h1⟩
  have upw : (up != neg) = true → r.kind ≠ 0 ∧ (r.kind = 2 ∨ T ≤ r.W * c) := by
    intro h
    refine ⟨(R.up h).1, ?_⟩
    rcases (R.up h).2 with k | k
    · exact .inl k
    · exact .inr (Int.le_trans h2 (Int.mul_le_mul_of_nonneg_right k hc))
  have w0 : r.kind = 0 → r.W = 0 := fun h => by unfold Num.W; rw [if_pos h]
  have n0 : ∀ b, r.kind ≠ 2 → r ≠ Num.inf b := fun b h g => h (by rw [g]; rfl)
  refine ⟨R.may, R.ok, ?_, ?_⟩
  · intro hu
    subst hu
    cases neg
    · obtain ⟨d1, d2⟩ := down rfl
      refine ⟨n0 _ d1, .inr ?_⟩
      rw [hv]
      rcases R.neg with h | h
      · rw [w0 h]; simp; exact hT
      · rw [h]; simpa using d2
    · obtain ⟨d1, d2⟩ := upw rfl
      have hn : r.neg = true := by rcases R.neg with h | h <;> simp_all
      refine ⟨fun g => by rw [g] at hn; simp [Num.inf] at hn, ?_⟩
      rcases d2 with d2 | d2
      · left; rw [Num.inf_of R.may R.ok d2, hn]
      · right; rw [hv, hn]; simp; exact d2
  · intro hu
    subst hu
    cases neg
    · obtain ⟨d1, d2⟩ := upw rfl
      have hn : r.neg = false := by rcases R.neg with h | h <;> simp_all
      refine ⟨fun g => by rw [g] at hn; simp [Num.inf] at hn, ?_⟩
      rcases d2 with d2 | d2
      · left; rw [Num.inf_of R.may R.ok d2, hn]
      · right; rw [hv, hn]; simpa using d2
    · obtain ⟨d1, d2⟩ := down rfl
      refine ⟨n0 _ d1, .inr ?_⟩
      rw [hv]
      rcases R.neg with h | h
      · rw [w0 h]; simp; exact hT
      · rw [h]; simpa using d2

theorem Num.Fin.val_mul {a b : Num} : a.val * b.val = if (a.neg != b.neg) then -(a.W * b.W) else a.W * b.W := by
  unfold Num.val
  cases a.neg <;> cases b.neg <;> simp [Int.neg_mul, Int.mul_neg]

/-- the product, rounded -/
theorem mulF_side {a b : Num} (ha : a.Fin) (hb : b.Fin) (up : Bool) : Side (Num.mulF a b up) up (a.val * b.val) (pw 0) := by
  rw [Num.Fin.val_mul]
  have := ha.lo; have := ha.hi; have := ha.elo; have := ha.ehi
  have := hb.lo; have := hb.hi; have := hb.elo; have := hb.ehi
  have m1 : 9223372036854775808 * 9223372036854775808 ≤ a.m * b.m := Int.mul_le_mul ha.lo hb.lo (by decide) (by omega)
  have m2 : a.m * b.m ≤ 18446744073709551615 * 18446744073709551615 := Int.mul_le_mul (by omega) (by omega) (by omega) (by decide)
  have eW : a.W * b.W = a.m * b.m * pw (a.e + b.e) * pw 0 := by
    rw [ha.W, hb.W]
    have e := pw_mul (e := a.e) (f := b.e) (by omega) (by omega) (by omega)
    have e1 : a.m * pw a.e * (b.m * pw b.e) = a.m * b.m * (pw a.e * pw b.e) := by grind
    rw [e1, e]; grind
  have p := pw_pos (a.e + b.e)
  have p0 := pw_pos 0
  have hT : 0 ≤ a.W * b.W := Int.mul_nonneg (Int.le_of_lt ha.lt.1) (Int.le_of_lt hb.lt.1)
  unfold Num.mulF
  rw [eW] at hT ⊢
  generalize a.m * b.m = p' at *
  split
  · rename_i h
    have R := grow_rnd (neg := a.neg != b.neg) (cut := decide (p' % 9223372036854775808 ≠ 0)) (away := up != (a.neg != b.neg)) (m := p' / 9223372036854775808) (e := a.e + b.e + 63) (by omega) (by omega) (by omega) (by omega)
    refine R.side ?_ ?_ hT (Int.le_of_lt p0)
    · refine Int.mul_le_mul_of_nonneg_right ?_ (Int.le_of_lt p0)
      rw [pw_63 (by omega)]
      have : p' / 9223372036854775808 * (pw (a.e + b.e) * 9223372036854775808) = p' / 9223372036854775808 * 9223372036854775808 * pw (a.e + b.e) := by grind
      rw [this]
      exact Int.mul_le_mul_of_nonneg_right (by omega) (by omega)
    · refine Int.mul_le_mul_of_nonneg_right ?_ (Int.le_of_lt p0)
      rw [pw_63 (by omega)]
      have : ∀ q : Int, q * (pw (a.e + b.e) * 9223372036854775808) = q * 9223372036854775808 * pw (a.e + b.e) := fun q => by grind
      rw [this]
      refine Int.mul_le_mul_of_nonneg_right ?_ (by omega)
      split
      · omega
      · rename_i h; simp only [decide_eq_true_eq] at h; omega
  · rename_i h
    have R := grow_rnd (neg := a.neg != b.neg) (cut := decide (p' % 18446744073709551616 ≠ 0)) (away := up != (a.neg != b.neg)) (m := p' / 18446744073709551616) (e := a.e + b.e + 64) (by omega) (by omega) (by omega) (by omega)
    refine R.side ?_ ?_ hT (Int.le_of_lt p0)
    · refine Int.mul_le_mul_of_nonneg_right ?_ (Int.le_of_lt p0)
      rw [pw_64 (by omega)]
      have : p' / 18446744073709551616 * (pw (a.e + b.e) * 18446744073709551616) = p' / 18446744073709551616 * 18446744073709551616 * pw (a.e + b.e) := by grind
      rw [this]
      exact Int.mul_le_mul_of_nonneg_right (by omega) (by omega)
    · refine Int.mul_le_mul_of_nonneg_right ?_ (Int.le_of_lt p0)
      rw [pw_64 (by omega)]
      have : ∀ q : Int, q * (pw (a.e + b.e) * 18446744073709551616) = q * 18446744073709551616 * pw (a.e + b.e) := fun q => by grind
      rw [this]
      refine Int.mul_le_mul_of_nonneg_right ?_ (by omega)
      split
      · omega
      · rename_i h; simp only [decide_eq_true_eq] at h; omega
end Go.Proofs.YtpadpcjdakfokaaGreatDoor.Ev

/- Contracts of the reference: exact numbers, and rounding. Printed by gen.py. -/
namespace Go.Proofs.YtpadpcjdakfokaaGreatDoor.Ev
open Go Go.Proofs
set_option linter.unusedVariables false
set_option linter.unusedSimpArgs false

attribute [local irreducible] Lb
theorem rlimbs_lb {m : Int} (h0 : 0 ≤ m) (h1 : m < 18446744073709551616) : Lb [m % 4294967296, m / 4294967296] :=
  Lb.cons (by omega) (by omega) (Lb.cons (by omega) (by omega) Lb.nil)
theorem rlimbs_lv {m : Int} (h0 : 0 ≤ m) : lv [m % 4294967296, m / 4294967296] = m.toNat := by
  simp only [lv]; omega
theorem k_r3Make (neg : Bool) (m : List Int) (e : Int) (h : Lb m) (hl : m.length ≤ 125000) (he : -9223372036854775808 ≤ e ∧ e < 9223372036854775808) : ∃ t : Bool × List Int × Int, t = dyL (dyMake neg (lv m) e) ∧
    CallsA Tryz.prog 133 [.agg [.bool (.s neg), .sli .u32 m], .int .i64 (.s e)] (.agg [.bool (.s t.1), .sli .u32 t.2.1, .int .i64 (.s t.2.2)]) := by
  obtain ⟨t, ht, hC⟩ := c_r3Make neg m e h hl he
  refine ⟨dyL t, by rw [ht], hC⟩
theorem lim_len_of {k : Nat} {m : List Int} (h : Lb m) (hk : k ≤ lv m) : (lim k).length ≤ m.length := lim_length_le (by have := lv_lt h; omega)

theorem c_rExact (n : Num) (ho : n.ok) : ∃ t : (Bool × List Int × Int) × Bool, t = (dyL n.exact.1, n.exact.2) ∧ CallsA Tryz.prog 57 [n.av] (.tup [.agg [.bool (.s t.1.1), .sli .u32 t.1.2.1, .int .i64 (.s t.1.2.2)], .bool (.s t.2)]) := by
  refine ⟨_, rfl, ?_⟩
  generalize hr : (dyL n.exact.1, n.exact.2) = r
  have bad : (n.may = false ∨ n.kind = 2) → r = ((false, [], 0), false) := by intro h; rw [← hr]; unfold Num.exact; rw [if_pos h]; rfl
  have zer : ¬ (n.may = false ∨ n.kind = 2) → n.kind = 0 → r = ((false, [], 0), true) := by intro h g; rw [← hr]; unfold Num.exact; rw [if_neg h, if_pos g]; rfl
  have fin : ¬ (n.may = false ∨ n.kind = 2) → n.kind ≠ 0 → r = (dyL (dyMake n.neg n.m.toNat n.e), true) ∧ n.m.toNat ≠ 0 ∧ -1048576 ≤ n.e ∧ n.e ≤ 1048576 := by
    intro h g
    have mm : n.may = true := by cases q : n.may; exact absurd (.inl q) h; rfl
    have F : n.Fin := by
      rcases Num.may3 mm ho with k | k | k
      · rw [k] at g; exact absurd rfl g
      · exact k
      · exfalso; apply h; right; rw [k]; rfl
    have := F.lo
    refine ⟨?_, by omega, F.elo, F.ehi⟩
    rw [← hr]; unfold Num.exact; rw [if_neg h, if_neg g]
  have lb := rlimbs_lb ho.1 ho.2
  have lvl := rlimbs_lv ho.1
  refine callsA_of hG hm Tryz.func57 (by kernel_rfl) ?_
  intro E hE lp hl'
  cbv
  (apply E_callX hE (c_rMay ⟨_, _, _, _⟩); (case hf => rfl); (case hc => (cbv <;> trivial)); (case hle => exact u_up); all_goals (first | (intro o ho_; cbv) | (assumption)))
  refine E_br hE (fun g1 => ?_) (fun g1 => ?_) <;> cbv
  · rw [bad (.inl (by subst hE; have z : (!o) = true := g1; rw [← show o = n.may from ho_]; simpa using z))]; exact ⟨⟨rfl, rfl, rfl, trivial⟩, rfl, trivial⟩
  have m1 : n.may = true := by subst hE; have z : (!o) = false := g1; rw [← show o = n.may from ho_]; simpa using z
  refine E_br hE (fun g2 => ?_) (fun g2 => ?_) <;> cbv
  · rw [bad (.inr (by subst hE; exact eql_t g2))]; exact ⟨⟨rfl, rfl, rfl, trivial⟩, rfl, trivial⟩
  have m2 : ¬ (n.may = false ∨ n.kind = 2) := by
    rintro (z | z)
    · rw [m1] at z; cases z
    · subst hE; exact eql_f g2 z
  refine E_br hE (fun g3 => ?_) (fun g3 => ?_) <;> cbv
  · rw [zer m2 (by subst hE; exact eql_t g3)]; exact ⟨⟨rfl, rfl, rfl, trivial⟩, rfl, trivial⟩
  have K := fin m2 (by subst hE; exact eql_f g3)
  (apply E_pcallX hE (c_rLimbs _ ho.1 ho.2); (case hm => rfl); (case hle => exact u_up); all_goals (first | (intro x hx; cbv) | (assumption)))
  have X : Lb x ∧ x.length ≤ 125000 ∧ lv x = n.m.toNat := by
    have hx' : x = [n.m % 4294967296, n.m / 4294967296] := hx
    rw [hx']; exact ⟨lb, by show 2 ≤ 125000; decide, lvl⟩
  (apply E_pcallX hE (c_r2Make _ _ X.1 ?_); (case hm => rfl); (case hle => exact u_up); all_goals (first | (intro w hw; cbv) | (exact Nat.le_trans X.2.1 (by decide))))
  have W : w.1 = n.neg ∧ Lb w.2 ∧ w.2.length ≤ 125000 ∧ lv w.2 = n.m.toNat := by
    have hw' : w = (n.neg && decide (lv x ≠ 0), lim (lv x)) := hw
    rw [hw', X.2.2]
    refine ⟨by simp [K.2.1], lim_lb _, ?_, lv_lim _⟩
    have q := lim_len_of X.1 (k := n.m.toNat) (by rw [X.2.2]; exact Nat.le_refl _)
    exact Nat.le_trans q X.2.1
  (apply E_pcallX hE (k_r3Make _ _ _ W.2.1 W.2.2.1 ?_); (case hm => rfl); (case hle => exact u_up); all_goals (first | (intro t ht; cbv) | (exact ⟨Int.le_trans (by decide) K.2.2.1, Int.lt_of_le_of_lt K.2.2.2 (by decide)⟩)))
  rw [K.1, ← W.1, ← W.2.2.2]
  rw [show t = dyL (dyMake w.1 (lv w.2) n.e) from ht]
  exact ⟨⟨rfl, rfl, rfl, trivial⟩, rfl, trivial⟩

end Go.Proofs.YtpadpcjdakfokaaGreatDoor.Ev

/- Contract of the reference: rounding. Printed by gen.py. -/
namespace Go.Proofs.YtpadpcjdakfokaaGreatDoor.Ev
open Go Go.Proofs
set_option linter.unusedVariables false
set_option linter.unusedSimpArgs false

attribute [local irreducible] Lb
theorem c_rRound (neg : Bool) (m : List Int) (e : Int) (up : Bool) (h : Lb m) (hl : m.length ≤ 62500) (he : -9223372036854775808 ≤ e ∧ e < 9223372036854775808) :
    ∃ t : Num, t = rnd (dyMake neg (lv m) e).1 (dyMake neg (lv m) e).2.1 (dyMake neg (lv m) e).2.2 up ∧
    CallsA Tryz.prog 136 [.agg [.bool (.s neg), .sli .u32 m, .int .i64 (.s e)], .bool (.s up)] t.av := by
  refine ⟨_, rfl, ?_⟩
  have rg := dyMake_rng neg (lv m) e
  have dl := fun k (hk : k ≤ lv m) => lim_len_of h hk
  generalize ed : dyMake neg (lv m) e = d at *
  generalize hr : rnd d.1 d.2.1 d.2.2 up = r
  obtain ⟨ng, k, e1⟩ := d
  dsimp only at rg hr
  have rg1 := rg.1
  have rg2 := rg.2.1
  have hk := dl k rg.2.2
  have lbk := lim_lb k
  have vk := lv_lim k
  have kb := lv_blen lbk
  rw [vk] at kb
  have kb0 := blen_nonneg (k : Int)
  have few := fun (h0 : 0 < k) => rnd_few h0
  have many := fun (h0 : 0 < k) => rnd_many h0
  have zer : k = 0 → r = Num.zero := by intro z; rw [← hr]; unfold rnd; rw [if_pos z]
  have lo : k ≠ 0 → blen (k : Int) ≤ 64 → r = Num.bound ng ((k * 2 ^ (64 - blen (k : Int)).toNat : Nat) : Int) (e1 + blen (k : Int) - 64) (up != ng) := by
    intro z y; rw [← hr]; unfold rnd; rw [if_neg z, if_pos y]
  have hi : k ≠ 0 → ¬ blen (k : Int) ≤ 64 → r = Num.grow ng ((k / 2 ^ (blen (k : Int) - 64).toNat : Nat) : Int) (e1 + blen (k : Int) - 64) true (up != ng) := by
    intro z y; rw [← hr]; unfold rnd; rw [if_neg z, if_neg y]
  have bw : blen (k : Int) ≤ 2000000 := by
    have q : ((lim k).length : Int) ≤ 62500 := by omega
    omega
  have F1 : IntKind.i64.wrap (IntKind.i64.wrap (e1 + blen (k : Int)) - 64) = e1 + blen (k : Int) - 64 := by rw [wi64, wi64]; omega
  have F2 : IntKind.i64.wrap (64 - blen (k : Int)) = 64 - blen (k : Int) := by rw [wi64]; omega
  have F3 : IntKind.i64.wrap (blen (k : Int) - 64) = blen (k : Int) - 64 := by rw [wi64]; omega
  have F4 : IntKind.i64.wrap (e1 + blen (k : Int) - 64 + 1) = e1 + blen (k : Int) - 64 + 1 := by rw [wi64]; omega
  have F5 : blen (k : Int) - 64 < 9223372036854775807 := by omega
  have l1 : Lb [(1 : Int)] := Lb.cons (by decide) (by decide) Lb.nil
  have Tp : ∀ s, 64 < blen (k : Int) → k / 2 ^ (blen (k : Int) - 64).toNat < 18446744073709551616 → s = (if blen (k : Int) - 64 < 1 then lim k else lim (k / 2 ^ (blen (k : Int) - 64).toNat)) → Lb s ∧ s.length ≤ 2 ∧ lv s = k / 2 ^ (blen (k : Int) - 64).toNat := by
    intro s b kk hs
    rw [if_neg (by omega)] at hs
    rw [hs]
    exact ⟨lim_lb _, len_two kk, lv_lim _⟩
  have Up : ∀ u, k / 2 ^ (blen (k : Int) - 64).toNat < 18446744073709551616 → u = lim (k / 2 ^ (blen (k : Int) - 64).toNat + lv [(1 : Int)]) → Lb u ∧ u.length ≤ 3 ∧ lv u = k / 2 ^ (blen (k : Int) - 64).toNat + 1 := by
    intro u kk hu
    rw [hu]
    refine ⟨lim_lb _, lim_length_le ?_, lv_lim _⟩
    show k / 2 ^ (blen (k : Int) - 64).toNat + 1 < 4294967296 ^ 3
    omega
  have Gr : 64 < blen (k : Int) → r = Num.grow ng ((k / 2 ^ (blen (k : Int) - 64).toNat : Nat) : Int) (e1 + blen (k : Int) - 64) true (up != ng) → (9223372036854775808 ≤ k / 2 ^ (blen (k : Int) - 64).toNat ∧ k / 2 ^ (blen (k : Int) - 64).toNat < 18446744073709551616) →
      ((up != ng) = true → (64 < blen ((k / 2 ^ (blen (k : Int) - 64).toNat + 1 : Nat) : Int) → r = Num.bound ng ((9223372036854775808 : Nat) : Int) (e1 + blen (k : Int) - 64 + 1) true ∧ (k / 2 ^ (blen (k : Int) - 64).toNat + 1) / 2 ^ (1 : Int).toNat = 9223372036854775808) ∧
        (¬ 64 < blen ((k / 2 ^ (blen (k : Int) - 64).toNat + 1 : Nat) : Int) → r = Num.bound ng ((k / 2 ^ (blen (k : Int) - 64).toNat + 1 : Nat) : Int) (e1 + blen (k : Int) - 64) true ∧ k / 2 ^ (blen (k : Int) - 64).toNat + 1 < 18446744073709551616)) ∧
      ((up != ng) = false → r = Num.bound ng ((k / 2 ^ (blen (k : Int) - 64).toNat : Nat) : Int) (e1 + blen (k : Int) - 64) false) := by
    intro b hr m
    generalize k / 2 ^ (blen (k : Int) - 64).toNat = v at *
    have tm := top_more m.1 m.2
    refine ⟨fun a => ⟨fun c => ?_, fun c => ?_⟩, fun a => ?_⟩
    · have e := tm.1.1 c
      refine ⟨?_, tm.2 e⟩
      rw [hr, a]
      unfold Num.grow
      rw [if_pos (show (true && true) = true from rfl), if_pos (by rw [e]; decide), F4]
      rfl
    · have e : v ≠ 18446744073709551615 := fun z => c (tm.1.2 z)
      refine ⟨?_, by omega⟩
      rw [hr, a]
      unfold Num.grow
      have w : IntKind.u64.wrap ((v : Int) + 1) = ((v + 1 : Nat) : Int) := by rw [wu64]; omega
      rw [if_pos (show (true && true) = true from rfl), w, if_neg (by omega)]
    · rw [hr, a]
      unfold Num.grow
      rw [if_neg (by decide)]
  have Sh : ∀ s, blen (k : Int) ≤ 64 → k * 2 ^ (64 - blen (k : Int)).toNat < 18446744073709551616 → s = (if 64 - blen (k : Int) < 1 then lim k else if 16777216 < 64 - blen (k : Int) then [] else lim (k * 2 ^ (64 - blen (k : Int)).toNat)) →
      Lb s ∧ s.length ≤ 2 ∧ lv s = k * 2 ^ (64 - blen (k : Int)).toNat := by
    intro s b kk hs
    have e : s = lim (k * 2 ^ (64 - blen (k : Int)).toNat) := by
      rw [hs]
      split
      · rw [show (64 - blen (k : Int)).toNat = 0 by omega]; simp
      · rw [if_neg (by omega)]
    rw [e]
    exact ⟨lim_lb _, len_two kk, lv_lim _⟩
  refine callsA_of hG hm Tryz.func136 (by kernel_rfl) ?_
  intro E hE lp hl'
  cbv
  (apply E_callX hE (k_r3Make _ _ _ h ?_ he); (case hf => rfl); (case hc => (cbv <;> trivial)); (case hle => exact u_up); all_goals (first | (intro x hx; cbv) | (exact Nat.le_trans hl (by decide))))
  have X : x = (ng, lim k, e1) := by rw [hx]; show dyL (dyMake neg (lv m) e) = _; rw [ed]; rfl
  have x1 : x.1 = ng := by rw [X]
  have x2 : x.2.1 = lim k := by rw [X]
  have x3 : x.2.2 = e1 := by rw [X]
  clear X hx
  refine E_br hE (fun g1 => ?_) (fun g1 => ?_) <;> cbv
  · have z : k = 0 := by
      subst hE
      have q : (x.2.1.length : Int) = 0 := eql_t g1
      rw [x2] at q
      exact lim_eq_nil.1 (List.length_eq_zero_iff.1 (by omega))
    rw [zer z]; exact ⟨rfl, rfl, rfl, rfl, trivial⟩
  have kz : k ≠ 0 := by
    intro z
    subst hE
    have q : ¬ (x.2.1.length : Int) = 0 := eql_f g1
    rw [x2, z] at q
    exact q rfl
  have few := few (by omega)
  have many := many (by omega)
  have lo := lo kz
  have hi := hi kz
  have xl : Lb x.2.1 ∧ x.2.1.length ≤ 62500 := by rw [x2]; exact ⟨lbk, Nat.le_trans hk hl⟩
  (apply E_callX hE (c_rLen _ xl.1 ?_); (case hf => rfl); (case hc => (cbv <;> trivial)); (case hle => exact u_up); all_goals (first | (intro nn hn; cbv) | (exact Nat.le_trans xl.2 (by decide))))
  refine E_nm hE (fun n hn' => ?_)
  cbv
  have nB : n = blen (k : Int) := by
    have q : nn = blen (lv x.2.1 : Int) := hn
    rw [x2, vk] at q
    subst hE; exact Eq.trans (b := nn) hn' q
  have ea : E.bnot (E.beq up x.1) = (up != ng) := by rw [x1]; subst hE; rfl
  have ee : E.bin .sub .i64 (E.bin .add .i64 x.2.2 n) 64 = e1 + blen (k : Int) - 64 := by
    rw [x3, nB]; subst hE
    exact F1
  refine E_br hE (fun g2 => ?_) (fun g2 => ?_) <;> cbv
  · have b64 : blen (k : Int) ≤ 64 := by rw [← nB]; subst hE; exact leq_t g2
    have en : E.bin .sub .i64 64 n = 64 - blen (k : Int) := by rw [nB]; subst hE; exact F2
    have kk := few b64
    (apply E_pcallX hE (c_rShl _ _ xl.1 ?_); (case hm => rfl); (case hle => exact u_up); all_goals (first | (intro s hs; cbv) | (exact Nat.lt_of_le_of_lt xl.2 (by decide))))
    have S : Lb s ∧ s.length ≤ 2 ∧ lv s = k * 2 ^ (64 - blen (k : Int)).toNat := by
      have q : s = (if E.bin .sub .i64 64 n < 1 then lim (lv x.2.1) else if 16777216 < E.bin .sub .i64 64 n then [] else lim (lv x.2.1 * 2 ^ (E.bin .sub .i64 64 n).toNat)) := hs
      rw [en, x2, vk] at q
      exact Sh s b64 kk q
    (apply E_pcallX hE (c_rWord _ S.1 S.2.1); (case hm => rfl); (case hle => exact u_up); all_goals (first | (intro w hw; cbv) | (assumption)))
    (apply E_pcallX hE (c_rFin _ _ _ _); (case hm => rfl); (case hle => exact u_up); all_goals (first | (intro t ht; cbv) | (assumption)))
    have ht' : t = Num.bound x.1 w (E.bin .sub .i64 (E.bin .add .i64 x.2.2 n) 64) (E.bnot (E.beq up x.1)) := ht
    rw [ee, ea, x1, show w = (lv s : Int) from hw, S.2.2, ← lo b64] at ht'
    rw [ht']; exact ⟨rfl, rfl, rfl, rfl, trivial⟩
  · have b64 : ¬ blen (k : Int) ≤ 64 := by rw [← nB]; subst hE; exact leq_f g2
    have en : E.bin .sub .i64 n 64 = blen (k : Int) - 64 := by rw [nB]; subst hE; exact F3
    have M := many (Int.not_le.1 b64)
    (apply E_callX hE (c_rShr _ _ xl.1 ?_ ?_); (case hf => rfl); (case hc => (cbv <;> trivial)); (case hle => exact u_up); all_goals (first | (intro s hs; cbv) | (first | exact Nat.lt_of_le_of_lt xl.2 (by decide) | (show E.bin .sub .i64 n 64 < 9223372036854775807; rw [en]; exact F5))))
    have T : Lb s ∧ s.length ≤ 2 ∧ lv s = k / 2 ^ (blen (k : Int) - 64).toNat := by
      have q : s = (if E.bin .sub .i64 n 64 < 1 then lim (lv x.2.1) else lim (lv x.2.1 / 2 ^ (E.bin .sub .i64 n 64).toNat)) := hs
      rw [en, x2, vk] at q
      exact Tp s (Int.not_le.1 b64) M.2 q
    have G := Gr (Int.not_le.1 b64) (hi b64) M
    refine E_nm hE (fun e2 he2 => ?_)
    cbv
    have ee2 : e2 = e1 + blen (k : Int) - 64 := Eq.trans (b := E.bin .sub .i64 (E.bin .add .i64 x.2.2 n) 64) he2 ee
    have es : E.sub [1] 0 1 = [1] := by subst hE; rfl
    refine E_br hE (fun g3 => ?_) (fun g3 => ?_) <;> cbv
    · have a1 : (up != ng) = true := ea.symm.trans g3
      (apply E_callX hE (c_rAdd _ _ T.1 ?_ ?_ ?_); (case hf => rfl); (case hc => (cbv <;> trivial)); (case hle => exact u_up); all_goals (first | (intro u hu; cbv) | (first | exact Nat.lt_of_le_of_lt T.2.1 (by decide) | (show Lb (E.sub [1] 0 1); rw [es]; exact l1) | (show (E.sub [1] 0 1).length < 268435456; rw [es]; show (1 : Nat) < 268435456; decide))))
      have U : Lb u ∧ u.length ≤ 3 ∧ lv u = k / 2 ^ (blen (k : Int) - 64).toNat + 1 := by
        have q : u = lim (lv s + lv (E.sub [1] 0 1)) := hu
        rw [es, T.2.2] at q
        exact Up u M.2 q
      (apply E_callX hE (c_rLen _ U.1 ?_); (case hf => rfl); (case hc => (cbv <;> trivial)); (case hle => exact u_up); all_goals (first | (intro n2 hn2; cbv) | (exact Nat.le_trans U.2.1 (by decide))))
      have n2e : n2 = blen ((k / 2 ^ (blen (k : Int) - 64).toNat + 1 : Nat) : Int) := by rw [← U.2.2]; exact hn2
      refine E_br hE (fun g4 => ?_) (fun g4 => ?_) <;> cbv
      · have c : 64 < blen ((k / 2 ^ (blen (k : Int) - 64).toNat + 1 : Nat) : Int) := by rw [← n2e]; subst hE; exact gtr_t g4
        have GG := (G.1 a1).1 c
        (apply E_callX hE (c_rShr _ 1 U.1 ?_ ?_); (case hf => rfl); (case hc => (cbv <;> trivial)); (case hle => exact u_up); all_goals (first | (intro y hy; cbv) | (first | exact Nat.lt_of_le_of_lt U.2.1 (by decide) | (show (1 : Int) < 9223372036854775807; decide))))
        have Y : Lb y ∧ y.length ≤ 2 ∧ lv y = 9223372036854775808 := by
          have q : y = (if (1 : Int) < 1 then lim (lv u) else lim (lv u / 2 ^ (1 : Int).toNat)) := hy
          rw [if_neg (by decide), U.2.2, GG.2] at q
          rw [q]; exact ⟨lim_lb _, len_two (by decide), lv_lim _⟩
        refine E_nm hE (fun e3 he3 => ?_)
        cbv
        have ee3 : e3 = e1 + blen (k : Int) - 64 + 1 := by subst hE; rw [← F4, ← ee2]; exact he3
        (apply E_pcallX hE (c_rWord _ Y.1 Y.2.1); (case hm => rfl); (case hle => exact u_up); all_goals (first | (intro w hw; cbv) | (assumption)))
        (apply E_pcallX hE (c_rFin _ _ _ _); (case hm => rfl); (case hle => exact u_up); all_goals (first | (intro t ht; cbv) | (assumption)))
        have ht' : t = Num.bound x.1 w e3 (E.bnot (E.beq up x.1)) := ht
        rw [ee3, ea, x1, show w = (lv y : Int) from hw, Y.2.2, a1] at ht'
        have e : t = r := ht'.trans GG.1.symm
        rw [e]; exact ⟨rfl, rfl, rfl, rfl, trivial⟩
      · have c : ¬ 64 < blen ((k / 2 ^ (blen (k : Int) - 64).toNat + 1 : Nat) : Int) := by rw [← n2e]; subst hE; exact gtr_f g4
        have GG := (G.1 a1).2 c
        have UL : k / 2 ^ (blen (k : Int) - 64).toNat + 1 < 18446744073709551616 → u.length ≤ 2 := fun z => by have q : u = lim (lv s + lv (E.sub [1] 0 1)) := hu; rw [es, T.2.2] at q; rw [q]; exact len_two z
        (apply E_pcallX hE (c_rWord _ U.1 ?_); (case hm => rfl); (case hle => exact u_up); all_goals (first | (intro w hw; cbv) | (exact UL GG.2)))
        (apply E_pcallX hE (c_rFin _ _ _ _); (case hm => rfl); (case hle => exact u_up); all_goals (first | (intro t ht; cbv) | (assumption)))
        have ht' : t = Num.bound x.1 w e2 (E.bnot (E.beq up x.1)) := ht
        rw [ee2, ea, x1, show w = (lv u : Int) from hw, U.2.2, a1] at ht'
        have e : t = r := ht'.trans GG.1.symm
        rw [e]; exact ⟨rfl, rfl, rfl, rfl, trivial⟩
    · have a1 : (up != ng) = false := ea.symm.trans g3
      have GG := G.2 a1
      (apply E_pcallX hE (c_rWord _ T.1 T.2.1); (case hm => rfl); (case hle => exact u_up); all_goals (first | (intro w hw; cbv) | (assumption)))
      (apply E_pcallX hE (c_rFin _ _ _ _); (case hm => rfl); (case hle => exact u_up); all_goals (first | (intro t ht; cbv) | (assumption)))
      have ht' : t = Num.bound x.1 w e2 (E.bnot (E.beq up x.1)) := ht
      rw [ee2, ea, x1, show w = (lv s : Int) from hw, T.2.2, a1] at ht'
      have e : t = r := ht'.trans GG.symm
      rw [e]; exact ⟨rfl, rfl, rfl, rfl, trivial⟩

end Go.Proofs.YtpadpcjdakfokaaGreatDoor.Ev

/- Contracts of the reference: products. Printed by gen.py. -/
namespace Go.Proofs.YtpadpcjdakfokaaGreatDoor.Ev
open Go Go.Proofs
set_option linter.unusedVariables false
set_option linter.unusedSimpArgs false

attribute [local irreducible] Lb
end Go.Proofs.YtpadpcjdakfokaaGreatDoor.Ev

/- The quotient of two numbers; products and quotients of intervals hold what they ought to: plain Lean. -/
namespace Go.Proofs.YtpadpcjdakfokaaGreatDoor.Ev
open Go

def Num.divF (a b : Num) (up : Bool) : Num :=
  if b.m ≤ a.m then Num.grow (a.neg != b.neg) (a.m * 9223372036854775808 / b.m) (a.e - b.e - 63) (decide (a.m * 9223372036854775808 % b.m ≠ 0)) (up != (a.neg != b.neg))
  else Num.grow (a.neg != b.neg) (a.m * 18446744073709551616 / b.m) (a.e - b.e - 64) (decide (a.m * 18446744073709551616 % b.m ≠ 0)) (up != (a.neg != b.neg))
def Num.div (a b : Num) (up : Bool) : Num :=
  if b.fair.kind = 0 then Num.inf (!up) else if a.fair.kind = 0 ∨ b.fair.kind = 2 then Num.zero else if a.fair.kind = 2 then Num.inf (a.fair.neg != b.fair.neg) else Num.divF a.fair b.fair up

def Iv.corners (F : Num → Num → Bool → Num) (a b : Iv) : Iv :=
  Iv.make (Num.least [F a.lo b.lo false, F a.lo b.hi false, F a.hi b.lo false, F a.hi b.hi false]) (Num.most [F a.lo b.lo true, F a.lo b.hi true, F a.hi b.lo true, F a.hi b.hi true])
def Iv.mul (a b : Iv) : Iv := if Iv.anyBad [a, b] then Iv.none else Iv.corners Num.mul a b

def Iv.half (near fin : Num) : Iv :=
  if near.sign = fin.sign then Iv.make (Num.div near fin false) (Num.inf false) else Iv.make (Num.inf true) (Num.div near fin true)
def Iv.div (a b : Iv) : Iv :=
  if Iv.anyBad [a, b] ∨ (b.lo.sign = 0 ∧ b.hi.sign = 0) then Iv.none
  else if 0 < b.lo.sign ∨ b.hi.sign < 0 then Iv.corners Num.div a b
  else if (b.lo.sign < 0 ∧ 0 < b.hi.sign) ∨ Iv.has a Num.zero then Iv.all
  else Iv.half (if a.lo.sign < 0 then a.hi else a.lo) (if b.hi.sign = 0 then b.lo else b.hi)

theorem divF_side {a b : Num} (ha : a.Fin) (hb : b.Fin) (up : Bool) : Side (Num.divF a b up) up (if (a.neg != b.neg) then -(a.W * pw 0) else a.W * pw 0) b.W := by
  have := ha.lo; have := ha.hi; have := ha.elo; have := ha.ehi
  have := hb.lo; have := hb.hi; have := hb.elo; have := hb.ehi
  have p0 := pw_pos 0
  have hT : 0 ≤ a.W * pw 0 := Int.mul_nonneg (Int.le_of_lt ha.lt.1) (Int.le_of_lt p0)
  have hb0 : 0 < b.m := by omega
  unfold Num.divF
  split
  · rename_i h
    have e1 := Int.mul_ediv_add_emod (a.m * 9223372036854775808) b.m
    have e2 := Int.emod_nonneg (a.m * 9223372036854775808) (show b.m ≠ 0 by omega)
    have e3 := Int.emod_lt_of_pos (a.m * 9223372036854775808) hb0
    generalize hq : a.m * 9223372036854775808 / b.m = q at *
    generalize hr : a.m * 9223372036854775808 % b.m = r at *
    have q1 : 9223372036854775808 ≤ q := by
      rcases Int.lt_or_le q 9223372036854775808 with g | g
      · exfalso
        have : b.m * q ≤ b.m * 9223372036854775807 := Int.mul_le_mul_of_nonneg_left (by omega) (by omega)
        omega
      · exact g
    have q2 : q < 18446744073709551616 := by
      rcases Int.lt_or_le q 18446744073709551616 with g | g
      · exact g
      · exfalso
        have : b.m * 18446744073709551616 ≤ b.m * q := Int.mul_le_mul_of_nonneg_left g (by omega)
        omega
    have R := grow_rnd (neg := a.neg != b.neg) (cut := decide (r ≠ 0)) (away := up != (a.neg != b.neg)) (m := q) (e := a.e - b.e - 63) q1 q2 (by omega) (by omega)
    have E : ∀ k : Int, k * pw (a.e - b.e - 63) * b.W = (b.m * k) * (pw (a.e - 63) * pw 0) := by
      intro k
      rw [hb.W]
      have e := pw_mul (e := b.e) (f := a.e - b.e - 63) (by omega) (by omega) (by omega)
      rw [show b.e + (a.e - b.e - 63) = a.e - 63 by omega] at e
      have e' : k * pw (a.e - b.e - 63) * (b.m * pw b.e) = b.m * k * (pw b.e * pw (a.e - b.e - 63)) := by grind
      rw [e', e]; grind
    have ET : a.W * pw 0 = (a.m * 9223372036854775808) * (pw (a.e - 63) * pw 0) := by
      rw [ha.W]
      have e := pw_63 (e := a.e - 63) (by omega)
      rw [show a.e - 63 + 63 = a.e by omega] at e
      rw [e]; grind
    have pp : 0 ≤ pw (a.e - 63) * pw 0 := Int.le_of_lt (Int.mul_pos (pw_pos _) p0)
    refine R.side ?_ ?_ hT (Int.le_of_lt hb.lt.1)
    · rw [E, ET]; exact Int.mul_le_mul_of_nonneg_right (by omega) pp
    · rw [E, ET]
      refine Int.mul_le_mul_of_nonneg_right ?_ pp
      split
      · have : b.m * (q + 1) = b.m * q + b.m := by grind
        omega
      · rename_i h; simp only [decide_eq_true_eq] at h; omega
  · rename_i h
    have e1 := Int.mul_ediv_add_emod (a.m * 18446744073709551616) b.m
    have e2 := Int.emod_nonneg (a.m * 18446744073709551616) (show b.m ≠ 0 by omega)
    have e3 := Int.emod_lt_of_pos (a.m * 18446744073709551616) hb0
    generalize hq : a.m * 18446744073709551616 / b.m = q at *
    generalize hr : a.m * 18446744073709551616 % b.m = r at *
    have q1 : 9223372036854775808 ≤ q := by
      rcases Int.lt_or_le q 9223372036854775808 with g | g
      · exfalso
        have : b.m * q ≤ b.m * 9223372036854775807 := Int.mul_le_mul_of_nonneg_left (by omega) (by omega)
        omega
      · exact g
    have q2 : q < 18446744073709551616 := by
      rcases Int.lt_or_le q 18446744073709551616 with g | g
      · exact g
      · exfalso
        have : b.m * 18446744073709551616 ≤ b.m * q := Int.mul_le_mul_of_nonneg_left g (by omega)
        omega
    have R := grow_rnd (neg := a.neg != b.neg) (cut := decide (r ≠ 0)) (away := up != (a.neg != b.neg)) (m := q) (e := a.e - b.e - 64) q1 q2 (by omega) (by omega)
    have E : ∀ k : Int, k * pw (a.e - b.e - 64) * b.W = (b.m * k) * (pw (a.e - 64) * pw 0) := by
      intro k
      rw [hb.W]
      have e := pw_mul (e := b.e) (f := a.e - b.e - 64) (by omega) (by omega) (by omega)
      rw [show b.e + (a.e - b.e - 64) = a.e - 64 by omega] at e
      have e' : k * pw (a.e - b.e - 64) * (b.m * pw b.e) = b.m * k * (pw b.e * pw (a.e - b.e - 64)) := by grind
      rw [e', e]; grind
    have ET : a.W * pw 0 = (a.m * 18446744073709551616) * (pw (a.e - 64) * pw 0) := by
      rw [ha.W]
      have e := pw_64 (e := a.e - 64) (by omega)
      rw [show a.e - 64 + 64 = a.e by omega] at e
      rw [e]; grind
    have pp : 0 ≤ pw (a.e - 64) * pw 0 := Int.le_of_lt (Int.mul_pos (pw_pos _) p0)
    refine R.side ?_ ?_ hT (Int.le_of_lt hb.lt.1)
    · rw [E, ET]; exact Int.mul_le_mul_of_nonneg_right (by omega) pp
    · rw [E, ET]
      refine Int.mul_le_mul_of_nonneg_right ?_ pp
      split
      · have : b.m * (q + 1) = b.m * q + b.m := by grind
        omega
      · rename_i h; simp only [decide_eq_true_eq] at h; omega

theorem zero_side (up : Bool) (c : Int) : Side Num.zero up 0 c :=
  ⟨Num.zero_may, Num.zero_ok, fun _ => ⟨by decide, .inr (by rw [Num.val_zero]; simp)⟩, fun _ => ⟨by decide, .inr (by rw [Num.val_zero]; simp)⟩⟩

/-- the product of two that are finite -/
theorem mul_side {a b : Num} (ma : a.may = true) (mb : b.may = true) (oa : a.ok) (ob : b.ok) (ka : a.kind ≠ 2) (kb : b.kind ≠ 2) (up : Bool) : Side (Num.mul a b up) up (a.val * b.val) (pw 0) := by
  unfold Num.mul
  rw [Num.fair_of_may ma, Num.fair_of_may mb]
  rcases Num.may3 ma oa with h | h | h
  · rw [if_pos (.inl (by rw [h]; rfl)), h, Num.val_zero, Int.zero_mul]; exact zero_side _ _
  · rcases Num.may3 mb ob with k | k | k
    · rw [if_pos (.inr (by rw [k]; rfl)), k, Num.val_zero, Int.mul_zero]; exact zero_side _ _
    · rw [if_neg (by rw [h.kind, k.kind]; decide), if_neg (by rw [h.kind, k.kind]; decide)]
      exact mulF_side h k up
    · rw [k] at kb; exact absurd rfl kb
  · rw [h] at ka; exact absurd rfl ka

theorem div_core {a b : Num} (ma : a.may = true) (mb : b.may = true) (oa : a.ok) (ob : b.ok) (hb : b.val ≠ 0) (up : Bool) :
    (b.kind = 2 ∧ Num.div a b up = Num.zero) ∨ (b.Fin ∧ a.kind = 2 ∧ Num.div a b up = Num.inf (a.neg != b.neg)) ∨
      (b.Fin ∧ a.kind ≠ 2 ∧ Side (Num.div a b up) up (if b.neg then -(a.val * pw 0) else a.val * pw 0) b.W) := by
  unfold Num.div
  rw [Num.fair_of_may ma, Num.fair_of_may mb]
  rcases Num.may3 mb ob with k | k | k
  · rw [k] at hb; exact absurd rfl hb
  · right
    rw [if_neg (by rw [k.kind]; decide)]
    rcases Num.may3 ma oa with h | h | h
    · right
      refine ⟨k, by rw [h]; decide, ?_⟩
      rw [if_pos (.inl (by rw [h]; rfl)), h, Num.val_zero]
      have : (if b.neg = true then -(0 * pw 0) else 0 * pw 0) = 0 := by split <;> simp
      rw [this]; exact zero_side _ _
    · right
      refine ⟨k, by rw [h.kind]; decide, ?_⟩
      rw [if_neg (by rw [h.kind, k.kind]; decide), if_neg (by rw [h.kind]; decide)]
      have e : (if b.neg = true then -(a.val * pw 0) else a.val * pw 0) = if (a.neg != b.neg) then -(a.W * pw 0) else a.W * pw 0 := by
        unfold Num.val; cases a.neg <;> cases b.neg <;> simp [Int.neg_mul]
      rw [e]
      exact divF_side h k up
    · left
      have ha : a.kind = 2 := by rw [h]; rfl
      refine ⟨k, ha, ?_⟩
      rw [if_neg (by rw [ha, k.kind]; decide), if_pos ha]
  · left
    have hk : b.kind = 2 := by rw [k]; rfl
    exact ⟨hk, by rw [if_neg (by rw [hk]; decide), if_pos (.inr hk)]⟩

theorem div_may {a b : Num} (ma : a.may = true) (mb : b.may = true) (oa : a.ok) (ob : b.ok) (hb : b.val ≠ 0) (up : Bool) : (Num.div a b up).may = true ∧ (Num.div a b up).ok := by
  rcases div_core ma mb oa ob hb up with h | h | h
  · rw [h.2]; exact ⟨Num.zero_may, Num.zero_ok⟩
  · rw [h.2.2]; exact ⟨Num.inf_may _, Num.inf_ok _⟩
  · exact ⟨h.2.2.may, h.2.2.ok⟩

/-- the quotient to below is not above v, which is v * w / w -/
theorem div_dn {a b : Num} {v w : Int} (ma : a.may = true) (mb : b.may = true) (oa : a.ok) (ob : b.ok) (hb : b.val ≠ 0) (hw : 0 < w) (hw' : w < pw 1048640) (hv : -pw 1048640 ≤ v)
    (hA : (a.kind = 2 ∧ a.neg ≠ b.neg) ∨ (a.kind ≠ 2 ∧ (if b.neg then -(a.val * pw 0) else a.val * pw 0) ≤ v * w))
    (h : (0 ≤ v ∧ w ≤ b.W) ∨ (v ≤ 0 ∧ b.W ≤ w)) : (Num.div a b false).val ≤ v := by
  rcases div_core ma mb oa ob hb false with ⟨k1, k2⟩ | ⟨k1, k2, k3⟩ | ⟨k1, k2, k3⟩
  · rw [k2, Num.val_zero]
    rcases h with h | h
    · exact h.1
    · have : b.W = pw 1048640 := by unfold Num.W; rw [k1]; rfl
      omega
  · rcases hA with hA | hA
    · rw [k3, Num.val_inf]
      have : (a.neg != b.neg) = true := by simpa using hA.2
      rw [this]; simpa using hv
    · exact absurd k2 hA.1
  · rcases hA with hA | hA
    · exact absurd hA.1 k2
    · rcases (k3.down rfl).2 with g | g
      · rw [g, Num.val_inf]; simpa using hv
      · have e1 : v * w ≤ v * b.W := by
          rcases h with h | h
          · exact Int.mul_le_mul_of_nonneg_left h.2 h.1
          · have := Int.mul_le_mul_of_nonneg_left h.2 (show 0 ≤ -v by omega)
            rw [Int.neg_mul, Int.neg_mul] at this; omega
        have := Int.le_trans g (Int.le_trans hA.2 e1)
        exact Int.le_of_mul_le_mul_right this k1.lt.1

theorem div_up {a b : Num} {v w : Int} (ma : a.may = true) (mb : b.may = true) (oa : a.ok) (ob : b.ok) (hb : b.val ≠ 0) (hw : 0 < w) (hw' : w < pw 1048640) (hv : v ≤ pw 1048640)
    (hA : (a.kind = 2 ∧ a.neg = b.neg) ∨ (a.kind ≠ 2 ∧ v * w ≤ (if b.neg then -(a.val * pw 0) else a.val * pw 0)))
    (h : (0 ≤ v ∧ b.W ≤ w) ∨ (v ≤ 0 ∧ w ≤ b.W)) : v ≤ (Num.div a b true).val := by
  rcases div_core ma mb oa ob hb true with ⟨k1, k2⟩ | ⟨k1, k2, k3⟩ | ⟨k1, k2, k3⟩
  · rw [k2, Num.val_zero]
    rcases h with h | h
    · have : b.W = pw 1048640 := by unfold Num.W; rw [k1]; rfl
      omega
    · exact h.1
  · rcases hA with hA | hA
    · rw [k3, Num.val_inf, hA.2]; simpa using hv
    · exact absurd k2 hA.1
  · rcases hA with hA | hA
    · exact absurd hA.1 k2
    · rcases (k3.up rfl).2 with g | g
      · rw [g, Num.val_inf]; simpa using hv
      · have e1 : v * b.W ≤ v * w := by
          rcases h with h | h
          · exact Int.mul_le_mul_of_nonneg_left h.2 h.1
          · have := Int.mul_le_mul_of_nonneg_left h.2 (show 0 ≤ -v by omega)
            rw [Int.neg_mul, Int.neg_mul] at this; omega
        have := Int.le_trans e1 (Int.le_trans hA.2 g)
        exact Int.le_of_mul_le_mul_right this k1.lt.1

/-- v is between what four corners make, if it is not below one to below and not above one to above -/
theorem corners_has {F : Num → Num → Bool → Num} {a b : Iv} {v : Int} (hF : ∀ x ∈ [a.lo, a.hi], ∀ y ∈ [b.lo, b.hi], ∀ up, (F x y up).may = true ∧ (F x y up).ok) (h1 : -pw 1048640 < v) (h2 : v < pw 1048640)
    (hd : ∃ x ∈ [a.lo, a.hi], ∃ y ∈ [b.lo, b.hi], (F x y false).val ≤ v) (hu : ∃ x ∈ [a.lo, a.hi], ∃ y ∈ [b.lo, b.hi], v ≤ (F x y true).val) :
    (Iv.corners F a b).Real ∧ (Iv.corners F a b).lo.val ≤ v ∧ v ≤ (Iv.corners F a b).hi.val := by
  have all : ∀ up, ∀ x ∈ [F a.lo b.lo up, F a.lo b.hi up, F a.hi b.lo up, F a.hi b.hi up], x.may = true ∧ x.ok := by
    intro up x hx
    simp only [List.mem_cons, List.not_mem_nil, or_false] at hx
    rcases hx with rfl | rfl | rfl | rfl <;> exact hF _ (by simp) _ (by simp) up
  have inl : ∀ up, ∀ x ∈ [a.lo, a.hi], ∀ y ∈ [b.lo, b.hi], F x y up ∈ [F a.lo b.lo up, F a.lo b.hi up, F a.hi b.lo up, F a.hi b.hi up] := by
    intro up x hx y hy
    simp only [List.mem_cons, List.not_mem_nil, or_false] at hx hy ⊢
    rcases hx with rfl | rfl <;> rcases hy with rfl | rfl <;> simp
  obtain ⟨l1, l2, l3, _⟩ := Num.least_spec _ (fun x hx => (all false x hx).2)
  obtain ⟨m1, m2, m3, _⟩ := Num.most_spec _ (fun x hx => (all true x hx).2)
  unfold Iv.corners
  obtain ⟨x, hx, y, hy, hd⟩ := hd
  obtain ⟨x', hx', y', hy', hu⟩ := hu
  have d := l3 _ (inl false x hx y hy)
  rw [Num.fair_of_may (hF x hx y hy false).1] at d
  have u := m3 _ (inl true x' hx' y' hy')
  rw [Num.fair_of_may (hF x' hx' y' hy' true).1] at u
  generalize Num.least _ = L at *
  generalize Num.most _ = M at *
  have R : (Iv.mk false L.fair M.fair).Real := by
    rw [Num.fair_of_may l1, Num.fair_of_may m1]
    exact ⟨rfl, l1, m1, l2, m2, by show L.val ≤ M.val; omega, by show L.val < _; omega, by show _ < M.val; omega⟩
  rw [Iv.make_real R]
  refine ⟨R, ?_, ?_⟩
  · show L.fair.val ≤ v; rw [Num.fair_of_may l1]; omega
  · show v ≤ M.fair.val; rw [Num.fair_of_may m1]; omega

theorem Iv.anyBad2 {a b : Iv} (ha : a.Real) (hb : b.Real) : Iv.anyBad [a, b] = false := by
  simp [Iv.anyBad, ha.good, hb.good]

theorem Iv.has_iff {x : Iv} {n : Num} (hn : n.ok) (o1 : x.lo.ok) (o2 : x.hi.ok) :
    Iv.has x n = true ↔ (n.fair.kind ≠ 2 ∧ x.Real ∧ x.lo.val ≤ n.fair.val ∧ n.fair.val ≤ x.hi.val) := by
  have mn := n.fair_may
  have on := Num.fair_ok hn
  have fv := Num.fin_val mn on
  unfold Iv.has Iv.point
  rcases Iv.make_cases hn hn with ⟨e, h⟩ | ⟨e, h⟩
  · rw [e]
    constructor
    · intro g; simp [Iv.none] at g
    · rintro ⟨k, _⟩
      have k' := fv.1 k
      exact absurd ⟨rfl, mn, mn, on, on, Int.le_refl _, k'.2, k'.1⟩ h
  · rw [e]
    have k : n.fair.kind ≠ 2 := fv.2 ⟨h.gt, h.lt⟩
    unfold Iv.within
    rw [h.fair]
    by_cases hx : x.Real
    · rw [hx.fair]
      simp only [hx.some, Bool.not_false, Bool.true_and, Bool.false_or, Bool.and_eq_true, decide_eq_true_eq]
      rw [Num.cmp_le hx.loo on, Num.cmp_le on hx.hio, Num.fair_of_may hx.lom, Num.fair_of_may hx.him, Num.fair_fair]
      exact ⟨fun g => ⟨k, hx, g⟩, fun g => g.2.2⟩
    · constructor
      · intro g
        exfalso
        apply hx
        have hm : x.may = true := by
          cases hh : x.may
          · rw [show x.fair = Iv.none by unfold Iv.fair; rw [if_neg (by simp [hh])]] at g
            simp [Iv.none] at g
          · rfl
        have he : x.empty = false := by
          cases hh : x.empty
          · rfl
          · rw [show x.fair = Iv.none by rw [Iv.empty_may hm hh]; rfl] at g
            simp [Iv.none] at g
        exact Iv.real_of hm he o1 o2
      · exact fun g => absurd g.2.1 hx

theorem Num.val_pos {n : Num} (m : n.may = true) (o : n.ok) : (0 < n.val → n.neg = false ∧ n.W = n.val ∧ n.sign = 1) ∧ (n.val < 0 → n.neg = true ∧ n.W = -n.val ∧ n.sign = -1) ∧ (n.val = 0 → n.sign = 0 ∧ n = Num.zero) := by
  rcases Num.sign_of m o with h | h | h
  · refine ⟨fun g => by omega, fun g => by omega, fun _ => ⟨h.1, h.2.2.2⟩⟩
  · refine ⟨fun g => ⟨h.2.2.2.1, by omega, h.1⟩, fun g => by omega, fun g => by omega⟩
  · refine ⟨fun g => by omega, fun g => ⟨h.2.2.2.1, by omega, h.1⟩, fun g => by omega⟩

theorem Num.inf_val {n : Num} (m : n.may = true) (o : n.ok) (k : n.kind = 2) : (n.neg = true ∧ n.val = -pw 1048640) ∨ (n.neg = false ∧ n.val = pw 1048640) := by
  have e := Num.inf_of m o k
  cases hn : n.neg
  · right; rw [e, hn]; exact ⟨rfl, rfl⟩
  · left; rw [e, hn]; exact ⟨rfl, rfl⟩

/-- what may be below, and above, an exact number -/
def Num.below (n : Num) (x : Int) : Prop := n = Num.inf true ∨ (n.kind ≠ 2 ∧ n.val * pw 0 ≤ x)
def Num.above (n : Num) (x : Int) : Prop := n = Num.inf false ∨ (n.kind ≠ 2 ∧ x ≤ n.val * pw 0)

theorem Num.below_neg {n : Num} {x : Int} (h : n.below x) (g : n.kind = 2) : n.neg = true := by
  rcases h with h | h
  · rw [h]; rfl
  · exact absurd g h.1
theorem Num.above_pos {n : Num} {x : Int} (h : n.above x) (g : n.kind = 2) : n.neg = false := by
  rcases h with h | h
  · rw [h]; rfl
  · exact absurd g h.1
theorem Num.below_le {n : Num} {x : Int} (h : n.below x) (g : n.kind ≠ 2) : n.val * pw 0 ≤ x := by
  rcases h with h | h
  · rw [h] at g; exact absurd rfl g
  · exact h.2
theorem Num.above_le {n : Num} {x : Int} (h : n.above x) (g : n.kind ≠ 2) : x ≤ n.val * pw 0 := by
  rcases h with h | h
  · rw [h] at g; exact absurd rfl g
  · exact h.2

theorem Iv.div_has {a b : Iv} {v w : Int} (ha : a.Real) (hb : b.Real) (hw : w ≠ 0) (b1 : b.lo.val ≤ w) (b2 : w ≤ b.hi.val) (w1 : -pw 1048640 < w) (w2 : w < pw 1048640)
    (v1 : -pw 1048640 < v) (v2 : v < pw 1048640) (a1 : a.lo.below (v * w)) (a2 : a.hi.above (v * w)) :
    (Iv.div a b).Real ∧ (Iv.div a b).lo.val ≤ v ∧ v ≤ (Iv.div a b).hi.val := by
  have pl := Num.val_pos hb.lom hb.loo
  have ph := Num.val_pos hb.him hb.hio
  have ql := Num.val_pos ha.lom ha.loo
  have qh := Num.val_pos ha.him ha.hio
  have P := pw_pos 1048640
  have kl := hb.lt
  have kh := hb.gt
  have em : (-v) * (-w) = v * w := by rw [Int.neg_mul_neg]
  have em2 : v * (-w) = -(v * w) := by rw [Int.mul_neg]
  unfold Iv.div
  rw [Iv.anyBad2 ha hb]
  rw [if_neg (by
    rintro (h | ⟨h, h'⟩)
    · cases h
    · have e1 : b.lo.val = 0 := by
        rcases Int.lt_trichotomy b.lo.val 0 with g | g | g
        · have := (pl.2.1 g).2.2; omega
        · exact g
        · have := (pl.1 g).2.2; omega
      have e2 : b.hi.val = 0 := by
        rcases Int.lt_trichotomy b.hi.val 0 with g | g | g
        · have := (ph.2.1 g).2.2; omega
        · exact g
        · have := (ph.1 g).2.2; omega
      omega)]
  by_cases c1 : 0 < b.lo.val
  · rw [if_pos (.inl (by rw [(pl.1 c1).2.2]; decide))]
    have c2 : 0 < b.hi.val := by omega
    have hw0 : 0 < w := by omega
    obtain ⟨l1, l2, l3⟩ := pl.1 c1
    obtain ⟨h1, h2, h3⟩ := ph.1 c2
    refine corners_has ?_ v1 v2 ?_ ?_
    · intro x hx y hy up
      simp only [List.mem_cons, List.not_mem_nil, or_false] at hx hy
      rcases hx with rfl | rfl <;> rcases hy with rfl | rfl <;> first | exact div_may ha.lom hb.lom ha.loo hb.loo (by omega) up | exact div_may ha.lom hb.him ha.loo hb.hio (by omega) up | exact div_may ha.him hb.lom ha.hio hb.loo (by omega) up | exact div_may ha.him hb.him ha.hio hb.hio (by omega) up
    · have hA : ∀ y : Num, y.neg = false → (a.lo.kind = 2 ∧ a.lo.neg ≠ y.neg) ∨ (a.lo.kind ≠ 2 ∧ (if y.neg then -(a.lo.val * pw 0) else a.lo.val * pw 0) ≤ v * w) := by
        intro y hy
        by_cases g : a.lo.kind = 2
        · exact .inl ⟨g, by rw [Num.below_neg a1 g, hy]; decide⟩
        · exact .inr ⟨g, by rw [hy]; exact Num.below_le a1 g⟩
      by_cases hv : 0 ≤ v
      · exact ⟨a.lo, by simp, b.hi, by simp, div_dn ha.lom hb.him ha.loo hb.hio (by omega) hw0 w2 (by omega) (hA _ h1) (.inl ⟨hv, by omega⟩)⟩
      · exact ⟨a.lo, by simp, b.lo, by simp, div_dn ha.lom hb.lom ha.loo hb.loo (by omega) hw0 w2 (by omega) (hA _ l1) (.inr ⟨by omega, by omega⟩)⟩
    · have hA : ∀ y : Num, y.neg = false → (a.hi.kind = 2 ∧ a.hi.neg = y.neg) ∨ (a.hi.kind ≠ 2 ∧ v * w ≤ (if y.neg then -(a.hi.val * pw 0) else a.hi.val * pw 0)) := by
        intro y hy
        by_cases g : a.hi.kind = 2
        · exact .inl ⟨g, by rw [Num.above_pos a2 g, hy]⟩
        · exact .inr ⟨g, by rw [hy]; exact Num.above_le a2 g⟩
      by_cases hv : 0 ≤ v
      · exact ⟨a.hi, by simp, b.lo, by simp, div_up ha.him hb.lom ha.hio hb.loo (by omega) hw0 w2 (by omega) (hA _ l1) (.inl ⟨hv, by omega⟩)⟩
      · exact ⟨a.hi, by simp, b.hi, by simp, div_up ha.him hb.him ha.hio hb.hio (by omega) hw0 w2 (by omega) (hA _ h1) (.inr ⟨by omega, by omega⟩)⟩
  by_cases c2 : b.hi.val < 0
  · rw [if_pos (.inr (by rw [(ph.2.1 c2).2.2]; decide))]
    have c3 : b.lo.val < 0 := by omega
    have hw0 : 0 < -w := by omega
    obtain ⟨l1, l2, l3⟩ := pl.2.1 c3
    obtain ⟨h1, h2, h3⟩ := ph.2.1 c2
    refine corners_has ?_ v1 v2 ?_ ?_
    · intro x hx y hy up
      simp only [List.mem_cons, List.not_mem_nil, or_false] at hx hy
      rcases hx with rfl | rfl <;> rcases hy with rfl | rfl <;> first | exact div_may ha.lom hb.lom ha.loo hb.loo (by omega) up | exact div_may ha.lom hb.him ha.loo hb.hio (by omega) up | exact div_may ha.him hb.lom ha.hio hb.loo (by omega) up | exact div_may ha.him hb.him ha.hio hb.hio (by omega) up
    · have hA : ∀ y : Num, y.neg = true → (a.hi.kind = 2 ∧ a.hi.neg ≠ y.neg) ∨ (a.hi.kind ≠ 2 ∧ (if y.neg then -(a.hi.val * pw 0) else a.hi.val * pw 0) ≤ v * (-w)) := by
        intro y hy
        by_cases g : a.hi.kind = 2
        · exact .inl ⟨g, by rw [Num.above_pos a2 g, hy]; decide⟩
        · exact .inr ⟨g, by rw [hy, em2]; have := Num.above_le a2 g; simp; omega⟩
      by_cases hv : 0 ≤ v
      · exact ⟨a.hi, by simp, b.lo, by simp, div_dn ha.him hb.lom ha.hio hb.loo (by omega) hw0 (by omega) (by omega) (hA _ l1) (.inl ⟨hv, by omega⟩)⟩
      · exact ⟨a.hi, by simp, b.hi, by simp, div_dn ha.him hb.him ha.hio hb.hio (by omega) hw0 (by omega) (by omega) (hA _ h1) (.inr ⟨by omega, by omega⟩)⟩
    · have hA : ∀ y : Num, y.neg = true → (a.lo.kind = 2 ∧ a.lo.neg = y.neg) ∨ (a.lo.kind ≠ 2 ∧ v * (-w) ≤ (if y.neg then -(a.lo.val * pw 0) else a.lo.val * pw 0)) := by
        intro y hy
        by_cases g : a.lo.kind = 2
        · exact .inl ⟨g, by rw [Num.below_neg a1 g, hy]⟩
        · exact .inr ⟨g, by rw [hy, em2]; have := Num.below_le a1 g; simp; omega⟩
      by_cases hv : 0 ≤ v
      · exact ⟨a.lo, by simp, b.hi, by simp, div_up ha.lom hb.him ha.loo hb.hio (by omega) hw0 (by omega) (by omega) (hA _ h1) (.inl ⟨hv, by omega⟩)⟩
      · exact ⟨a.lo, by simp, b.lo, by simp, div_up ha.lom hb.lom ha.loo hb.loo (by omega) hw0 (by omega) (by omega) (hA _ l1) (.inr ⟨by omega, by omega⟩)⟩
  have s1 : ¬ (0 < b.lo.sign ∨ b.hi.sign < 0) := by
    rintro (h | h)
    · rcases Int.lt_trichotomy b.lo.val 0 with g | g | g
      · have := (pl.2.1 g).2.2; omega
      · have := (pl.2.2 g).1; omega
      · exact c1 g
    · rcases Int.lt_trichotomy b.hi.val 0 with g | g | g
      · exact c2 g
      · have := (ph.2.2 g).1; omega
      · have := (ph.1 g).2.2; omega
  rw [if_neg s1]
  by_cases c3 : (b.lo.sign < 0 ∧ 0 < b.hi.sign) ∨ Iv.has a Num.zero = true
  · rw [if_pos c3]
    refine ⟨⟨rfl, Num.inf_may _, Num.inf_may _, Num.inf_ok _, Num.inf_ok _, ?_, ?_, ?_⟩, ?_, ?_⟩ <;> simp only [Iv.all, Num.val_inf] <;> simp <;> omega
  rw [if_neg c3]
  have c4 : ¬ (b.lo.sign < 0 ∧ 0 < b.hi.sign) := fun h => c3 (.inl h)
  have c5 : ¬ (a.lo.val ≤ 0 ∧ 0 ≤ a.hi.val) := fun h => c3 (.inr ((Iv.has_iff Num.zero_ok ha.loo ha.hio).2 ⟨by decide, ha, h.1, h.2⟩))
  have c6 : ¬ (b.lo.val < 0 ∧ 0 < b.hi.val) := fun h => c4 ⟨by rw [(pl.2.1 h.1).2.2]; decide, by rw [(ph.1 h.2).2.2]; decide⟩
  -- the nearest end of the dividend, the farthest one of the divisor
  have near : ∃ n, (if a.lo.sign < 0 then a.hi else a.lo) = n ∧ n.may = true ∧ n.ok ∧ n.kind ≠ 2 ∧ ((0 < n.val ∧ n.val * pw 0 ≤ v * w) ∨ (n.val < 0 ∧ v * w ≤ n.val * pw 0)) := by
    have := ha.lt; have := ha.gt; have := ha.le
    by_cases g : 0 < a.lo.val
    · have k := (Num.fin_val ha.lom ha.loo).2 ⟨by omega, by omega⟩
      exact ⟨a.lo, by rw [if_neg (by rw [(ql.1 g).2.2]; decide)], ha.lom, ha.loo, k, .inl ⟨g, Num.below_le a1 k⟩⟩
    · have g' : a.hi.val < 0 := by omega
      have k := (Num.fin_val ha.him ha.hio).2 ⟨by omega, by omega⟩
      exact ⟨a.hi, by rw [if_pos (by rw [(ql.2.1 (by omega)).2.2]; decide)], ha.him, ha.hio, k, .inr ⟨g', Num.above_le a2 k⟩⟩
  have far : ∃ f, (if b.hi.sign = 0 then b.lo else b.hi) = f ∧ f.may = true ∧ f.ok ∧ ((0 < f.val ∧ w ≤ f.val ∧ 0 < w) ∨ (f.val < 0 ∧ f.val ≤ w ∧ w < 0)) := by
    by_cases g : b.hi.val = 0
    · exact ⟨b.lo, by rw [if_pos (ph.2.2 g).1], hb.lom, hb.loo, .inr ⟨by omega, by omega, by omega⟩⟩
    · have g' : 0 < b.hi.val := by omega
      exact ⟨b.hi, by rw [if_neg (by rw [(ph.1 g').2.2]; decide)], hb.him, hb.hio, .inl ⟨by omega, by omega, by omega⟩⟩
  obtain ⟨n, en, nm, no, nk, n1⟩ := near
  obtain ⟨f, ef, fm, fo, f1⟩ := far
  rw [en, ef]
  have p0 := pw_pos 0
  have pn := Num.val_pos nm no
  have pf := Num.val_pos fm fo
  have vs : (0 < v * w → (0 < w → 0 < v) ∧ (w < 0 → v < 0)) ∧ (v * w < 0 → (0 < w → v < 0) ∧ (w < 0 → 0 < v)) := by
    refine ⟨fun h => ⟨fun g => ?_, fun g => ?_⟩, fun h => ⟨fun g => ?_, fun g => ?_⟩⟩
    · rcases Int.lt_or_le 0 v with k | k
      · exact k
      · have := Int.mul_nonneg (show 0 ≤ -v by omega) (show 0 ≤ w by omega); rw [Int.neg_mul] at this; omega
    · rcases Int.lt_or_le v 0 with k | k
      · exact k
      · have := Int.mul_nonneg k (show 0 ≤ -w by omega); rw [Int.mul_neg] at this; omega
    · rcases Int.lt_or_le v 0 with k | k
      · exact k
      · have := Int.mul_nonneg k (show 0 ≤ w by omega); omega
    · rcases Int.lt_or_le 0 v with k | k
      · exact k
      · have := Int.mul_nonneg (show 0 ≤ -v by omega) (show 0 ≤ -w by omega); rw [em] at this; omega
  have xs : (0 < n.val → 0 < v * w) ∧ (n.val < 0 → v * w < 0) := by
    constructor
    · intro g
      have := Int.mul_pos g p0
      rcases n1 with h | h <;> omega
    · intro g
      have := Int.mul_neg_of_neg_of_pos g p0
      rcases n1 with h | h <;> omega
  have fin : ∀ r : Num, r.may = true → r.ok → r.val ≤ v → (Iv.make r (Num.inf false)).Real ∧ (Iv.make r (Num.inf false)).lo.val ≤ v ∧ v ≤ (Iv.make r (Num.inf false)).hi.val := by
    intro r m o h
    have R : (Iv.mk false r.fair (Num.inf false).fair).Real := by
      rw [Num.fair_of_may m, Num.fair_of_may (Num.inf_may _)]
      refine ⟨rfl, m, Num.inf_may _, o, Num.inf_ok _, ?_, ?_, ?_⟩ <;> (try simp only [Num.val_inf]) <;> (try simp) <;> omega
    rw [Iv.make_real R]
    refine ⟨R, by show r.fair.val ≤ v; rw [Num.fair_of_may m]; exact h, ?_⟩
    show v ≤ (Num.inf false).fair.val
    rw [Num.fair_of_may (Num.inf_may _)]; show v ≤ pw 1048640; omega
  have fin' : ∀ r : Num, r.may = true → r.ok → v ≤ r.val → (Iv.make (Num.inf true) r).Real ∧ (Iv.make (Num.inf true) r).lo.val ≤ v ∧ v ≤ (Iv.make (Num.inf true) r).hi.val := by
    intro r m o h
    have R : (Iv.mk false (Num.inf true).fair r.fair).Real := by
      rw [Num.fair_of_may m, Num.fair_of_may (Num.inf_may _)]
      refine ⟨rfl, Num.inf_may _, m, Num.inf_ok _, o, ?_, ?_, ?_⟩ <;> (try simp only [Num.val_inf]) <;> (try simp) <;> omega
    rw [Iv.make_real R]
    refine ⟨R, ?_, by show v ≤ r.fair.val; rw [Num.fair_of_may m]; exact h⟩
    show (Num.inf true).fair.val ≤ v
    rw [Num.fair_of_may (Num.inf_may _)]; show -pw 1048640 ≤ v; omega
  unfold Iv.half
  rcases n1 with ⟨g1, g2⟩ | ⟨g1, g2⟩ <;> rcases f1 with ⟨k1, k2, k3⟩ | ⟨k1, k2, k3⟩
  · obtain ⟨t1, t2, t3⟩ := pn.1 g1
    obtain ⟨u1, u2, u3⟩ := pf.1 k1
    rw [if_pos (by omega)]
    have m := div_may nm fm no fo (show f.val ≠ 0 by omega) false
    have vp := (vs.1 (xs.1 g1)).1 k3
    exact fin _ m.1 m.2 (div_dn nm fm no fo (by omega) k3 w2 (by omega) (.inr ⟨nk, by rw [u1]; exact g2⟩) (.inl ⟨by omega, by omega⟩))
  · obtain ⟨t1, t2, t3⟩ := pn.1 g1
    obtain ⟨u1, u2, u3⟩ := pf.2.1 k1
    rw [if_neg (by omega)]
    have m := div_may nm fm no fo (show f.val ≠ 0 by omega) true
    have vp := (vs.1 (xs.1 g1)).2 k3
    exact fin' _ m.1 m.2 (div_up (w := -w) nm fm no fo (by omega) (by omega) (by omega) (by omega) (.inr ⟨nk, by rw [u1, em2]; simp; omega⟩) (.inr ⟨by omega, by omega⟩))
  · obtain ⟨t1, t2, t3⟩ := pn.2.1 g1
    obtain ⟨u1, u2, u3⟩ := pf.1 k1
    rw [if_neg (by omega)]
    have m := div_may nm fm no fo (show f.val ≠ 0 by omega) true
    have vp := (vs.2 (xs.2 g1)).1 k3
    exact fin' _ m.1 m.2 (div_up nm fm no fo (by omega) k3 w2 (by omega) (.inr ⟨nk, by rw [u1]; exact g2⟩) (.inr ⟨by omega, by omega⟩))
  · obtain ⟨t1, t2, t3⟩ := pn.2.1 g1
    obtain ⟨u1, u2, u3⟩ := pf.2.1 k1
    rw [if_pos (by omega)]
    have m := div_may nm fm no fo (show f.val ≠ 0 by omega) false
    have vp := (vs.2 (xs.2 g1)).2 k3
    exact fin _ m.1 m.2 (div_dn (w := -w) nm fm no fo (by omega) (by omega) (by omega) (by omega) (.inr ⟨nk, by rw [u1, em2]; simp; omega⟩) (.inl ⟨by omega, by omega⟩))

theorem Iv.point_real {n : Num} (m : n.may = true) (o : n.ok) (k : n.kind ≠ 2) : Iv.point n = ⟨false, n, n⟩ ∧ (Iv.mk false n n).Real := by
  have k' := (Num.fin_val m o).1 k
  have R : (Iv.mk false n n).Real := ⟨rfl, m, m, o, o, Int.le_refl _, k'.2, k'.1⟩
  refine ⟨?_, R⟩
  unfold Iv.point
  rw [Iv.make_real (by rw [Num.fair_of_may m]; exact R), Num.fair_of_may m]

theorem Iv.mul_points {y z : Num} (my : y.may = true) (mz : z.may = true) (oy : y.ok) (oz : z.ok) (ky : y.kind ≠ 2) (kz : z.kind ≠ 2) :
    (Iv.mul (Iv.point y) (Iv.point z)).Real ∧ (Iv.mul (Iv.point y) (Iv.point z)).lo.below (y.val * z.val) ∧ (Iv.mul (Iv.point y) (Iv.point z)).hi.above (y.val * z.val) := by
  obtain ⟨ey, ry⟩ := Iv.point_real my oy ky
  obtain ⟨ez, rz⟩ := Iv.point_real mz oz kz
  rw [ey, ez]
  unfold Iv.mul
  rw [Iv.anyBad2 ry rz, if_neg (by decide)]
  unfold Iv.corners
  dsimp only
  have d := mul_side my mz oy oz ky kz false
  have u := mul_side my mz oy oz ky kz true
  generalize Num.mul y z false = p at *
  generalize Num.mul y z true = q at *
  obtain ⟨d1, d2⟩ := d.down rfl
  obtain ⟨u1, u2⟩ := u.up rfl
  have p0 := pw_pos 0
  have P := pw_pos 1048640
  obtain ⟨l1, l2, l3, l4⟩ := Num.least_spec [p, p, p, p] (by simp [d.ok])
  obtain ⟨m1, m2, m3, m4⟩ := Num.most_spec [q, q, q, q] (by simp [u.ok])
  have dv := (Num.ne_inf d.may d.ok).1.1 d1
  have uv := (Num.ne_inf u.may u.ok).2.1 u1
  have el : Num.least [p, p, p, p] = p := by
    have a := l3 p (by simp)
    rw [Num.fair_of_may d.may] at a
    rcases l4 with l4 | ⟨x, hx, l4⟩
    · rw [l4, Num.val_inf] at a; simp at a; omega
    · have : x = p := by simpa using hx
      rw [l4, this, Num.fair_of_may d.may]
  have em : Num.most [q, q, q, q] = q := by
    have a := m3 q (by simp)
    rw [Num.fair_of_may u.may] at a
    rcases m4 with m4 | ⟨x, hx, m4⟩
    · rw [m4, Num.val_inf] at a; simp at a; omega
    · have : x = q := by simpa using hx
      rw [m4, this, Num.fair_of_may u.may]
  rw [el, em]
  have pk : p = Num.inf true ∨ (p.kind ≠ 2 ∧ p.val * pw 0 ≤ y.val * z.val) := by
    rcases d2 with h | h
    · exact .inl h
    · by_cases hk : p.kind = 2
      · rcases Num.inf_val d.may d.ok hk with g | g
        · exact .inl (by rw [Num.inf_of d.may d.ok hk, g.1])
        · exact absurd (by rw [Num.inf_of d.may d.ok hk, g.1]) d1
      · exact .inr ⟨hk, h⟩
  have qk : q = Num.inf false ∨ (q.kind ≠ 2 ∧ y.val * z.val ≤ q.val * pw 0) := by
    rcases u2 with h | h
    · exact .inl h
    · by_cases hk : q.kind = 2
      · rcases Num.inf_val u.may u.ok hk with g | g
        · exact absurd (by rw [Num.inf_of u.may u.ok hk, g.1]) u1
        · exact .inl (by rw [Num.inf_of u.may u.ok hk, g.1])
      · exact .inr ⟨hk, h⟩
  have le : p.val ≤ q.val := by
    rcases pk with h | h
    · rw [h, Num.val_inf]; have := Num.val_le u.may u.ok; simp; omega
    · rcases qk with k | k
      · rw [k, Num.val_inf]; have := Num.val_le d.may d.ok; simp; omega
      · exact Int.le_of_mul_le_mul_right (Int.le_trans h.2 k.2) p0
  have R : (Iv.mk false p.fair q.fair).Real := by
    rw [Num.fair_of_may d.may, Num.fair_of_may u.may]
    exact ⟨rfl, d.may, u.may, d.ok, u.ok, le, dv, uv⟩
  rw [Iv.make_real R]
  refine ⟨R, ?_, ?_⟩
  · show p.fair.below _; rw [Num.fair_of_may d.may]; exact pk
  · show q.fair.above _; rw [Num.fair_of_may u.may]; exact qk

/-- a number times a divisor, divided by it, is within the quotient -/
theorem quotients {b : Iv} {y z : Num} (oy : y.ok) (oz : z.ok) (o1 : b.lo.ok) (o2 : b.hi.ok) (h1 : Iv.has b y = true) (h2 : y.sign ≠ 0) (h3 : z.kind ≠ 2) (h4 : z.may = true) :
    Iv.has (Iv.div (Iv.mul (Iv.point y) (Iv.point z)) b) z = true := by
  obtain ⟨k, R, l, u⟩ := (Iv.has_iff oy o1 o2).1 h1
  have my : y.may = true := by
    cases hh : y.may
    · exfalso; apply h2
      have e : y.fair = Num.zero := by unfold Num.fair; rw [if_neg (by simp [hh])]
      unfold Num.sign; rw [e]; rfl
    · rfl
  rw [Num.fair_of_may my] at k l u
  obtain ⟨r1, r2, r3⟩ := Iv.mul_points my h4 oy oz k h3
  have vy := (Num.fin_val my oy).1 k
  have vz := (Num.fin_val h4 oz).1 h3
  have hy : y.val ≠ 0 := fun g => h2 ((Num.val_pos my oy).2.2 g).1
  rw [Int.mul_comm] at r2 r3
  obtain ⟨q1, q2, q3⟩ := Iv.div_has r1 R hy l u vy.1 vy.2 vz.1 vz.2 r2 r3
  exact (Iv.has_iff oz q1.loo q1.hio).2 ⟨by rw [Num.fair_of_may h4]; exact h3, q1, by rw [Num.fair_of_may h4]; exact q2, by rw [Num.fair_of_may h4]; exact q3⟩
end Go.Proofs.YtpadpcjdakfokaaGreatDoor.Ev

/- Whole numbers as numbers, the opposite, how far from nought, the square: plain Lean. -/
namespace Go.Proofs.YtpadpcjdakfokaaGreatDoor.Ev
open Go

theorem E_br_t {P : Program} {E : Env} (hE : E = realE P) {c : Bool} {t f : Unit → Prop} (h : c = true) (ht : t ()) : E.br c t f := by
  subst hE; exact ⟨fun _ => ht, fun h' => (by rw [h] at h'; cases h')⟩
theorem E_br_f {P : Program} {E : Env} (hE : E = realE P) {c : Bool} {t f : Unit → Prop} (h : c = false) (hf : f ()) : E.br c t f := by
  subst hE; exact ⟨fun h' => (by rw [h] at h'; cases h'), fun _ => hf⟩

def Num.ofInt (n : Int) : Num :=
  if n = 0 then Num.zero else ⟨1, decide (n < 0), IntKind.u64.wrap ((n.natAbs : Int) * 2 ^ min (Int.toNat (64 - blen n.natAbs)) IntKind.u64.bits), IntKind.i64.wrap (0 - (64 - blen n.natAbs))⟩
def Iv.neg (a : Iv) : Iv := if Iv.anyBad [a] then Iv.none else Iv.make a.hi.opp a.lo.opp
theorem wabs_neg {n : Int} (h0 : -9223372036854775808 ≤ n) (h : n < 0) : IntKind.u64.wrap (0 - IntKind.u64.wrap n) = (n.natAbs : Int) := by
  simp only [wu64]; omega
theorem wabs_pos {n : Int} (h0 : 0 ≤ n) (h : n < 9223372036854775808) : IntKind.u64.wrap n = (n.natAbs : Int) := by
  simp only [wu64]; omega
theorem Num.ofInt_ok (n : Int) : (Num.ofInt n).ok := by
  unfold Num.ofInt
  split
  · exact Num.zero_ok
  · constructor <;> (simp only [wu64]; omega)

theorem Iv.make_ok {lo hi : Num} (h1 : lo.ok) (h2 : hi.ok) : (Iv.make lo hi).lo.ok ∧ (Iv.make lo hi).hi.ok := by
  rcases Iv.make_cases h1 h2 with ⟨e, _⟩ | ⟨e, R⟩
  · rw [e]; exact ⟨Num.zero_ok, Num.zero_ok⟩
  · rw [e]; exact ⟨R.loo, R.hio⟩
theorem Iv.corners_ok {F : Num → Num → Bool → Num} {a b : Iv} (h : ∀ x ∈ [a.lo, a.hi], ∀ y ∈ [b.lo, b.hi], ∀ up, (F x y up).ok) : (Iv.corners F a b).lo.ok ∧ (Iv.corners F a b).hi.ok := by
  refine Iv.make_ok (Num.least_spec _ ?_).2.1 (Num.most_spec _ ?_).2.1 <;>
  · intro x hx
    simp only [List.mem_cons, List.not_mem_nil, or_false] at hx
    rcases hx with rfl | rfl | rfl | rfl <;> exact h _ (by simp) _ (by simp) _
theorem Num.mul_ok {a b : Num} (ha : a.ok) (hb : b.ok) (up : Bool) : (Num.mul a b up).ok := by
  unfold Num.mul
  split
  · exact Num.zero_ok
  · split
    · exact Num.inf_ok _
    · have fa := Num.fin_of (n := a) (by omega) (by omega)
      have fb := Num.fin_of (n := b) (by omega) (by omega)
      have oa := Num.fair_ok ha
      have ob := Num.fair_ok hb
      exact (mulF_side ⟨fa.1, fa.2.1, oa.2, fa.2.2.1, fa.2.2.2⟩ ⟨fb.1, fb.2.1, ob.2, fb.2.2.1, fb.2.2.2⟩ up).ok
theorem Iv.mul_ok {a b : Iv} (h1 : a.lo.ok) (h2 : a.hi.ok) (h3 : b.lo.ok) (h4 : b.hi.ok) : (Iv.mul a b).lo.ok ∧ (Iv.mul a b).hi.ok := by
  unfold Iv.mul
  split
  · exact ⟨Num.zero_ok, Num.zero_ok⟩
  · refine Iv.corners_ok ?_
    intro x hx y hy up
    simp only [List.mem_cons, List.not_mem_nil, or_false] at hx hy
    rcases hx with rfl | rfl <;> rcases hy with rfl | rfl <;> exact Num.mul_ok (by assumption) (by assumption) up

end Go.Proofs.YtpadpcjdakfokaaGreatDoor.Ev

/- Contracts of the reference: the product of two numbers. Printed by gen.py. -/
namespace Go.Proofs.YtpadpcjdakfokaaGreatDoor.Ev
open Go Go.Proofs
set_option linter.unusedVariables false
set_option linter.unusedSimpArgs false

attribute [local irreducible] Lb
theorem k_rRound (p : Bool × Nat × Int) (up : Bool) (hp : (lim p.2.1).length ≤ 62500) (ep : -9223372036854775808 ≤ p.2.2 ∧ p.2.2 < 9223372036854775808) (x : Bool × List Int × Int) (hx : x = dyL p) : ∃ t : Num, t = dyRound p up ∧
    CallsA Tryz.prog 136 [.agg [.bool (.s x.1), .sli .u32 x.2.1, .int .i64 (.s x.2.2)], .bool (.s up)] t.av := by
  subst hx
  obtain ⟨t, ht, hC⟩ := c_rRound p.1 (lim p.2.1) p.2.2 up (lim_lb _) hp ep
  refine ⟨t, ?_, hC⟩
  rw [ht, lv_lim]; rfl
end Go.Proofs.YtpadpcjdakfokaaGreatDoor.Ev

/- Sums and differences of two numbers, the parts: plain Lean. -/
namespace Go.Proofs.YtpadpcjdakfokaaGreatDoor.Ev
open Go

structure Dbl where
  hi : Int
  lo : Int
  cut : Bool
def Dbl.av (d : Dbl) : AV := .agg [.int .u64 (.s d.hi), .int .u64 (.s d.lo), .bool (.s d.cut)]
theorem Dbl.fin {t r : Dbl} (h : t = r) : t.hi = r.hi ∧ t.lo = r.lo ∧ t.cut = r.cut ∧ True := by subst h; exact ⟨rfl, rfl, rfl, trivial⟩

/-- 64 bits moved down by some: 128 bits, and was something cut off? -/
def lowerP (m k : Int) : Dbl := ⟨m * 18446744073709551616 / 2 ^ k.toNat / 18446744073709551616, m * 18446744073709551616 / 2 ^ k.toNat % 18446744073709551616, decide (m * 18446744073709551616 % 2 ^ k.toNat ≠ 0)⟩

theorem two_pos (n : Nat) : (0 : Int) < 2 ^ n := Int.pow_pos (by decide)
theorem two_64 {k : Int} (h : 0 ≤ k) (h' : k ≤ 64) : (18446744073709551616 : Int) = 2 ^ (64 - k).toNat * 2 ^ k.toNat := by
  rw [← Int.pow_add, show (64 - k).toNat + k.toNat = 64 by omega]; rfl
/-- the sum of two of one sign: 128 bits, or one more -/
def plusX (a b : Num) : Int := a.m * 18446744073709551616 + b.m * 18446744073709551616 / 2 ^ (a.e - b.e).toNat
def plusC (a b : Num) : Bool := decide (b.m * 18446744073709551616 % 2 ^ (a.e - b.e).toNat ≠ 0)
def plusP (a b : Num) (up : Bool) : Num :=
  if plusX a b < 340282366920938463463374607431768211456 then Num.grow a.neg (plusX a b / 18446744073709551616) a.e (plusC a b || decide (plusX a b % 18446744073709551616 ≠ 0)) (up != a.neg)
  else Num.grow a.neg (plusX a b / 36893488147419103232) (a.e + 1) (plusC a b || decide (plusX a b % 36893488147419103232 ≠ 0)) (up != a.neg)

section
variable {a b : Num} {up : Bool} {D : Dbl}
end
end Go.Proofs.YtpadpcjdakfokaaGreatDoor.Ev

/- Division of two words by one: plain Lean. -/
namespace Go.Proofs.YtpadpcjdakfokaaGreatDoor.Ev
open Go

section
variable {y u un q r : Int}

end
end Go.Proofs.YtpadpcjdakfokaaGreatDoor.Ev

/- The difference of two numbers: plain Lean. -/
namespace Go.Proofs.YtpadpcjdakfokaaGreatDoor.Ev
open Go

def minusZ (a b : Num) : Int := a.m * 18446744073709551616 - b.m * 18446744073709551616 / 2 ^ (a.e - b.e).toNat - (if plusC a b then 1 else 0)
def minusP (a b : Num) (up : Bool) : Num :=
  Num.grow a.neg (minusZ a b * 2 ^ (128 - blen (minusZ a b)).toNat / 18446744073709551616) (a.e - (128 - blen (minusZ a b))) (plusC a b || decide (minusZ a b * 2 ^ (128 - blen (minusZ a b)).toNat % 18446744073709551616 ≠ 0)) (up != a.neg)

section
variable {a b : Num} {up : Bool} {D : Dbl}
theorem minus_parts (ha : a.Fin) (hb : b.Fin) (hk : b.e ≤ a.e) (hgt : b.e < a.e ∨ b.m < a.m) (hD : D = lowerP b.m (a.e - b.e)) {c lo br hi : Int} (hc : c = if D.cut then 1 else 0)
    (hlo : lo = (0 - D.lo - c) % 18446744073709551616) (hbr : br = if 0 < D.lo + c then 1 else 0) (hhi : hi = (a.m - D.hi - br) % 18446744073709551616) :
    0 < minusZ a b ∧ minusZ a b < 340282366920938463463374607431768211456 ∧ hi = minusZ a b / 18446744073709551616 ∧ lo = minusZ a b % 18446744073709551616 ∧ D.cut = plusC a b := by
  have := ha.lo; have := ha.hi; have := hb.lo; have := hb.hi
  have p := two_pos (a.e - b.e).toNat
  have n := Int.ediv_nonneg (show 0 ≤ b.m * 18446744073709551616 by omega) (Int.le_of_lt p)
  have l := Int.ediv_mul_le (b.m * 18446744073709551616) (show (2 : Int) ^ (a.e - b.e).toNat ≠ 0 by omega)
  have hcut : D.cut = plusC a b := by rw [hD]; rfl
  have hcc : c = if plusC a b then 1 else 0 := by rw [hc, hcut]
  have key : b.m * 18446744073709551616 / 2 ^ (a.e - b.e).toNat + c < a.m * 18446744073709551616 := by
    by_cases he : a.e = b.e
    · have e0 : (2 : Int) ^ (a.e - b.e).toNat = 1 := by rw [show (a.e - b.e).toNat = 0 by omega]; rfl
      have : plusC a b = false := by unfold plusC; rw [e0]; simp
      rw [this] at hcc
      rw [e0]
      simp at hcc ⊢
      omega
    · have two : (2 : Int) ≤ 2 ^ (a.e - b.e).toNat := by
        have := Nat.pow_le_pow_right (n := 2) (by omega) (show 1 ≤ (a.e - b.e).toNat by omega)
        exact_mod_cast this
      have := Int.mul_le_mul_of_nonneg_left two n
      have c1 : c ≤ 1 := by rw [hc]; split <;> decide
      omega
  have z : minusZ a b = a.m * 18446744073709551616 - b.m * 18446744073709551616 / 2 ^ (a.e - b.e).toNat - c := by unfold minusZ; rw [hcc]
  have h1 : D.hi = b.m * 18446744073709551616 / 2 ^ (a.e - b.e).toNat / 18446744073709551616 := by rw [hD]; rfl
  have h2 : D.lo = b.m * 18446744073709551616 / 2 ^ (a.e - b.e).toNat % 18446744073709551616 := by rw [hD]; rfl
  rw [z]
  have c0 : c = 0 ∨ c = 1 := by rw [hc]; split <;> simp
  generalize b.m * 18446744073709551616 / 2 ^ (a.e - b.e).toNat = L at *
  refine ⟨by omega, by omega, ?_, ?_, hcut⟩
  · rw [hhi, hbr, h1, h2]; split <;> omega
  · rw [hlo, h2]; omega

theorem min_64 {s : Int} (h : s ≤ 64) : min s.toNat IntKind.u64.bits = s.toNat := by show min s.toNat 64 = _; omega
end
end Go.Proofs.YtpadpcjdakfokaaGreatDoor.Ev

/- The sum of two numbers: plain Lean. -/
namespace Go.Proofs.YtpadpcjdakfokaaGreatDoor.Ev
open Go

def Num.addS (a b : Num) (up : Bool) : Num := if a.neg = b.neg then plusP a b up else if a.e = b.e ∧ a.m = b.m then Num.zero else minusP a b up
def Num.addF (a b : Num) (up : Bool) : Num := if a.e < b.e ∨ (a.e = b.e ∧ a.m < b.m) then Num.addS b a up else Num.addS a b up
def Num.add (a b : Num) (up : Bool) : Num :=
  if a.fair.kind = 2 ∧ b.fair.kind = 2 ∧ a.fair.neg ≠ b.fair.neg then Num.inf (!up)
  else if a.fair.kind = 2 ∨ b.fair.kind = 0 then a.fair else if b.fair.kind = 2 ∨ a.fair.kind = 0 then b.fair else Num.addF a.fair b.fair up
end Go.Proofs.YtpadpcjdakfokaaGreatDoor.Ev

/- The sum of intervals: plain Lean. -/
namespace Go.Proofs.YtpadpcjdakfokaaGreatDoor.Ev
open Go

def Iv.addStep (p : Num × Num) (x : Iv) : Num × Num := (Num.add p.1 x.lo false, Num.add p.2 x.hi true)
def Iv.addEnds : List Iv → Num × Num
  | [] => (Num.zero, Num.zero)
  | x :: r => r.foldl Iv.addStep (x.lo, x.hi)
def Iv.add (l : List Iv) : Iv := if Iv.anyBad l then Iv.none else Iv.make (Iv.addEnds l).1 (Iv.addEnds l).2
end Go.Proofs.YtpadpcjdakfokaaGreatDoor.Ev

/- Whole numbers as numbers are exact: plain Lean. -/
namespace Go.Proofs.YtpadpcjdakfokaaGreatDoor.Ev
open Go

theorem norm_64 {x : Int} (h : 0 < x) (h' : x < 18446744073709551616) : 0 ≤ 64 - blen x ∧ 64 - blen x < 64 ∧ 9223372036854775808 ≤ x * 2 ^ (64 - blen x).toNat ∧ x * 2 ^ (64 - blen x).toNat < 18446744073709551616 := by
  obtain ⟨n, n1, n2, n3⟩ := blen_pos h
  have bl := blen_le 64 (x := x) (by omega)
  have q := two_pos (64 - blen x).toNat
  refine ⟨by omega, by omega, ?_, ?_⟩
  · have g : (9223372036854775808 : Int) = 2 ^ n * 2 ^ (64 - blen x).toNat := by
      rw [← Int.pow_add, show n + (64 - blen x).toNat = 63 by omega]; rfl
    rw [g]
    exact Int.mul_le_mul_of_nonneg_right n2 (Int.le_of_lt q)
  · have g : (18446744073709551616 : Int) = 2 ^ (n + 1) * 2 ^ (64 - blen x).toNat := by
      rw [← Int.pow_add, show n + 1 + (64 - blen x).toNat = 64 by omega]; rfl
    rw [g]
    exact Int.mul_lt_mul_of_pos_right n3 q
theorem ofInt_fin {n : Int} (h : n ≠ 0) (h' : n.natAbs < 18446744073709551616) : (Num.ofInt n).Fin ∧ (Num.ofInt n).W = n.natAbs * pw 0 ∧ (Num.ofInt n).neg = decide (n < 0) := by
  obtain ⟨a1, a2, a3, a4⟩ := norm_64 (x := (n.natAbs : Int)) (by omega) (by omega)
  have e : Num.ofInt n = ⟨1, decide (n < 0), (n.natAbs : Int) * 2 ^ (64 - blen n.natAbs).toNat, -(64 - blen n.natAbs)⟩ := by
    unfold Num.ofInt
    rw [if_neg h, min_64 (by omega), show IntKind.u64.wrap ((n.natAbs : Int) * 2 ^ (64 - blen n.natAbs).toNat) = (n.natAbs : Int) * 2 ^ (64 - blen n.natAbs).toNat by (rw [wu64]; omega),
      show IntKind.i64.wrap (0 - (64 - blen n.natAbs)) = -(64 - blen n.natAbs) by (rw [wi64]; omega)]
  rw [e]
  have f : (Num.mk 1 (decide (n < 0)) ((n.natAbs : Int) * 2 ^ (64 - blen n.natAbs).toNat) (-(64 - blen n.natAbs))).Fin := ⟨rfl, a3, a4, by show -1048576 ≤ -(64 - blen n.natAbs); omega, by show -(64 - blen n.natAbs) ≤ 1048576; omega⟩
  refine ⟨f, ?_, rfl⟩
  rw [f.W]
  show (n.natAbs : Int) * 2 ^ (64 - blen n.natAbs).toNat * pw (-(64 - blen n.natAbs)) = _
  have p := pw_add (e := -(64 - blen n.natAbs)) (f := 64 - blen n.natAbs) (by omega) a1
  rw [show -(64 - blen (n.natAbs : Int)) + (64 - blen n.natAbs) = 0 by omega] at p
  rw [p]; grind
theorem ofInt_val {n : Int} (h' : n.natAbs < 18446744073709551616) : (Num.ofInt n).val = n * pw 0 := by
  by_cases h : n = 0
  · subst h; show Num.zero.val = _; rw [Num.val_zero, Int.zero_mul]
  · obtain ⟨_, w, s⟩ := ofInt_fin h h'
    unfold Num.val
    rw [w, s]
    by_cases hn : n < 0
    · rw [if_pos (by simpa using hn), show n = -(n.natAbs : Int) by omega]
      rw [show ((-(n.natAbs : Int)).natAbs : Int) = n.natAbs by omega, Int.neg_mul]
    · rw [if_neg (by simpa using hn), show (n.natAbs : Int) = n by omega]

end Go.Proofs.YtpadpcjdakfokaaGreatDoor.Ev

/- What a rounded number is: of all numbers on its side of the exact one the nearest. Plain Lean. -/
namespace Go.Proofs.YtpadpcjdakfokaaGreatDoor.Ev
open Go

/-- the nearest one on a side of t / c -/
structure Best (r : Num) (up : Bool) (t c : Int) : Prop where
  may : r.may = true
  ok : r.ok
  down : up = false → r ≠ Num.inf false ∧ (r = Num.inf true ∨ r.val * c ≤ t)
  dopt : up = false → ∀ s : Num, s.may = true → s.ok → s ≠ Num.inf false → s.val * c ≤ t → s.val ≤ r.val
  uopt : up = true → ∀ s : Num, s.may = true → s.ok → s ≠ Num.inf true → t ≤ s.val * c → r.val ≤ s.val
  hi : up = true → r ≠ Num.inf true ∧ (r = Num.inf false ∨ t ≤ r.val * c)

theorem Best.side {r : Num} {up : Bool} {t c : Int} (h : Best r up t c) : Side r up t c := ⟨h.may, h.ok, h.down, h.hi⟩

theorem Best.mono {r r' : Num} {up : Bool} {t c t' c' : Int} (h : Best r up t c) (h' : Best r' up t' c') (hc : 0 < c) (hc' : 0 < c') (ht : t * c' ≤ t' * c) : r.val ≤ r'.val := by
  have key : ∀ v : Int, v * c ≤ t → v * c' ≤ t' := by
    intro v hv
    have h1 : v * c * c' ≤ t * c' := Int.mul_le_mul_of_nonneg_right hv (Int.le_of_lt hc')
    refine Int.le_of_mul_le_mul_right (a := c) ?_ hc
    have : v * c' * c = v * c * c' := by grind
    omega
  have key2 : ∀ v : Int, t' ≤ v * c' → t ≤ v * c := by
    intro v hv
    have h1 : t' * c ≤ v * c' * c := Int.mul_le_mul_of_nonneg_right hv (Int.le_of_lt hc)
    refine Int.le_of_mul_le_mul_right (a := c') ?_ hc'
    have : v * c' * c = v * c * c' := by grind
    omega
  cases up with
  | false =>
    obtain ⟨d1, d2⟩ := h.down rfl
    rcases d2 with d2 | d2
    · have := (Num.val_le h'.may h'.ok).1
      rw [d2, Num.val_inf]
      simpa using this
    · exact h'.dopt rfl r h.may h.ok d1 (key _ d2)
  | true =>
    obtain ⟨d1, d2⟩ := h'.hi rfl
    rcases d2 with d2 | d2
    · have := (Num.val_le h.may h.ok).2
      rw [d2, Num.val_inf]
      simpa using this
    · exact h.uopt rfl r' h'.may h'.ok d1 (key2 _ d2)

theorem Best.uniq {r r' : Num} {up : Bool} {t c t' c' : Int} (h : Best r up t c) (h' : Best r' up t' c') (hc : 0 < c) (hc' : 0 < c') (ht : t * c' = t' * c) : r = r' :=
  Num.val_inj h.may h'.may h.ok h'.ok (Int.le_antisymm (h.mono h' hc hc' (by omega)) (h'.mono h hc' hc (by omega)))

/-- what is a number is not rounded -/
theorem Best.exact {r s : Num} {up : Bool} {t c : Int} (h : Best r up t c) (hc : 0 < c) (ms : s.may = true) (os : s.ok) (ks : s.kind ≠ 2) (ht : s.val * c = t) : r = s := by
  have n : ∀ b, s ≠ Num.inf b := fun b g => ks (by rw [g]; rfl)
  refine h.uniq (t' := s.val) (c' := 1) ⟨ms, os, fun _ => ⟨n _, .inr (by omega)⟩, fun _ x _ _ _ hx => by omega, fun _ x _ _ _ hx => by omega, fun _ => ⟨n _, .inr (by omega)⟩⟩ hc (by decide) (by omega)

/-- down is not above up -/
theorem Best.le {r r' : Num} {t c : Int} (h : Best r false t c) (h' : Best r' true t c) (hc : 0 < c) : r.val ≤ r'.val := by
  obtain ⟨d1, d2⟩ := h.down rfl
  obtain ⟨e1, e2⟩ := h'.hi rfl
  rcases d2 with d2 | d2
  · have := (Num.val_le h'.may h'.ok).1
    rw [d2, Num.val_inf]
    simpa using this
  · rcases e2 with e2 | e2
    · have := (Num.val_le h.may h.ok).2
      rw [e2, Num.val_inf]
      simpa using this
    · exact Int.le_of_mul_le_mul_right (a := c) (by omega) hc

/-! ### the grid of numbers of 64 bits -/
theorem pw_split {e f : Int} (h : -8388608 ≤ e) (h2 : e ≤ f) : pw f = 2 ^ (f - e).toNat * pw e := by
  have := pw_add (e := e) (f := f - e) h (by omega)
  rw [show e + (f - e) = f by omega] at this
  rw [this, Int.mul_comm]

theorem grid_dn {s : Num} (ms : s.may = true) (os : s.ok) (ks : s.kind ≠ 2) {m e : Int} (hm : 9223372036854775808 ≤ m) (he : -4194303 ≤ e) (h : s.W < (m + 1) * pw e) : s.W ≤ m * pw e := by
  have p := pw_pos e
  rcases Num.may3 ms os with k | k | k
  · rw [k, Num.zero_W]; exact Int.mul_nonneg (by omega) (Int.le_of_lt p)
  · rw [k.W] at h ⊢
    have := k.hi; have := k.elo
    rcases Int.lt_or_le s.e e with g | g
    · exact Int.le_of_lt (lex_lt hm k.hi (by omega) g)
    · rw [pw_split (by omega) g, ← Int.mul_assoc] at h ⊢
      have := Int.lt_of_mul_lt_mul_right h (Int.le_of_lt p)
      exact Int.mul_le_mul_of_nonneg_right (by omega) (Int.le_of_lt p)
  · rw [k] at ks; simp [Num.inf] at ks

theorem grid_up {s : Num} (ms : s.may = true) (os : s.ok) {m e : Int} (hm : 9223372036854775808 ≤ m) (he : -4194303 ≤ e) (h : m * pw e < s.W) : (m + 1) * pw e ≤ s.W := by
  have p := pw_pos e
  have up : ∀ (N f : Int), e ≤ f → m * pw e < N * pw f → (m + 1) * pw e ≤ N * pw f := by
    intro N f hf hN
    rw [pw_split (by omega) hf, ← Int.mul_assoc] at hN ⊢
    have := Int.lt_of_mul_lt_mul_right hN (Int.le_of_lt p)
    exact Int.mul_le_mul_of_nonneg_right (by omega) (Int.le_of_lt p)
  rcases Num.may3 ms os with k | k | k
  · rw [k, Num.zero_W] at h
    have := Int.mul_nonneg (show 0 ≤ m by omega) (Int.le_of_lt p)
    omega
  · rw [k.W] at h ⊢
    have := k.hi; have := k.elo
    rcases Int.lt_or_le s.e e with g | g
    · have := lex_lt hm k.hi (by omega) g
      omega
    · exact up _ _ g h
  · rw [k, Num.inf_W] at h ⊢
    rcases Int.lt_or_le 1048640 e with g | g
    · have h1 := pw_lt (e := 1048640) (by decide) g
      have h2 : 1 * pw e ≤ m * pw e := Int.mul_le_mul_of_nonneg_right (by omega) (Int.le_of_lt p)
      have := pw_pos 1048640
      omega
    · have := up 1 1048640 g (by omega)
      omega

theorem W_nn (s : Num) (ms : s.may = true) (os : s.ok) : 0 ≤ s.W := by
  rcases Num.may3 ms os with k | k | k
  · rw [k, Num.zero_W]; exact Int.le_refl _
  · exact Int.le_of_lt k.lt.1
  · rw [k, Num.inf_W]; exact Int.le_of_lt (pw_pos _)

theorem W_huge {s : Num} (ms : s.may = true) (os : s.ok) (ks : s.kind ≠ 2) : s.W ≤ 18446744073709551615 * pw 1048576 := by
  rcases Num.may3 ms os with k | k | k
  · rw [k, Num.zero_W]; exact Int.mul_nonneg (by decide) (Int.le_of_lt (pw_pos _))
  · rw [k.W]
    have h1 := k.hi; have h2 := k.lo; have h3 := k.elo; have h4 := k.ehi
    have h5 : s.m * pw s.e ≤ 18446744073709551615 * pw s.e := Int.mul_le_mul_of_nonneg_right (by omega) (Int.le_of_lt (pw_pos _))
    have h6 : 18446744073709551615 * pw s.e ≤ 18446744073709551615 * pw 1048576 := Int.mul_le_mul_of_nonneg_left (pw_mono (by omega) h4) (by decide)
    omega
  · rw [k] at ks; simp [Num.inf] at ks

theorem W_tiny {s : Num} (ms : s.may = true) (os : s.ok) (h : 0 < s.W) : 9223372036854775808 * pw (-1048576) ≤ s.W := by
  rcases Num.may3 ms os with k | k | k
  · rw [k, Num.zero_W] at h; omega
  · rw [k.W]
    have h1 := k.hi; have h2 := k.lo; have h3 := k.elo; have h4 := k.ehi
    have h5 : 9223372036854775808 * pw s.e ≤ s.m * pw s.e := Int.mul_le_mul_of_nonneg_right h2 (Int.le_of_lt (pw_pos _))
    have h6 : 9223372036854775808 * pw (-1048576) ≤ 9223372036854775808 * pw s.e := Int.mul_le_mul_of_nonneg_left (pw_mono (by decide) h3) (by decide)
    omega
  · rw [k, Num.inf_W]
    have h6 : pw (-1048576 + 63) ≤ pw 1048640 := pw_mono (by decide) (by decide)
    rw [pw_63 (by decide)] at h6
    omega

theorem mag_dn {neg cut : Bool} {m e : Int} (hm : 9223372036854775808 ≤ m) (hm' : m < 18446744073709551616) (he : -4194303 ≤ e) {s : Num} (ms : s.may = true) (os : s.ok) (ks : s.kind ≠ 2)
    (h : s.W < (m + 1) * pw e) : s.W ≤ (Num.grow neg m e cut false).W := by
  unfold Num.grow
  rw [if_neg (by simp)]
  unfold Num.bound
  by_cases h1 : 1048576 < e
  · rw [if_pos h1, if_neg (by decide)]
    exact W_huge ms os ks
  · rw [if_neg h1]
    by_cases h2 : e < -1048576
    · rw [if_pos h2, if_neg (by decide), Num.zero_W]
      rcases Int.lt_or_le 0 s.W with h3 | h3
      · have h4 := W_tiny ms os h3
        have h5 : (m + 1) * pw e ≤ 18446744073709551616 * pw e := Int.mul_le_mul_of_nonneg_right (by omega) (Int.le_of_lt (pw_pos _))
        have h6 := pw_lt (e := e) (f := -1048576) (by omega) h2
        omega
      · exact h3
    · rw [if_neg h2]
      have f : (Num.mk 1 neg m e).Fin := ⟨rfl, hm, hm', by show -1048576 ≤ e; omega, by show e ≤ 1048576; omega⟩
      rw [f.W]
      exact grid_dn ms os ks hm he h

theorem bound_up {neg : Bool} {m e : Int} (hm : 9223372036854775808 ≤ m) (hm' : m < 18446744073709551616) (he : -4194303 ≤ e) {s : Num} (ms : s.may = true) (os : s.ok)
    (h : m * pw e ≤ s.W) : (Num.bound neg m e true).W ≤ s.W := by
  unfold Num.bound
  by_cases h1 : 1048576 < e
  · rw [if_pos h1, if_pos rfl, Num.inf_W]
    have h2 : pw (1048577 + 63) ≤ pw (e + 63) := pw_mono (by decide) (by omega)
    rw [pw_63 (e := e) (by omega), show (1048577 + 63 : Int) = 1048640 by decide] at h2
    have h3 : 9223372036854775808 * pw e ≤ m * pw e := Int.mul_le_mul_of_nonneg_right hm (Int.le_of_lt (pw_pos _))
    omega
  · rw [if_neg h1]
    by_cases h2 : e < -1048576
    · rw [if_pos h2, if_pos rfl]
      have h3 : 0 < m * pw e := Int.mul_pos (by omega) (pw_pos _)
      exact W_tiny ms os (by omega)
    · rw [if_neg h2]
      have f : (Num.mk 1 neg m e).Fin := ⟨rfl, hm, hm', by show -1048576 ≤ e; omega, by show e ≤ 1048576; omega⟩
      rw [f.W]
      exact h

theorem mag_up {neg cut : Bool} {m e : Int} (hm : 9223372036854775808 ≤ m) (hm' : m < 18446744073709551616) (he : -4194303 ≤ e) (he' : e ≤ 4194303) {s : Num} (ms : s.may = true) (os : s.ok)
    (h : if cut then m * pw e < s.W else m * pw e ≤ s.W) : (Num.grow neg m e cut true).W ≤ s.W := by
  unfold Num.grow
  cases cut with
  | false =>
    rw [if_neg (by decide)] at h
    rw [if_neg (by decide)]
    exact bound_up hm hm' he ms os h
  | true =>
    rw [if_pos rfl] at h
    rw [if_pos (by decide)]
    have h' := grid_up ms os hm he h
    by_cases h0 : IntKind.u64.wrap (m + 1) = 0
    · rw [if_pos h0]
      have em : m + 1 = 18446744073709551616 := by rw [wu64] at h0; omega
      have ee : IntKind.i64.wrap (e + 1) = e + 1 := by rw [wi64]; omega
      rw [ee]
      have et : Num.top = 9223372036854775808 := rfl
      rw [et]
      refine bound_up (by omega) (by omega) (by omega) ms os ?_
      rw [pw_succ (by omega)]
      rw [em] at h'
      omega
    · rw [if_neg h0]
      have em : IntKind.u64.wrap (m + 1) = m + 1 := by rw [wu64] at h0 ⊢; omega
      have hlt : m + 1 < 18446744073709551616 := by rw [wu64] at h0; omega
      rw [em]
      exact bound_up (by omega) hlt (by omega) ms os h'

theorem Num.val_of {s : Num} (ms : s.may = true) (os : s.ok) : (0 ≤ s.val ∧ s.val = s.W) ∨ (s.val < 0 ∧ s.val = -s.W) := by
  have := W_nn s ms os
  unfold Num.val
  by_cases h : s.neg = true
  · rw [if_pos h]
    rcases Int.lt_or_le 0 s.W with g | g
    · right; omega
    · left; omega
  · rw [if_neg h]; left; omega

/-- THE RULE OF ROUNDING. -/
theorem grow_best {neg cut up : Bool} {m e T c : Int} (hm : 9223372036854775808 ≤ m) (hm' : m < 18446744073709551616) (he : -4194303 ≤ e) (he' : e ≤ 4194303) (hc : 0 < c)
    (h : if cut then m * pw e * c < T ∧ T < (m + 1) * pw e * c else T = m * pw e * c) : Best (Num.grow neg m e cut (up != neg)) up (if neg then -T else T) c := by
  have p := pw_pos e
  have p1 : 0 < m * pw e := Int.mul_pos (by omega) p
  have p2 : 0 < m * pw e * c := Int.mul_pos p1 hc
  have p3 : m * pw e * c ≤ T ∧ T < (m + 1) * pw e * c := by
    cases cut with
    | true => exact ⟨Int.le_of_lt h.1, h.2⟩
    | false =>
      have h : T = m * pw e * c := h
      have : (m + 1) * pw e * c = m * pw e * c + pw e * c := by grind
      have : 0 < pw e * c := Int.mul_pos p hc
      omega
  have S : Side (Num.grow neg m e cut (up != neg)) up (if neg then -T else T) c := by
    refine (grow_rnd (neg := neg) (cut := cut) (away := up != neg) hm hm' (e := e) he he').side p3.1 ?_ (by omega) (Int.le_of_lt hc)
    cases cut with
    | true => rw [if_pos rfl]; exact Int.le_of_lt p3.2
    | false => rw [if_neg (by decide)]; exact Int.le_of_eq h
  have dn : ∀ s : Num, s.may = true → s.ok → s.kind ≠ 2 → s.W * c ≤ T → s.W ≤ (Num.grow neg m e cut false).W := by
    intro s ms os ks hs
    refine mag_dn hm hm' he ms os ks ?_
    exact Int.lt_of_mul_lt_mul_right (a := c) (by omega) (Int.le_of_lt hc)
  have upw : ∀ s : Num, s.may = true → s.ok → T ≤ s.W * c → (Num.grow neg m e cut true).W ≤ s.W := by
    intro s ms os hs
    refine mag_up hm hm' he he' ms os ?_
    cases cut with
    | true => exact Int.lt_of_mul_lt_mul_right (a := c) (by have := h.1; omega) (Int.le_of_lt hc)
    | false =>
      have h : T = m * pw e * c := h
      exact Int.le_of_mul_le_mul_right (a := c) (by omega) hc
  have neg_mul : ∀ s : Num, -s.W * c = -(s.W * c) := fun s => Int.neg_mul _ _
  refine ⟨S.may, S.ok, S.down, ?_, ?_, S.up⟩
  · intro hu s ms os hs hv
    subst hu
    have R := grow_rnd (neg := neg) (cut := cut) (away := false != neg) hm hm' (e := e) he he'
    cases neg with
    | false =>
      have hr : (Num.grow false m e cut (false != false)).val = (Num.grow false m e cut false).W := by
        rcases R.neg with k | k
        · have : (Num.grow false m e cut (false != false)).W = 0 := by unfold Num.W; rw [if_pos k]
          rcases Num.val_of R.may R.ok with q | q
          · exact q.2
          · show _ = (Num.grow false m e cut (false != false)).W
            omega
        · unfold Num.val; rw [if_neg (by rw [k]; decide)]; rfl
      rw [hr]
      have r0 := W_nn _ R.may R.ok
      rcases Num.val_of ms os with q | q
      · rw [q.2]
        refine dn s ms os ?_ (by rw [← q.2]; exact hv)
        intro k
        have e1 := Num.inf_of ms os k
        cases hn : s.neg with
        | false => exact hs (by rw [e1, hn])
        | true =>
          rw [e1, hn, Num.val_inf] at q
          have := pw_pos 1048640
          simp at q
          omega
      · have : 0 ≤ s.W := W_nn s ms os
        show s.val ≤ (Num.grow false m e cut (false != false)).W
        omega
    | true =>
      have hr : (Num.grow true m e cut (false != true)).val = -(Num.grow true m e cut true).W := by
        rcases R.neg with k | k
        · exact absurd k (R.up rfl).1
        · unfold Num.val; rw [if_pos k]; rfl
      rw [hr]
      simp only [if_true] at hv
      rcases Num.val_of ms os with q | q
      · exfalso
        have := Int.mul_nonneg q.1 (Int.le_of_lt hc)
        omega
      · rw [q.2] at hv ⊢
        rw [neg_mul] at hv
        have := upw s ms os (by omega)
        omega
  · intro hu s ms os hs hv
    subst hu
    have R := grow_rnd (neg := neg) (cut := cut) (away := true != neg) hm hm' (e := e) he he'
    cases neg with
    | false =>
      have hr : (Num.grow false m e cut (true != false)).val = (Num.grow false m e cut true).W := by
        rcases R.neg with k | k
        · exact absurd k (R.up rfl).1
        · unfold Num.val; rw [if_neg (by rw [k]; decide)]; rfl
      rw [hr]
      simp only [Bool.false_eq_true, if_false] at hv
      rcases Num.val_of ms os with q | q
      · rw [q.2] at hv ⊢
        exact upw s ms os hv
      · exfalso
        have := Int.mul_nonneg (W_nn s ms os) (Int.le_of_lt hc)
        rw [q.2, neg_mul] at hv
        omega
    | true =>
      have hr : (Num.grow true m e cut (true != true)).val = -(Num.grow true m e cut false).W := by
        rcases R.neg with k | k
        · have : (Num.grow true m e cut (true != true)).W = 0 := by unfold Num.W; rw [if_pos k]
          rcases Num.val_of R.may R.ok with q | q
          · show _ = -(Num.grow true m e cut (true != true)).W
            omega
          · exact q.2
        · unfold Num.val; rw [if_pos k]; rfl
      rw [hr]
      have r0 := W_nn _ R.may R.ok
      simp only [if_true] at hv
      rcases Num.val_of ms os with q | q
      · have : 0 ≤ s.W := W_nn s ms os
        show -(Num.grow true m e cut (true != true)).W ≤ s.val
        omega
      · rw [q.2] at hv ⊢
        rw [neg_mul] at hv
        have := dn s ms os (by
          intro k
          have e1 := Num.inf_of ms os k
          cases hn : s.neg with
          | true => exact hs (by rw [e1, hn])
          | false =>
            rw [e1, hn, Num.val_inf] at q
            have := pw_pos 1048640
            simp at q
            omega) (by omega)
        omega
end Go.Proofs.YtpadpcjdakfokaaGreatDoor.Ev
