/- Texts of the proof, joined: R31 R30 C10 C12a C34 -/
import Derived.Test.YtoghalnnmhpfmaaB5
set_option linter.unusedVariables false
set_option linter.unusedSimpArgs false

/- Contracts of the reference: the sum of any intervals. Printed by gen.py. -/
namespace Go.Proofs.Ytoghalnnmhpfmaa.Ev
open Go Go.Proofs
set_option linter.unusedVariables false
set_option linter.unusedSimpArgs false

theorem c_r9Add (l : List Iv) (n : Int) (hn : n = l.length) (h20 : n ≤ 20) (hl_ : ∀ x ∈ l, (x.lo.ok ∧ x.hi.ok) ∧ x.nearB 1500) :
    ∃ t, t = Iv.add l ∧ CallsA Try.prog 12 [.slc 9 (.s n) (fun i => Iv.cells (l.getD i Iv.none))] (Iv.av t) := by
  refine ⟨_, rfl, ?_⟩
  generalize hr : Iv.add l = r
  obtain ⟨g, hg⟩ : ∃ g : Nat → Iv, ∀ i, g i = l.getD i Iv.none := ⟨_, fun _ => rfl⟩
  rw [show (fun i => Iv.cells (l.getD i Iv.none)) = fun i => Iv.cells (g i) from by funext i; rw [hg]]
  have nil : n = 0 → r = Iv.point Num.zero := by
    intro h
    have e : l = [] := List.length_eq_zero_iff.1 (by omega)
    rw [← hr, e]; decide
  have elem : ∀ i : Int, 0 ≤ i → i < n → ((g i.toNat).lo.ok ∧ (g i.toNat).hi.ok) ∧ (g i.toNat).near := by
    intro i h0 h1
    have hi : i.toNat < l.length := by omega
    have e : g i.toNat = l[i.toNat] := by rw [hg]; simp [List.getD, List.getElem?_eq_getElem hi]
    have q := hl_ l[i.toNat] (List.getElem_mem hi)
    rw [e]
    exact ⟨q.1, ⟨fun k => by have := q.2.1 k; omega, fun k => by have := q.2.2 k; omega⟩⟩
  obtain ⟨m, em⟩ : ∃ m : Int × Iv → Nat, ∀ p, m p = (n - p.1).toNat := ⟨_, fun _ => rfl⟩
  obtain ⟨ok, eok⟩ : ∃ ok : Int × Iv → Prop, ∀ p, ok p ↔ (1 ≤ p.1 ∧ p.1 ≤ n ∧ p.2 = Iv.sumTo l p.1.toNat) := ⟨_, fun _ => Iff.rfl⟩
  have start : ¬ n = 0 → ∀ a, a = (g 0).fair → ok (1, a) := by
    intro h a ha
    refine (eok _).2 ⟨Int.le_refl 1, by show (1 : Int) ≤ n; omega, ?_⟩
    show a = Iv.sumTo l (1 : Int).toNat
    rw [ha, hg]; exact (Iv.sumTo_one (by omega)).symm
  have inv : ∀ i o, ok (i, o) → 0 ≤ i ∧ i ≤ n ∧ (o.lo.ok ∧ o.hi.ok) ∧ o.near := by
    intro i o h
    obtain ⟨k1, k2, k3⟩ := (eok _).1 h
    dsimp only at k1 k2 k3
    have q := Iv.sumTo_near hl_ (by omega) i.toNat (by omega) (by omega)
    rw [← k3] at q
    exact ⟨by omega, k2, q.1, ⟨fun k => by have := q.2.1 k; omega, fun k => by have := q.2.2 k; omega⟩⟩
  have next : ∀ i o t, ok (i, o) → i < n → t = Iv.add [o, g i.toNat] → m (i + 1, t) < m (i, o) ∧ ok (i + 1, t) := by
    intro i o t h hi ht
    obtain ⟨k1, k2, k3⟩ := (eok _).1 h
    dsimp only at k1 k2 k3
    refine ⟨by rw [em, em]; show (n - (i + 1)).toNat < (n - i).toNat; omega, (eok _).2 ⟨by show 1 ≤ i + 1; omega, by show i + 1 ≤ n; omega, ?_⟩⟩
    show t = Iv.sumTo l (i + 1).toNat
    rw [ht, k3, hg, show (i + 1).toNat = i.toNat + 1 by omega]
    exact (Iv.sumTo_next (by omega) (by omega)).symm
  have stop : ∀ i o, ok (i, o) → ¬ i < n → o = r := by
    intro i o h hi
    obtain ⟨k1, k2, k3⟩ := (eok _).1 h
    dsimp only at k1 k2 k3
    rw [k3, ← hr, show i.toNat = l.length by omega]
    exact Iv.sumTo_all (fun x hx => (hl_ x hx).1) (by intro e; rw [e] at hn; simp at hn; omega)
  have n0 : 0 ≤ n := by omega
  have nb : n < 9223372036854775808 := by omega
  clear hr hl_ hn h20
  refine callsA_of hG hm Try.func12 (by kernel_rfl) ?_
  intro E hE lp hl'
  cbv
  refine E_br hE (fun g1 => ?_) (fun g1 => ?_) <;> cbv
  · have N := nil (by subst hE; exact eql_t g1)
    (first | (apply E_pcallX hE (c_r8Point ⟨0, false, 0, 0⟩ ?_); (case hm => rfl); (case hle => (repeat' (first | exact u_nil | apply u_cons | apply u2_agg | exact u2_int | exact u1_int | exact u2_bool | exact u1_bool | exact u2_sli | exact u1_sli | exact u2_s0 | exact u1_s0))); all_goals (first | (intro t ht; cbv) | (exact Num.zero_ok))) | (apply E_callX hE (c_r8Point ⟨0, false, 0, 0⟩ ?_); (case hf => rfl); (case hc => (cbv <;> trivial)); (case hle => (repeat' (first | exact u_nil | apply u_cons | apply u2_agg | exact u2_int | exact u1_int | exact u2_bool | exact u1_bool | exact u2_sli | exact u1_sli | exact u2_s0 | exact u1_s0))); all_goals (first | (intro t ht; cbv) | (exact Num.zero_ok))))
    have T : t = r := by rw [N]; exact ht
    rw [T]; exact ⟨rfl, rfl, rfl, rfl, rfl, rfl, rfl, rfl, rfl, trivial⟩
  have nz : ¬ n = 0 := by subst hE; exact eql_f g1
  refine E_br_t hE (by subst hE; show decide ((0 : Int) < n) = true; rw [decide_eq_true_eq]; omega) ?_
  cbv
  have e0 := elem 0 (Int.le_refl 0) (by omega)
  (first | (apply E_pcallX hE (c_r8Fair ⟨_, ⟨_, _, _, _⟩, ⟨_, _, _, _⟩⟩ ?_ ?_); (case hm => rfl); (case hle => (repeat' (first | exact u_nil | apply u_cons | apply u2_agg | exact u2_int | exact u1_int | exact u2_bool | exact u1_bool | exact u2_sli | exact u1_sli | exact u2_s0 | exact u1_s0))); all_goals (first | (intro a ha; cbv) | (first | exact e0.1.1 | exact e0.1.2))) | (apply E_callX hE (c_r8Fair ⟨_, ⟨_, _, _, _⟩, ⟨_, _, _, _⟩⟩ ?_ ?_); (case hf => rfl); (case hc => (cbv <;> trivial)); (case hle => (repeat' (first | exact u_nil | apply u_cons | apply u2_agg | exact u2_int | exact u1_int | exact u2_bool | exact u1_bool | exact u2_sli | exact u1_sli | exact u2_s0 | exact u1_s0))); all_goals (first | (intro a ha; cbv) | (first | exact e0.1.1 | exact e0.1.2))))
  have A := start nz a ha
  clear start ha e0 nil
  refine E_loopW hE hG hm hl' (ι := Int × Iv) (fun p => ⟨[(4, .int .i64 (.s p.1)), (0, .slc 9 (.s n) (fun i => Iv.cells (g i))), (3, .ptr 1 9 (.l 0) 0), (2, .ptr 0 9 (.l 0) 0)],
      [.rows true 9 [.bool (.l false), .int .i64 (.l 0), .bool (.l false), .int .u64 (.l 0), .int .i64 (.l 0), .int .i64 (.l 0), .bool (.l false), .int .u64 (.l 0), .int .i64 (.l 0)] [[.bool (.l false), .int .i64 (.l 0), .bool (.l false), .int .u64 (.l 0), .int .i64 (.l 0), .int .i64 (.l 0), .bool (.l false), .int .u64 (.l 0), .int .i64 (.l 0)]], .rows true 9 [.bool (.l false), .int .i64 (.l 0), .bool (.l false), .int .u64 (.l 0), .int .i64 (.l 0), .int .i64 (.l 0), .bool (.l false), .int .u64 (.l 0), .int .i64 (.l 0)] [Iv.cells p.2]]⟩) m ok (fun p => rfl) ⟨(1, a), A, stLe rfl ?_⟩ ?_
  · repeat' (first | exact t_nil | apply t_cons | exact u2_int | exact u2_ptr | exact u2_slc')
  rintro ⟨i, o⟩ hok
  have iv := inv i o hok
  have el := elem i iv.1
  have nx := fun t => next i o t hok
  have sp := stop i o hok
  have wp : i < n → IntKind.i64.wrap (i + 1) = i + 1 := fun h => by rw [wi64]; omega
  clear inv elem next stop hok A eok em
  cbv
  refine E_br hE (fun g2 => ?_) (fun g2 => ?_) <;> cbv
  · have lt : i < n := by subst hE; exact lss_t g2
    have e1 := el lt
    repeat' (first
      | (refine E_br_t hE (by subst hE; show decide ((0 : Int) ≤ i) = true; rw [decide_eq_true_eq]; exact iv.1) ?_; cbv)
      | (refine E_br_t hE (by subst hE; show decide (i < n) = true; rw [decide_eq_true_eq]; exact lt) ?_; cbv))
    refine E_row hE (cell := Iv.cells) (fun x hx => ?_)
    rw [← hx] at e1
    have nx1 := fun t => nx t lt
    rw [← hx] at nx1
    cbv
    (first | (apply E_pcallX hE (c_r9Two ⟨_, ⟨_, _, _, _⟩, ⟨_, _, _, _⟩⟩ ⟨_, ⟨_, _, _, _⟩, ⟨_, _, _, _⟩⟩ ?_ ?_ ?_ ?_); (case hm => rfl); (case hle => (repeat' (first | exact u_nil | apply u_cons | apply u2_agg | exact u2_int | exact u1_int | exact u2_bool | exact u1_bool | exact u2_sli | exact u1_sli | exact u2_s0 | exact u1_s0))); all_goals (first | (intro t ht; cbv) | (first | exact iv.2.2.1 | exact e1.1 | exact iv.2.2.2 | exact e1.2))) | (apply E_callX hE (c_r9Two ⟨_, ⟨_, _, _, _⟩, ⟨_, _, _, _⟩⟩ ⟨_, ⟨_, _, _, _⟩, ⟨_, _, _, _⟩⟩ ?_ ?_ ?_ ?_); (case hf => rfl); (case hc => (cbv <;> trivial)); (case hle => (repeat' (first | exact u_nil | apply u_cons | apply u2_agg | exact u2_int | exact u1_int | exact u2_bool | exact u1_bool | exact u2_sli | exact u1_sli | exact u2_s0 | exact u1_s0))); all_goals (first | (intro t ht; cbv) | (first | exact iv.2.2.1 | exact e1.1 | exact iv.2.2.2 | exact e1.2))))
    have X := nx1 t ht
    refine E_nm hE (fun v hv => ?_)
    have hv' : v = i + 1 := by subst hE; have z : v = IntKind.i64.wrap (i + 1) := hv; rw [z, wp lt]
    clear hv
    subst hv'
    cbv
    refine ⟨(i + 1, t), X.1, X.2, stLeW rfl ⟨rfl, rfl, trivial⟩ ?_⟩
    (refine w_cons ?_ rfl ?_; (repeat' (first | exact w_nil | refine w_cons ?_ rfl ?_ | exact u2_int | exact u2_ptr | exact u2_slc')))
  · have R := sp (by subst hE; exact lss_f g2)
    rw [← R]; exact ⟨rfl, rfl, rfl, rfl, rfl, rfl, rfl, rfl, rfl, trivial⟩

end Go.Proofs.Ytoghalnnmhpfmaa.Ev

/- Contracts: are exponents near nought? Printed by gen.py. -/
namespace Go.Proofs.Ytoghalnnmhpfmaa.Ev
open Go Go.Proofs
set_option linter.unusedVariables false
set_option linter.unusedSimpArgs false

theorem c_few6 (n : Num)  : ∃ t : Bool, t = n.few ∧ CallsA Try.prog 44 [n.av] (.bool (.s t)) := by
  refine ⟨_, rfl, ?_⟩
  generalize hr : n.few = r
  refine callsA_of hG hm Try.func44 (by kernel_rfl) ?_
  intro E hE lp hl
  cbv
  repeat' (first
    | (refine E_br hE (fun h => ?_) (fun h => ?_) <;> cbv)
    | (refine E_nm hE (fun v hv => ?_); cbv)
    | fail)
  all_goals (subst hE; subst hr)
  all_goals (try simp only [realE, cmp_eql, cmp_neq, cmp_lss, cmp_leq, cmp_gtr, cmp_geq, intBinR, decide_eq_true_eq, decide_eq_false_iff_not, SI.val, SB.val, Num.eta, Iv.eta] at *)
  all_goals (try simp_all [Num.few])
  all_goals (try omega)
  all_goals (try simp only [Bool.and_assoc])
  all_goals (try rfl)
  all_goals ((repeat' split) <;> (try simp_all) <;> (try omega))

theorem c_few8 (x : Iv)  : ∃ t : Bool, t = x.few ∧ CallsA Try.prog 10 [x.av] (.bool (.s t)) := by
  refine ⟨_, rfl, ?_⟩
  generalize hr : x.few = r
  refine callsA_of hG hm Try.func10 (by kernel_rfl) ?_
  intro E hE lp hl
  cbv
  repeat' (first
    | (refine E_br hE (fun h => ?_) (fun h => ?_) <;> cbv)
    | (refine E_nm hE (fun v hv => ?_); cbv)
    | (apply E_callX hE (c_few6 ⟨_, _, _, _⟩); (case hf => rfl); (case hc => (cbv <;> trivial)); (case hle => exact u_up); intro t ht; cbv)
    | fail)
  all_goals (subst hE; subst hr)
  all_goals (try simp only [realE, cmp_eql, cmp_neq, cmp_lss, cmp_leq, cmp_gtr, cmp_geq, intBinR, decide_eq_true_eq, decide_eq_false_iff_not, SI.val, SB.val, Num.eta, Iv.eta] at *)
  all_goals (try simp_all [Iv.few])
  all_goals (try omega)
  all_goals (try simp only [Bool.and_assoc])
  all_goals (try rfl)
  all_goals ((repeat' split) <;> (try simp_all) <;> (try omega))

end Go.Proofs.Ytoghalnnmhpfmaa.Ev

/- Contracts: the quotient of intervals. Printed by gen.py out of C10.spec. -/
namespace Go.Proofs.Ytoghalnnmhpfmaa.Ev
open Go Go.Proofs
set_option linter.unusedVariables false
set_option linter.unusedSimpArgs false

set_option maxHeartbeats 4000000 in
theorem c_opDiv (a : Iv) (b : Iv) (h1 : a.lo.ok) (h2 : a.hi.ok) (h3 : b.lo.ok) (h4 : b.hi.ok) : ∃ t : Iv, t = Iv.div a b ∧ CallsA Try.prog 8 [a.av, b.av] (t.av) := by
  refine ⟨_, rfl, ?_⟩
  generalize hr : Iv.div a b = r
  refine callsA_of hG hm Try.func8 (by kernel_rfl) ?_
  intro E hE lp hl
  cbv
  repeat' (first
    | (apply E_br_t hE; assumption; cbv)
    | (apply E_br_f hE; assumption; cbv)
    | (refine E_br hE (fun h => ?_) (fun h => ?_) <;> cbv)
    | (refine E_nm hE (fun v hv => ?_); cbv)
    | (apply E_callX hE (c_none [a, b] 2 rfl (by decide)); (case hf => rfl); (case hc => (cbv <;> trivial)); (case hle => exact ⟨slcO2 hE, trivial⟩); intro t ht; cbv)
    | (apply E_callX hE (c_corners a b 33 Num.div Num.ok (fun x y up hx hy => c_quDiv x y up hx hy) h1 h2 h3 h4); (case hf => rfl); (case hc => (cbv <;> trivial)); (case hle => (repeat' (first | exact u_nil | apply u_cons | apply u2_agg | exact u2_int | exact u1_int | exact u2_bool | exact u1_bool | exact u2_sli | exact u1_sli | exact u2_s0 | exact u1_s0 | exact u2_fn))); intro t ht; cbv)
    | (apply E_callX hE (c_Sign ⟨_, _, _, _⟩); (case hf => rfl); (case hc => (cbv <;> trivial)); (case hle => exact u_up); intro t ht; cbv)
    | (apply E_pcallX hE (c_Sign ⟨_, _, _, _⟩); (case hm => rfl); (case hle => exact u_up); intro t ht; cbv)
    | (apply E_callX hE (c_ivNone ); (case hf => rfl); (case hc => (cbv <;> trivial)); (case hle => exact u_up); intro t ht; cbv)
    | (apply E_callX hE (c_ivHas ⟨_, ⟨_, _, _, _⟩, ⟨_, _, _, _⟩⟩ ⟨_, _, _, _⟩); (case hf => rfl); (case hc => (cbv <;> trivial)); (case hle => exact u_up); intro t ht; cbv)
    | (apply E_callX hE (c_ivAll ); (case hf => rfl); (case hc => (cbv <;> trivial)); (case hle => exact u_up); intro t ht; cbv)
    | (apply E_callX hE (c_quDiv ⟨_, _, _, _⟩ ⟨_, _, _, _⟩ _ ?_ ?_); (case hf => rfl); (case hc => (cbv <;> trivial)); (case hle => exact u_up); all_goals (first | (intro t ht; cbv) | (subst hE; (try simp only [realE, cmp_eql, cmp_neq, cmp_lss, cmp_leq, cmp_gtr, cmp_geq, intBinR, decide_eq_true_eq, decide_eq_false_iff_not, SI.val, SB.val, Num.eta, Iv.eta] at *); first | exact h1 | exact h2 | exact h3 | exact h4)))
    | (apply E_pcallX hE (c_quDiv ⟨_, _, _, _⟩ ⟨_, _, _, _⟩ _ ?_ ?_); (case hm => rfl); (case hle => exact u_up); all_goals (first | (intro t ht; cbv) | (subst hE; (try simp only [realE, cmp_eql, cmp_neq, cmp_lss, cmp_leq, cmp_gtr, cmp_geq, intBinR, decide_eq_true_eq, decide_eq_false_iff_not, SI.val, SB.val, Num.eta, Iv.eta] at *); first | exact h1 | exact h2 | exact h3 | exact h4)))
    | (apply E_callX hE (c_Inf _); (case hf => rfl); (case hc => (cbv <;> trivial)); (case hle => exact u_up); intro t ht; cbv)
    | (apply E_pcallX hE (c_Inf _); (case hm => rfl); (case hle => exact u_up); intro t ht; cbv)
    | (apply E_callX hE (c_ivMake ⟨_, _, _, _⟩ ⟨_, _, _, _⟩); (case hf => rfl); (case hc => (cbv <;> trivial)); (case hle => exact u_up); intro t ht; cbv)
    | (apply E_pcallX hE (c_ivMake ⟨_, _, _, _⟩ ⟨_, _, _, _⟩); (case hm => rfl); (case hle => exact u_up); intro t ht; cbv)
    | fail)
  all_goals (subst hE; subst hr)
  all_goals (try simp only [realE, cmp_eql, cmp_neq, cmp_lss, cmp_leq, cmp_gtr, cmp_geq, intBinR, decide_eq_true_eq, decide_eq_false_iff_not, SI.val, SB.val, Num.eta, Iv.eta] at *)
  all_goals (try refine Iv.fin (t := ⟨_, ⟨_, _, _, _⟩, ⟨_, _, _, _⟩⟩) ?_)
  all_goals (change t = _; subst_vars; try simp only [show ({ kind := 0, neg := false, m := 0, e := 0 } : Num) = Num.zero from rfl] at *)
  all_goals (try replace hv := hv.symm)
  all_goals first
    | (exfalso; omega)
    | (unfold Iv.div Iv.corners; first
      | rw [if_pos (.inl ‹_›)]
      | rw [if_pos (.inr ⟨by omega, by omega⟩)]
      | (rw [if_neg (by rintro (q | q) <;> first | omega | simp_all)]; first
        | rw [if_pos (show 0 < b.lo.sign ∨ b.hi.sign < 0 by omega)]
        | (rw [if_neg (show ¬ (0 < b.lo.sign ∨ b.hi.sign < 0) by omega)]; first
          | rw [if_pos (.inl ⟨by omega, by omega⟩)]
          | rw [if_pos (.inr ‹_›)]
          | (rw [if_neg (by rintro (q | q) <;> first | omega | simp_all)]; unfold Iv.half
             (first | rw [if_pos (show a.lo.sign < 0 by omega)] | rw [if_neg (show ¬ a.lo.sign < 0 by omega)])
             (first | rw [if_pos (show b.hi.sign = 0 by omega)] | rw [if_neg (show ¬ b.hi.sign = 0 by omega)])
             (first | rw [if_pos (by omega)] | rw [if_neg (by omega)])))))

end Go.Proofs.Ytoghalnnmhpfmaa.Ev

/- Contracts: the chapter's examples. Printed by gen.py out of C12a.spec. -/
namespace Go.Proofs.Ytoghalnnmhpfmaa.Ev
open Go Go.Proofs
set_option linter.unusedVariables false
set_option linter.unusedSimpArgs false

set_option maxHeartbeats 4000000 in
theorem c_awake   : ∃ t : Bool, t = true ∧ CallsA Try.prog 5 [] (.bool (.s t)) := by
  refine ⟨_, rfl, ?_⟩
  generalize hr : true = r
  refine callsA_of hG hm Try.func5 (by kernel_rfl) ?_
  intro E hE lp hl
  cbv
  repeat' (first
    | (apply E_br_t hE; assumption; cbv)
    | (apply E_br_f hE; assumption; cbv)
    | (refine E_br hE (fun h => ?_) (fun h => ?_) <;> cbv)
    | (refine E_nm hE (fun v hv => ?_); cbv)
    | (apply E_callX hE (c_ivOf _ _ ?_ ?_ ?_ ?_); (case hf => rfl); (case hc => (cbv <;> trivial)); (case hle => exact u_up); all_goals (first | (intro t ht; cbv) | (subst hE; (try simp only [realE, cmp_eql, cmp_neq, cmp_lss, cmp_leq, cmp_gtr, cmp_geq, intBinR, decide_eq_true_eq, decide_eq_false_iff_not, SI.val, SB.val, Num.eta, Iv.eta] at *); (subst_vars; first | exact (Iv.ofInts_ok (-1) 2).1 | exact (Iv.ofInts_ok (-1) 2).2 | exact (Iv.ofInts_ok (3) 4).1 | exact (Iv.ofInts_ok (3) 4).2 | exact (Iv.ofInts_ok (1) 2).1 | exact (Iv.ofInts_ok (1) 2).2 | exact (Iv.ofInts_ok (0) 4).1 | exact (Iv.ofInts_ok (0) 4).2 | decide))))
    | (apply E_pcallX hE (c_ivOf _ _ ?_ ?_ ?_ ?_); (case hm => rfl); (case hle => exact u_up); all_goals (first | (intro t ht; cbv) | (subst hE; (try simp only [realE, cmp_eql, cmp_neq, cmp_lss, cmp_leq, cmp_gtr, cmp_geq, intBinR, decide_eq_true_eq, decide_eq_false_iff_not, SI.val, SB.val, Num.eta, Iv.eta] at *); (subst_vars; first | exact (Iv.ofInts_ok (-1) 2).1 | exact (Iv.ofInts_ok (-1) 2).2 | exact (Iv.ofInts_ok (3) 4).1 | exact (Iv.ofInts_ok (3) 4).2 | exact (Iv.ofInts_ok (1) 2).1 | exact (Iv.ofInts_ok (1) 2).2 | exact (Iv.ofInts_ok (0) 4).1 | exact (Iv.ofInts_ok (0) 4).2 | decide))))
    | (apply E_callX hE (c_opMul ⟨_, ⟨_, _, _, _⟩, ⟨_, _, _, _⟩⟩ ⟨_, ⟨_, _, _, _⟩, ⟨_, _, _, _⟩⟩ ?_ ?_ ?_ ?_); (case hf => rfl); (case hc => (cbv <;> trivial)); (case hle => exact u_up); all_goals (first | (intro t ht; cbv) | (subst hE; (try simp only [realE, cmp_eql, cmp_neq, cmp_lss, cmp_leq, cmp_gtr, cmp_geq, intBinR, decide_eq_true_eq, decide_eq_false_iff_not, SI.val, SB.val, Num.eta, Iv.eta] at *); (subst_vars; first | exact (Iv.ofInts_ok (-1) 2).1 | exact (Iv.ofInts_ok (-1) 2).2 | exact (Iv.ofInts_ok (3) 4).1 | exact (Iv.ofInts_ok (3) 4).2 | exact (Iv.ofInts_ok (1) 2).1 | exact (Iv.ofInts_ok (1) 2).2 | exact (Iv.ofInts_ok (0) 4).1 | exact (Iv.ofInts_ok (0) 4).2 | decide))))
    | (apply E_callX hE (c_opDiv ⟨_, ⟨_, _, _, _⟩, ⟨_, _, _, _⟩⟩ ⟨_, ⟨_, _, _, _⟩, ⟨_, _, _, _⟩⟩ ?_ ?_ ?_ ?_); (case hf => rfl); (case hc => (cbv <;> trivial)); (case hle => exact u_up); all_goals (first | (intro t ht; cbv) | (subst hE; (try simp only [realE, cmp_eql, cmp_neq, cmp_lss, cmp_leq, cmp_gtr, cmp_geq, intBinR, decide_eq_true_eq, decide_eq_false_iff_not, SI.val, SB.val, Num.eta, Iv.eta] at *); (subst_vars; first | exact (Iv.ofInts_ok (-1) 2).1 | exact (Iv.ofInts_ok (-1) 2).2 | exact (Iv.ofInts_ok (3) 4).1 | exact (Iv.ofInts_ok (3) 4).2 | exact (Iv.ofInts_ok (1) 2).1 | exact (Iv.ofInts_ok (1) 2).2 | exact (Iv.ofInts_ok (0) 4).1 | exact (Iv.ofInts_ok (0) 4).2 | decide))))
    | (apply E_pcallX hE (c_Inf _); (case hm => rfl); (case hle => exact u_up); intro t ht; cbv)
    | (apply E_pcallX hE (c_Cmp ⟨_, _, _, _⟩ ⟨_, _, _, _⟩); (case hm => rfl); (case hle => exact u_up); intro t ht; cbv)
    | (apply E_pcallX hE (c_Of _ ?_ ?_); (case hm => rfl); (case hle => exact u_up); all_goals (first | (intro t ht; cbv) | (subst hE; (try simp only [realE, cmp_eql, cmp_neq, cmp_lss, cmp_leq, cmp_gtr, cmp_geq, intBinR, decide_eq_true_eq, decide_eq_false_iff_not, SI.val, SB.val, Num.eta, Iv.eta] at *); (subst_vars; first | exact (Iv.ofInts_ok (-1) 2).1 | exact (Iv.ofInts_ok (-1) 2).2 | exact (Iv.ofInts_ok (3) 4).1 | exact (Iv.ofInts_ok (3) 4).2 | exact (Iv.ofInts_ok (1) 2).1 | exact (Iv.ofInts_ok (1) 2).2 | exact (Iv.ofInts_ok (0) 4).1 | exact (Iv.ofInts_ok (0) 4).2 | decide))))
    | (apply E_pcallX hE (c_opSqr ⟨_, ⟨_, _, _, _⟩, ⟨_, _, _, _⟩⟩ ?_ ?_); (case hm => rfl); (case hle => exact u_up); all_goals (first | (intro t ht; cbv) | (subst hE; (try simp only [realE, cmp_eql, cmp_neq, cmp_lss, cmp_leq, cmp_gtr, cmp_geq, intBinR, decide_eq_true_eq, decide_eq_false_iff_not, SI.val, SB.val, Num.eta, Iv.eta] at *); (subst_vars; first | exact (Iv.ofInts_ok (-1) 2).1 | exact (Iv.ofInts_ok (-1) 2).2 | exact (Iv.ofInts_ok (3) 4).1 | exact (Iv.ofInts_ok (3) 4).2 | exact (Iv.ofInts_ok (1) 2).1 | exact (Iv.ofInts_ok (1) 2).2 | exact (Iv.ofInts_ok (0) 4).1 | exact (Iv.ofInts_ok (0) 4).2 | decide))))
    | fail)
  all_goals (subst hE; subst hr)
  all_goals (try simp only [realE, cmp_eql, cmp_neq, cmp_lss, cmp_leq, cmp_gtr, cmp_geq, intBinR, decide_eq_true_eq, decide_eq_false_iff_not, SI.val, SB.val, Num.eta, Iv.eta] at *)
  all_goals (subst_vars; try simp only [aw1, aw3, aw5] at *)
  all_goals (simp_all [aw2, aw4, aw6, Num.inf])

end Go.Proofs.Ytoghalnnmhpfmaa.Ev

/- Contracts: the law of sums. Printed by gen.py. -/
namespace Go.Proofs.Ytoghalnnmhpfmaa.Ev
open Go Go.Proofs
set_option linter.unusedVariables false
set_option linter.unusedSimpArgs false

theorem c_Sums (a b : Iv) (l : List Iv) (n : Int) (hn : n = l.length) (hb_ : n < 9223372036854775808) (fa : a.lo.ok ∧ a.hi.ok) (fb : b.lo.ok ∧ b.hi.ok) (fl : ∀ x ∈ l, x.lo.ok ∧ x.hi.ok) :
    ∃ t : Bool, t = true ∧ CallsA Try.prog 4 [a.av, b.av, .slc 9 (.s n) (fun i => Iv.cells (l.getD i Iv.none))] (.bool (.s t)) := by
  refine ⟨_, rfl, ?_⟩
  obtain ⟨g, hg⟩ : ∃ g : Nat → Iv, g = fun i => l.getD i Iv.none := ⟨_, rfl⟩
  rw [show (fun i => Iv.cells (l.getD i Iv.none)) = fun i => Iv.cells (g i) from by rw [hg]]
  obtain ⟨m, em⟩ : ∃ m : Int → Nat, ∀ i, m i = (n - i).toNat := ⟨_, fun _ => rfl⟩
  obtain ⟨ok, eok⟩ : ∃ ok : Int → Prop, ∀ i, ok i ↔ (0 ≤ i ∧ i ≤ n ∧ ∀ j : Nat, (j : Int) < i → (g j).few = true) := ⟨_, fun _ => Iff.rfl⟩
  have start : ok 0 := (eok _).2 ⟨Int.le_refl 0, by omega, fun j h => by omega⟩
  have next : ∀ i, ok i → i < n → (g i.toNat).few = true → m (i + 1) < m i ∧ ok (i + 1) := by
    intro i h hi hf
    obtain ⟨k1, k2, k3⟩ := (eok _).1 h
    refine ⟨by rw [em, em]; omega, (eok _).2 ⟨by omega, by omega, fun j hj => ?_⟩⟩
    by_cases e : j = i.toNat
    · rw [e]; exact hf
    · exact k3 j (by omega)
  have inv : ∀ i, ok i → 0 ≤ i ∧ i ≤ n := fun i h => ⟨((eok _).1 h).1, ((eok _).1 h).2.1⟩
  have stop : ∀ i, ok i → ¬ i < n → ∀ x ∈ l, (x.lo.ok ∧ x.hi.ok) ∧ x.nearB 1500 := by
    intro i h hi x hx
    obtain ⟨k1, k2, k3⟩ := (eok _).1 h
    obtain ⟨j, hj, rfl⟩ := List.getElem_of_mem hx
    have f := k3 j (by omega)
    have e : g j = l[j] := by rw [hg]; simp [List.getD, List.getElem?_eq_getElem hj]
    rw [e] at f
    exact ⟨fl _ hx, Iv.nearB_few f⟩
  refine callsA_of hG hm Try.func4 (by kernel_rfl) ?_
  intro E hE lp hl'
  cbv
  (first | (apply E_pcallX hE (c_awake); (case hm => rfl); (case hle => (repeat' (first | exact u_nil | apply u_cons | apply u2_agg | exact u2_int | exact u1_int | exact u2_bool | exact u1_bool | exact u2_sli | exact u1_sli | exact u2_s0 | exact u1_s0))); all_goals (first | (intro u hu; cbv) | (assumption))) | (apply E_callX hE (c_awake); (case hf => rfl); (case hc => (cbv <;> trivial)); (case hle => (repeat' (first | exact u_nil | apply u_cons | apply u2_agg | exact u2_int | exact u1_int | exact u2_bool | exact u1_bool | exact u2_sli | exact u1_sli | exact u2_s0 | exact u1_s0))); all_goals (first | (intro u hu; cbv) | (assumption))))
  (first | (apply E_pcallX hE (c_few8 ⟨_, ⟨_, _, _, _⟩, ⟨_, _, _, _⟩⟩); (case hm => rfl); (case hle => (repeat' (first | exact u_nil | apply u_cons | apply u2_agg | exact u2_int | exact u1_int | exact u2_bool | exact u1_bool | exact u2_sli | exact u1_sli | exact u2_s0 | exact u1_s0))); all_goals (first | (intro p hp; cbv) | (assumption))) | (apply E_callX hE (c_few8 ⟨_, ⟨_, _, _, _⟩, ⟨_, _, _, _⟩⟩); (case hf => rfl); (case hc => (cbv <;> trivial)); (case hle => (repeat' (first | exact u_nil | apply u_cons | apply u2_agg | exact u2_int | exact u1_int | exact u2_bool | exact u1_bool | exact u2_sli | exact u1_sli | exact u2_s0 | exact u1_s0))); all_goals (first | (intro p hp; cbv) | (assumption))))
  (first | (apply E_pcallX hE (c_few8 ⟨_, ⟨_, _, _, _⟩, ⟨_, _, _, _⟩⟩); (case hm => rfl); (case hle => (repeat' (first | exact u_nil | apply u_cons | apply u2_agg | exact u2_int | exact u1_int | exact u2_bool | exact u1_bool | exact u2_sli | exact u1_sli | exact u2_s0 | exact u1_s0))); all_goals (first | (intro q hq; cbv) | (assumption))) | (apply E_callX hE (c_few8 ⟨_, ⟨_, _, _, _⟩, ⟨_, _, _, _⟩⟩); (case hf => rfl); (case hc => (cbv <;> trivial)); (case hle => (repeat' (first | exact u_nil | apply u_cons | apply u2_agg | exact u2_int | exact u1_int | exact u2_bool | exact u1_bool | exact u2_sli | exact u1_sli | exact u2_s0 | exact u1_s0))); all_goals (first | (intro q hq; cbv) | (assumption))))
  refine E_br_f hE (by subst hE; show (!u) = false; rw [show u = true from hu]; rfl) ?_
  cbv
  refine E_br hE (fun g1 => ?_) (fun g1 => ?_) <;> cbv
  · exact hu
  have na : a.nearB 1500 := Iv.nearB_few (by rw [← show p = a.few from hp]; subst hE; have k : (!p) = false := g1; simpa using k)
  refine E_br hE (fun g2 => ?_) (fun g2 => ?_) <;> cbv
  · exact hu
  have nb : b.nearB 1500 := Iv.nearB_few (by rw [← show q = b.few from hq]; subst hE; have k : (!q) = false := g2; simpa using k)
  clear hp hq g1 g2
  refine E_br hE (fun g3 => ?_) (fun g3 => ?_) <;> cbv
  · exact hu
  have n20 : n ≤ 20 := by subst hE; have k : ¬ (20 : Int) < n := gtr_f g3; omega
  have Na : a.near := ⟨fun k => by have := na.1 k; omega, fun k => by have := na.2 k; omega⟩
  have Nb : b.near := ⟨fun k => by have := nb.1 k; omega, fun k => by have := nb.2 k; omega⟩
  clear na nb g3
  refine E_loopW hE hG hm hl' (ι := Int) (fun i => ⟨[(10, .int .i64 (.s i)), (2, .slc 9 (.s n) (fun i => Iv.cells (g i))), (4, .ptr 1 9 (.l 0) 0), (3, .ptr 0 9 (.l 0) 0)],
      [.rows true 9 [.bool (.l false), .int .i64 (.l 0), .bool (.l false), .int .u64 (.l 0), .int .i64 (.l 0), .int .i64 (.l 0), .bool (.l false), .int .u64 (.l 0), .int .i64 (.l 0)] [Iv.cells a], .rows true 9 [.bool (.l false), .int .i64 (.l 0), .bool (.l false), .int .u64 (.l 0), .int .i64 (.l 0), .int .i64 (.l 0), .bool (.l false), .int .u64 (.l 0), .int .i64 (.l 0)] [Iv.cells b]]⟩) m ok (fun p => rfl) ⟨0, start, stLe rfl ?_⟩ ?_
  · repeat' (first | exact t_nil | apply t_cons | exact u2_int | exact u2_ptr | exact u2_slc')
  rintro i hok
  have iv := inv i hok
  have nx := next i hok
  have sp := stop i hok
  have wp : i < n → IntKind.i64.wrap (i + 1) = i + 1 := fun h => by rw [wi64]; omega
  clear inv next stop hok start eok em
  cbv
  refine E_br hE (fun g4 => ?_) (fun g4 => ?_) <;> cbv
  · have lt : i < n := by subst hE; exact lss_t g4
    repeat' (first
      | (refine E_br_t hE (by subst hE; show decide ((0 : Int) ≤ i) = true; rw [decide_eq_true_eq]; exact iv.1) ?_; cbv)
      | (refine E_br_t hE (by subst hE; show decide (i < n) = true; rw [decide_eq_true_eq]; exact lt) ?_; cbv))
    have nx1 := nx lt
    refine E_row hE (cell := Iv.cells) (fun x hx => ?_)
    rw [← hx] at nx1
    cbv
    (first | (apply E_pcallX hE (c_few8 ⟨_, ⟨_, _, _, _⟩, ⟨_, _, _, _⟩⟩); (case hm => rfl); (case hle => (repeat' (first | exact u_nil | apply u_cons | apply u2_agg | exact u2_int | exact u1_int | exact u2_bool | exact u1_bool | exact u2_sli | exact u1_sli | exact u2_s0 | exact u1_s0))); all_goals (first | (intro o ho; cbv) | (assumption))) | (apply E_callX hE (c_few8 ⟨_, ⟨_, _, _, _⟩, ⟨_, _, _, _⟩⟩); (case hf => rfl); (case hc => (cbv <;> trivial)); (case hle => (repeat' (first | exact u_nil | apply u_cons | apply u2_agg | exact u2_int | exact u1_int | exact u2_bool | exact u1_bool | exact u2_sli | exact u1_sli | exact u2_s0 | exact u1_s0))); all_goals (first | (intro o ho; cbv) | (assumption))))
    refine E_br hE (fun g5 => ?_) (fun g5 => ?_) <;> cbv
    have X := nx1 (by rw [← show o = x.few from ho]; subst hE; have k : (!o) = false := g5; simpa using k)
    refine E_nm hE (fun v hv => ?_)
    have hv' : v = i + 1 := by subst hE; have z : v = IntKind.i64.wrap (i + 1) := hv; rw [z, wp lt]
    clear hv
    subst hv'
    cbv
    refine ⟨i + 1, X.1, X.2, stLeW rfl ⟨rfl, rfl, trivial⟩ ?_⟩
    (refine w_cons ?_ rfl ?_; (repeat' (first | exact w_nil | refine w_cons ?_ rfl ?_ | exact u2_int | exact u2_ptr | exact u2_slc')))
  have al := sp (by subst hE; exact lss_f g4)
  clear sp nx g4
  (first | (apply E_pcallX hE (c_opAdd l n hn hb_ fl); (case hm => rfl); (case hle => exact ⟨(by subst hg; exact u2_slc'), trivial⟩); all_goals (first | (intro s hs; cbv) | (assumption))) | (apply E_callX hE (c_opAdd l n hn hb_ fl); (case hf => rfl); (case hc => (cbv <;> trivial)); (case hle => exact ⟨(by subst hg; exact u2_slc'), trivial⟩); all_goals (first | (intro s hs; cbv) | (assumption))))
  (first | (apply E_pcallX hE (c_r9Add l n hn n20 al); (case hm => rfl); (case hle => exact ⟨(by subst hg; exact u2_slc'), trivial⟩); all_goals (first | (intro t ht; cbv) | (assumption))) | (apply E_callX hE (c_r9Add l n hn n20 al); (case hf => rfl); (case hc => (cbv <;> trivial)); (case hle => exact ⟨(by subst hg; exact u2_slc'), trivial⟩); all_goals (first | (intro t ht; cbv) | (assumption))))
  refine E_br_t hE ((ivEq_of hE s t).trans (decide_eq_true (hs.trans ht.symm))) ?_
  cbv
  clear hs ht
  (first | (apply E_pcallX hE (c_opSub ⟨_, ⟨_, _, _, _⟩, ⟨_, _, _, _⟩⟩ ⟨_, ⟨_, _, _, _⟩, ⟨_, _, _, _⟩⟩ ?_ ?_ ?_ ?_); (case hm => rfl); (case hle => (repeat' (first | exact u_nil | apply u_cons | apply u2_agg | exact u2_int | exact u1_int | exact u2_bool | exact u1_bool | exact u2_sli | exact u1_sli | exact u2_s0 | exact u1_s0))); all_goals (first | (intro p1 hp1; cbv) | (first | exact fa.1 | exact fa.2 | exact fb.1 | exact fb.2))) | (apply E_callX hE (c_opSub ⟨_, ⟨_, _, _, _⟩, ⟨_, _, _, _⟩⟩ ⟨_, ⟨_, _, _, _⟩, ⟨_, _, _, _⟩⟩ ?_ ?_ ?_ ?_); (case hf => rfl); (case hc => (cbv <;> trivial)); (case hle => (repeat' (first | exact u_nil | apply u_cons | apply u2_agg | exact u2_int | exact u1_int | exact u2_bool | exact u1_bool | exact u2_sli | exact u1_sli | exact u2_s0 | exact u1_s0))); all_goals (first | (intro p1 hp1; cbv) | (first | exact fa.1 | exact fa.2 | exact fb.1 | exact fb.2))))
  (first | (apply E_pcallX hE (c_r9Sub ⟨_, ⟨_, _, _, _⟩, ⟨_, _, _, _⟩⟩ ⟨_, ⟨_, _, _, _⟩, ⟨_, _, _, _⟩⟩ ?_ ?_ ?_ ?_); (case hm => rfl); (case hle => (repeat' (first | exact u_nil | apply u_cons | apply u2_agg | exact u2_int | exact u1_int | exact u2_bool | exact u1_bool | exact u2_sli | exact u1_sli | exact u2_s0 | exact u1_s0))); all_goals (first | (intro q1 hq1; cbv) | (first | exact fa | exact fb | exact Na | exact Nb))) | (apply E_callX hE (c_r9Sub ⟨_, ⟨_, _, _, _⟩, ⟨_, _, _, _⟩⟩ ⟨_, ⟨_, _, _, _⟩, ⟨_, _, _, _⟩⟩ ?_ ?_ ?_ ?_); (case hf => rfl); (case hc => (cbv <;> trivial)); (case hle => (repeat' (first | exact u_nil | apply u_cons | apply u2_agg | exact u2_int | exact u1_int | exact u2_bool | exact u1_bool | exact u2_sli | exact u1_sli | exact u2_s0 | exact u1_s0))); all_goals (first | (intro q1 hq1; cbv) | (first | exact fa | exact fb | exact Na | exact Nb))))
  refine E_br_t hE ((ivEq_of hE p1 q1).trans (decide_eq_true (hp1.trans hq1.symm))) ?_
  cbv
  clear hp1 hq1
  (first | (apply E_pcallX hE (c_opNeg ⟨_, ⟨_, _, _, _⟩, ⟨_, _, _, _⟩⟩); (case hm => rfl); (case hle => (repeat' (first | exact u_nil | apply u_cons | apply u2_agg | exact u2_int | exact u1_int | exact u2_bool | exact u1_bool | exact u2_sli | exact u1_sli | exact u2_s0 | exact u1_s0))); all_goals (first | (intro p2 hp2; cbv) | (assumption))) | (apply E_callX hE (c_opNeg ⟨_, ⟨_, _, _, _⟩, ⟨_, _, _, _⟩⟩); (case hf => rfl); (case hc => (cbv <;> trivial)); (case hle => (repeat' (first | exact u_nil | apply u_cons | apply u2_agg | exact u2_int | exact u1_int | exact u2_bool | exact u1_bool | exact u2_sli | exact u1_sli | exact u2_s0 | exact u1_s0))); all_goals (first | (intro p2 hp2; cbv) | (assumption))))
  (first | (apply E_pcallX hE (c_r9Neg ⟨_, ⟨_, _, _, _⟩, ⟨_, _, _, _⟩⟩ ?_); (case hm => rfl); (case hle => (repeat' (first | exact u_nil | apply u_cons | apply u2_agg | exact u2_int | exact u1_int | exact u2_bool | exact u1_bool | exact u2_sli | exact u1_sli | exact u2_s0 | exact u1_s0))); all_goals (first | (intro q2 hq2; cbv) | (exact fa))) | (apply E_callX hE (c_r9Neg ⟨_, ⟨_, _, _, _⟩, ⟨_, _, _, _⟩⟩ ?_); (case hf => rfl); (case hc => (cbv <;> trivial)); (case hle => (repeat' (first | exact u_nil | apply u_cons | apply u2_agg | exact u2_int | exact u1_int | exact u2_bool | exact u1_bool | exact u2_sli | exact u1_sli | exact u2_s0 | exact u1_s0))); all_goals (first | (intro q2 hq2; cbv) | (exact fa))))
  exact (ivEq_of hE p2 q2).trans (decide_eq_true (hp2.trans hq2.symm))

end Go.Proofs.Ytoghalnnmhpfmaa.Ev
