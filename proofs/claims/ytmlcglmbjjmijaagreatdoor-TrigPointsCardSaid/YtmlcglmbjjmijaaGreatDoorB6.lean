/- Texts of the proof, joined and shortened. -/
import Derived.Test.YtmlcglmbjjmijaaGreatDoorB5
set_option linter.unusedVariables false
set_option linter.unusedSimpArgs false
namespace Go.Proofs.YtmlcglmbjjmijaaGreatDoor.Ev
section
open Go Go.Proofs
attribute [local irreducible] Lb
theorem aAH {m : List Int} (h : Lb m) (hl : 0 < m.length) : lv m % 2 = 0 ↔ m.getD 0 0 % 2 = 0 := by
 cases m with
 | nil => exact absurd hl (by simp)
 | cons x r =>
  have := h.head;show (x.toNat + 4294967296 * lv r) % 2 = 0 ↔ x % 2 = 0;omega
theorem aCM {n : Int} (h : 0 ≤ n) : aA .rem .u32 n 2 = n % 2 := by
 show n.tmod 2 = _;exact Bx h
theorem aKU (m : List Int) (h : Lb m) : ∃ t : Bool, t = decide (0 < m.length ∧ lv m % 2 = 0) ∧ aC Tryz.prog 211 [.sli .u32 m] (.bool (.s t)) := by
 refine ⟨_, rfl, ?_⟩;generalize hr : decide (0 < m.length ∧ lv m % 2 = 0) = r;have e := aAH h;have g := h.getD 0;have rm := aCM g.1;refine callsA_o Tryz.func211 fun E hE lp hl' => ?_
 cbv;repeat' (first
   | (refine E_br hE ?_ ?_ <;> intro h <;> cbv)
   | (refine E_nm hE fun v hv => ?_; cbv)
   | (refine aT hE (fun b hb => ?_); cbv)
   | fail)
 all_goals (subst hE)
 · have k : 0 < m.length := by have q : (0 : Int) < (m.length : Int) := cU ‹_›; omega
   rw [← hr];show (aB Tryz.prog).cmp .eql ((aB Tryz.prog).bin .rem .u32 ((aB Tryz.prog).get m 0) 2) 0 = _;rw [show (aB Tryz.prog).bin .rem .u32 ((aB Tryz.prog).get m 0) 2 = m.getD 0 0 % 2 from rm];simp only [aB, aE];exact Bk.2 ⟨fun q => ⟨k, (e k).2 q⟩, fun q => (e k).1 q.2⟩
 · have q1 : (0 : Int) < (m.length : Int) := cU ‹_›;have q2 : ¬ (0 : Int) < (m.length : Int) := aW ‹_›;exact q2 q1
 · have q2 : ¬ (0 : Int) < (m.length : Int) := dB ‹_›;rw [← hr, Az (fun q => q2 (by omega))]
theorem aLG (neg : Bool) (m : List Int) (e : Int) (h : Lb m) (hl : m.length ≤ 125000) (he : -9223372036854775808 ≤ e ∧ e < 9223372036854775808) : ∃ t : Bool × Nat × Int, t = dyMake neg (lv m) e ∧
 aC Tryz.prog 167 [.agg [.bool (.s neg), .sli .u32 m], .int .i64 (.s e)] (.agg [.bool (.s t.1), .sli .u32 (lim t.2.1), .int .i64 (.s t.2.2)]) := by
 refine ⟨_, rfl, ?_⟩;generalize hr : dyMake neg (lv m) e = r;obtain ⟨k, ek⟩ : ∃ k, lv m = k := ⟨_, rfl⟩
 obtain ⟨B, hB, hk⟩ : ∃ B : Nat, B ≤ 4000000 ∧ k < 2 ^ B := by
  have l := bP h;rw [ek, show (4294967296 : Nat) = 2 ^ 32 from rfl, ← Cj] at l;exact ⟨32 * m.length, by omega, l⟩
 have hx : ∀ t : Bool × List Int, t = (neg && decide (lv m ≠ 0), lim (lv m)) → t.2 = lim k ∧ (t.2.length = 0 ↔ k = 0) ∧ (k ≠ 0 → t.1 = neg) := by
  intro t ht;subst ht;rw [ek];have := iJ k;refine ⟨rfl, ⟨fun z => fH.1 (List.length_eq_zero_iff.1 z), fun z => by rw [z]; rfl⟩, fun z => by simp [z]⟩
 have bad : (k = 0 ∨ e < -4194304 ∨ 4194304 < e) → r = (false, 0, 0) := by
  intro z; rw [← hr, ek]; unfold dyMake; rw [if_pos z]
 have big : ¬ (k = 0 ∨ e < -4194304 ∨ 4194304 < e) → 4194304 < e + v2 k → r = (false, 0, 0) := by
  intro z y; rw [← hr, ek]; unfold dyMake; rw [if_neg z, if_pos y]
 have fine : ¬ (k = 0 ∨ e < -4194304 ∨ 4194304 < e) → ¬ 4194304 < e + v2 k → r = (neg, k / 2 ^ v2 k, e + v2 k) := by
  intro z y; rw [← hr, ek]; unfold dyMake; rw [if_neg z, if_neg y]
 obtain ⟨ms, em⟩ : ∃ ms : Int × Int × List Int → Nat, ∀ p, ms p = ((4000000 : Int) - p.1).toNat := ⟨_, fun _ => rfl⟩
 obtain ⟨ok, eok⟩ : ∃ ok : Int × Int × List Int → Prop, ∀ p, ok p ↔ (0 ≤ p.1 ∧ p.2.1 = e + p.1 ∧ p.2.2 = lim (k / 2 ^ p.1.toNat) ∧ v2 k = p.1.toNat + v2 (k / 2 ^ p.1.toNat) ∧ 0 < k / 2 ^ p.1.toNat ∧ p.2.2.length < 67108864) := ⟨_, fun _ => Bs⟩
 have vlt : k ≠ 0 → v2 k < 4000000 := fun z => Av (sY (by omega) hk) hB
 have limlen : ∀ j, (lim (k / 2 ^ j)).length < 67108864 := by
  intro j;have l := bP h;rw [ek] at l;have d : k / 2 ^ j ≤ k := Bo _ _;have := lim_length_le (n := k / 2 ^ j) (k := m.length) (by omega);omega
 have start : k ≠ 0 → ∀ x, x = lim k → ok (0, e, x) := by
  intro z x hx;refine (eok _).2 ⟨Bc _, by show e = e + 0; omega, ?_, ?_, ?_, by rw [hx]; have := limlen 0; simpa using this⟩
  · show x = lim (k / 2 ^ (0 : Int).toNat); rw [hx]; simp
  · show v2 k = (0 : Int).toNat + v2 (k / 2 ^ (0 : Int).toNat); simp
  · show 0 < k / 2 ^ (0 : Int).toNat; simp; omega
 have nextE : ∀ i e' L, k ≠ 0 → ok (i, e', L) → (0 < L.length ∧ lv L % 2 = 0) → ∀ L', L' = (if (1 : Int) < 1 then lim (lv L) else lim (lv L / 2 ^ (1 : Int).toNat)) → ms (i + 1, e' + 1, L') < ms (i, e', L) ∧ ok (i + 1, e' + 1, L') := by
  intro i e' L z hok hev L' hL;obtain ⟨k1, k2, k3, k4, k5, k6⟩ := (eok _).1 hok;dsimp only at k1 k2 k3 k4 k5 k6;rw [k3, aJ] at hev;have rd := (aEI (k := k) (j := i.toNat) (by omega) k4 k5).1 hev.2;have vl := vlt z;rw [if_neg (by decide), k3, aJ, show (2 : Nat) ^ (1 : Int).toNat = 2 from rfl, vA] at hL;have e3 : (i + 1).toNat = i.toNat + 1 := by omega
  refine ⟨by rw [em, em]; show ((4000000 : Int) - (i + 1)).toNat < ((4000000 : Int) - i).toNat; omega, (eok _).2 ⟨by show 0 ≤ i + 1; omega, by show e' + 1 = e + (i + 1); omega, ?_, ?_, ?_, ?_⟩⟩
  · show L' = lim (k / 2 ^ (i + 1).toNat); rw [e3, hL]
  · show v2 k = (i + 1).toNat + v2 (k / 2 ^ (i + 1).toNat); rw [e3]; exact rd.1
  · show 0 < k / 2 ^ (i + 1).toNat; rw [e3]; exact rd.2
  · show L'.length < _; rw [hL]; exact limlen _
 have inv : ∀ i e' L, k ≠ 0 → ok (i, e', L) → 0 ≤ i ∧ i < 4000000 ∧ e' = e + i ∧ Lb L ∧ L.length < 67108864 := by
  intro i e' L z hok;obtain ⟨k1, k2, k3, k4, k5, k6⟩ := (eok _).1 hok;dsimp only at k1 k2 k3 k4 k5 k6;have vl := vlt z;exact ⟨k1, by omega, k2, by rw [k3]; exact lim_lb _, k6⟩
 have odd : ∀ i e' L, k ≠ 0 → ok (i, e', L) → ¬ (0 < L.length ∧ lv L % 2 = 0) → (v2 k : Int) = i ∧ L = lim (k / 2 ^ v2 k) := by
  intro i e' L z hok hev;obtain ⟨k1, k2, k3, k4, k5, k6⟩ := (eok _).1 hok;dsimp only at k1 k2 k3 k4 k5 k6;have od : k / 2 ^ i.toNat % 2 ≠ 0 := by
   intro q; apply hev;rw [k3, aJ];exact ⟨(iJ _).2 (by omega), q⟩
  have rd := (aEI (k := k) (j := i.toNat) (by omega) k4 k5).2 od;exact ⟨by omega, by rw [k3, rd]⟩
 have wr : ∀ i e' : Int, 0 ≤ i → i < 4000000 → e' = e + i → ¬ (k = 0 ∨ e < -4194304 ∨ 4194304 < e) → IntKind.i64.wrap (i + 1) = i + 1 ∧ IntKind.i64.wrap (e' + 1) = e' + 1 := by
  intro i e' a1 a2 a3 a4;rw [wi64, wi64]; omega
 refine callsA_o Tryz.func167 fun E hE lp hl' => ?_
 cbv
 (first | (apply E_callX hE (c_r2Make _ _ h (by omega)); (case hf => rfl); (case hc => (cbv <;> trivial)); (case hle => exact ⟨aI, aN, trivial⟩); intro x hx'; cbv))
 have X := hx x hx';refine E_br hE ?_ ?_ <;> intro g1 <;> cbv
 · rw [bad (.inl (X.2.1.1 (by subst hE; have q : (x.2.length : Int) = 0 := cA g1; omega)))]; exact ⟨rfl, rfl, rfl, trivial⟩
 refine E_br hE ?_ ?_ <;> intro g2 <;> cbv
 · rw [bad (.inr (.inl (by subst hE; exact bF g2)))]; exact ⟨rfl, rfl, rfl, trivial⟩
 refine E_br hE ?_ ?_ <;> intro g3 <;> cbv
 · rw [bad (.inr (.inr (by subst hE; exact cU g3)))]; exact ⟨rfl, rfl, rfl, trivial⟩
 have ok0 : ¬ (k = 0 ∨ e < -4194304 ∨ 4194304 < e) := by
  subst hE;have q1 : ¬ (x.2.length : Int) = 0 := eql_f g1;have q2 := aW g2;have q3 := dB g3;have q4 := X.2.1;omega
 have kz : k ≠ 0 := fun z => by subst hE; have q : ¬ (x.2.length : Int) = 0 := eql_f g1; exact q (by have := X.2.1.2 z; omega)
 refine E_loop hE hG hm hl' (fun p : Int × Int × List Int => (⟨[(1, .int .i64 (.s p.2.1)), (4, .ptr 1 3 (.l 0) 0), (5, .ptr 2 2 (.l 0) 0), (6, .int .i64 (.s p.1))],
   [.rows true 2 [.bool (.l false), .s0] [[.bool (.s neg), .sli .u32 m]], .rows true 3 [.bool (.l false), .s0, .int .i64 (.l 0)] [[.bool (.l false), .s0, .int .i64 (.l 0)]], .rows true 2 [.bool (.l false), .s0] [[.bool (.s x.1), .sli .u32 p.2.2]]]⟩ : St)) ms ok ⟨(0, e, x.2), start kz x.2 X.1, stLe rfl ?_⟩ ?_
 · (repeat' (first | exact bC | apply aV | exact aN | exact aM | exact aI | exact bI | exact aQ | exact (rfl : sle2 .s0 .s0)))
 rintro ⟨i, e', L⟩ hok;have iv := inv i e' L kz hok;have nx := nextE i e' L kz hok;have od := odd i e' L kz hok;clear nextE inv odd start eok hok;cbv;refine E_br hE ?_ ?_ <;> intro gi <;> cbv
 · (apply E_callX hE (aKU L iv.2.2.2.1); (case hf => rfl); (case hc => (cbv <;> trivial)); (case hle => exact ⟨aN, trivial⟩); intro o ho; cbv)
   refine E_br hE ?_ ?_ <;> intro go <;> cbv
   · have q : o = false := by subst hE; have z : (!o) = true := go; simpa using z
     have od' := od (Ce (ho.symm.trans q));refine E_br hE ?_ ?_ <;> intro gb <;> cbv
     · rw [big ok0 (by rw [od'.1, ← iv.2.2.1]; subst hE; exact cU gb)]; exact ⟨rfl, rfl, rfl, trivial⟩
     · rw [fine ok0 (by rw [od'.1, ← iv.2.2.1]; subst hE; exact dB gb)];exact ⟨X.2.2 kz, od'.2, by rw [od'.1]; exact iv.2.2.1, trivial⟩
   · have q : o = true := by subst hE; have z : (!o) = false := go; simpa using z
     (apply E_pcallX hE (aFZ L 1 iv.2.2.2.1 iv.2.2.2.2 (by decide)); (case hm => rfl); (case hle => exact ⟨aN, aM, trivial⟩); intro L' hL'; cbv)
     refine E_nm hE fun e2 he2 => ?_
     cbv;refine E_nm hE fun i2 hi2 => ?_
     cbv;refine ⟨(i2, e2, L'), ?_, ?_, stLe rfl ?_⟩;rotate_right
     · (repeat' (first | exact bC | apply aV | exact aN | exact aM | exact aI | exact bI | exact aQ | exact (rfl : sle2 .s0 .s0)))
     all_goals (have g := nx (Bt (ho.symm.trans q)) L' hL'; have wv := wr i e' iv.1 iv.2.1 iv.2.2.1 ok0; have z1 : e2 = e' + 1 := (by subst hE; exact Eq.trans (b := IntKind.i64.wrap (e' + 1)) he2 wv.2); have z2 : i2 = i + 1 := (by subst hE; exact Eq.trans (b := IntKind.i64.wrap (i + 1)) hi2 wv.1); subst z1; subst z2; first | exact g.1 | exact g.2)
 · exfalso; subst hE; exact aW gi iv.2.1
end
section
open Go Go.Proofs
theorem Num.zX {n : Num} (h : n.fair.kind = 0) : n.fair = Num.zero := by
 have m := n.fair_may;unfold Num.may at m;rw [if_pos h] at m;exact Bt m
theorem aAT (n : Num)  : ∃ t : Bool, t = n.may ∧ aC Tryz.prog 111 [n.av] (.bool (.s t)) := by
 refine ⟨_, rfl, ?_⟩;generalize hr : n.may = r;refine callsA_o Tryz.func111 fun E hE lp hl => ?_
 cbv;repeat' (first
   | (refine E_br hE ?_ ?_ <;> intro h <;> cbv)
   | (refine E_nm hE fun v hv => ?_; cbv)
   | fail)
 all_goals (subst hE; subst hr)
 all_goals (try simp only [aB, aE, aH, aG, aF, aK, aL, aA, Ab, Aa, SI.val, SB.val, Num.eta, Iv.eta] at *)
 all_goals (simp only [Num.may, Num.zero, Num.top, Num.eq_iff])
 all_goals (try simp_all)
 all_goals (try (intros; omega))
 all_goals (try (simp only [Ab]; intros; omega))
theorem pV (n : Num)  : ∃ t : Num, t = n.fair ∧ aC Tryz.prog 168 [n.av] (t.av) := by
 refine ⟨_, rfl, ?_⟩;generalize hr : n.fair = r;refine callsA_o Tryz.func168 fun E hE lp hl => ?_
 cbv;repeat' (first
   | (refine E_br hE ?_ ?_ <;> intro h <;> cbv)
   | (refine E_nm hE fun v hv => ?_; cbv)
   | (refine E_cx hE (aAT ⟨_, _, _, _⟩) ?_; intro t ht; cbv)
   | fail)
 all_goals (subst hE; subst hr)
 all_goals (try simp only [aB, aE, aH, aG, aF, aK, aL, aA, Ab, Aa, SI.val, SB.val, Num.eta, Iv.eta] at *)
 all_goals (try simp_all [Num.fair, Num.zero])
 all_goals (try omega)
 all_goals (try simp only [Ay])
 all_goals (try rfl)
 all_goals ((repeat' split) <;> (try simp_all) <;> (try omega))
theorem rM (b : Bool)  : ∃ t : Num, t = Num.inf b ∧ aC Tryz.prog 174 [.bool (.s b)] (t.av) := by
 refine ⟨_, rfl, ?_⟩;generalize hr : Num.inf b = r;refine callsA_o Tryz.func174 fun E hE lp hl => ?_
 cbv;repeat' (first
   | (refine E_br hE ?_ ?_ <;> intro h <;> cbv)
   | (refine E_nm hE fun v hv => ?_; cbv)
   | fail)
 all_goals (subst hE; subst hr)
 all_goals (try simp only [aB, aE, aH, aG, aF, aK, aL, aA, Ab, Aa, SI.val, SB.val, Num.eta, Iv.eta] at *)
 all_goals (try simp_all [Num.inf])
 all_goals (try omega)
 all_goals (try simp only [Ay])
 all_goals (try rfl)
 all_goals ((repeat' split) <;> (try simp_all) <;> (try omega))
theorem c_rFin (neg : Bool) (m : Int) (e : Int) (away : Bool)  : ∃ t : Num, t = Num.bound neg m e away ∧ aC Tryz.prog 208 [.bool (.s neg), .int .u64 (.s m), .int .i64 (.s e), .bool (.s away)] (t.av) := by
 refine ⟨_, rfl, ?_⟩;generalize hr : Num.bound neg m e away = r;refine callsA_o Tryz.func208 fun E hE lp hl => ?_
 cbv;repeat' (first
   | (refine E_br hE ?_ ?_ <;> intro h <;> cbv)
   | (refine E_nm hE fun v hv => ?_; cbv)
   | (refine E_cx hE (rM _) ?_; intro t ht; cbv)
   | fail)
 all_goals (subst hE; subst hr)
 all_goals (try simp only [aB, aE, aH, aG, aF, aK, aL, aA, Ab, Aa, SI.val, SB.val, Num.eta, Iv.eta] at *)
 all_goals (try simp_all [Num.bound, Num.zero, Num.inf, Num.huge, Num.tiny, Num.top])
 all_goals (try omega)
 all_goals (try simp only [Ay])
 all_goals (try rfl)
 all_goals ((repeat' split) <;> (try simp_all) <;> (try omega))
theorem aOY (n : Num)  : ∃ t : Int, t = n.sign ∧ aC Tryz.prog 106 [n.av] (.int .i64 (.s t)) := by
 refine ⟨_, rfl, ?_⟩;generalize hr : n.sign = r;refine callsA_o Tryz.func106 fun E hE lp hl => ?_
 cbv;repeat' (first
   | (refine E_br hE ?_ ?_ <;> intro h <;> cbv)
   | (refine E_nm hE fun v hv => ?_; cbv)
   | (refine E_cx hE (pV ⟨_, _, _, _⟩) ?_; intro t ht; cbv)
   | fail)
 all_goals (subst hE; subst hr)
 all_goals (try simp only [aB, aE, aH, aG, aF, aK, aL, aA, Ab, Aa, SI.val, SB.val, Num.eta, Iv.eta] at *)
 all_goals (try simp_all [Num.sign])
 all_goals (try omega)
 all_goals (try simp only [Ay])
 all_goals (try rfl)
 all_goals ((repeat' split) <;> (try simp_all) <;> (try omega))
theorem aRU (n : Num)  : ∃ t : Num, t = n.opp ∧ aC Tryz.prog 109 [n.av] (t.av) := by
 refine ⟨_, rfl, ?_⟩;generalize hr : n.opp = r;refine callsA_o Tryz.func109 fun E hE lp hl => ?_
 cbv;repeat' (first
   | (refine E_br hE ?_ ?_ <;> intro h <;> cbv)
   | (refine E_nm hE fun v hv => ?_; cbv)
   | (refine E_cx hE (pV ⟨_, _, _, _⟩) ?_; intro t ht; cbv)
   | fail)
 all_goals (subst hE; subst hr)
 all_goals (try simp only [aB, aE, aH, aG, aF, aK, aL, aA, Ab, Aa, SI.val, SB.val, Num.eta, Iv.eta] at *)
 all_goals (try simp_all [Num.opp])
 all_goals (try (have q := Num.zX ‹n.fair.kind = 0›; simp [q, Num.zero]; done))
theorem c_r6Fair (n : Num)  : ∃ t : Num, t = n.fair ∧ aC Tryz.prog 104 [n.av] (t.av) := by
 refine ⟨_, rfl, ?_⟩;generalize hr : n.fair = r;refine callsA_o Tryz.func104 fun E hE lp hl => ?_
 cbv;repeat' (first
   | (refine E_br hE ?_ ?_ <;> intro h <;> cbv)
   | (refine E_nm hE fun v hv => ?_; cbv)
   | (refine E_cx hE (aAT ⟨_, _, _, _⟩) ?_; intro t ht; cbv)
   | fail)
 all_goals (subst hE; subst hr)
 all_goals (try simp only [aB, aE, aH, aG, aF, aK, aL, aA, Ab, Aa, SI.val, SB.val, Num.eta, Iv.eta] at *)
 all_goals (try simp_all [Num.fair, Num.zero])
 all_goals (try omega)
 all_goals (try simp only [Ay])
 all_goals (try rfl)
 all_goals ((repeat' split) <;> (try simp_all) <;> (try omega))
end
section
open Go Go.Proofs
attribute [local irreducible] Lb
theorem aNO (m : Int) (h0 : 0 ≤ m) (h1 : m < 18446744073709551616) : ∃ t : List Int, t = [m % 4294967296, m / 4294967296] ∧ aC Tryz.prog 215 [.int .u64 (.s m)] (.sli .u32 t) := by
 refine ⟨_, rfl, ?_⟩;generalize hr : [m % 4294967296, m / 4294967296] = r;have w1 : IntKind.u32.wrap (aA .rem .u64 m 4294967296) = m % 4294967296 := by rw [uC h0, wu32]; omega
 have w2 : IntKind.u32.wrap (aA .quo .u64 m 4294967296) = m / 4294967296 := by rw [tT h0 h1, wu32]; omega
 refine callsA_o Tryz.func215 fun E hE lp hl' => ?_
 cbv;repeat' (first
   | (refine E_br hE ?_ ?_ <;> intro h <;> cbv)
   | (refine E_nm hE fun v hv => ?_; cbv)
   | (refine aT hE (fun b hb => ?_); cbv)
   | fail)
 subst hE;rw [← hr, ← w1, ← w2];rfl
theorem aJC {x : Nat} {y : Int} (hx : x < 4294967296) (hy : 0 ≤ y ∧ y < 4294967296) : IntKind.u64.wrap (IntKind.u64.wrap ((x : Int) * 4294967296) + IntKind.u64.wrap y) = ((y.toNat + 4294967296 * x : Nat) : Int) := by
 rw [wu64, wu64, wu64]; omega
theorem tS (m : List Int) (h : Lb m) (hl : m.length ≤ 2) : ∃ t : Int, t = (lv m : Int) ∧ aC Tryz.prog 209 [.sli .u32 m] (.int .u64 (.s t)) := by
 refine ⟨_, rfl, ?_⟩;generalize hr : (lv m : Int) = r;obtain ⟨ms, em⟩ : ∃ ms : Int × Int → Nat, ∀ p, ms p = (p.1 + 1).toNat := ⟨_, fun _ => rfl⟩
 obtain ⟨ok, eok⟩ : ∃ ok : Int × Int → Prop, ∀ p, ok p ↔ (-1 ≤ p.1 ∧ p.1 < m.length ∧ p.2 = (lv (m.drop (p.1 + 1).toNat) : Int)) := ⟨_, fun _ => Bs⟩
 have start : ∀ i, i = IntKind.i64.wrap ((m.length : Int) - 1) → ok (i, 0) := by
  intro i hi;have e : i = m.length - 1 := by rw [hi, wi64]; omega
  refine (eok _).2 ⟨by show -1 ≤ i; omega, by show i < _; omega, ?_⟩;show 0 = (lv (m.drop (i + 1).toNat) : Int);rw [show (i + 1).toNat = m.length by omega, List.drop_length]; rfl
 have next : ∀ i n, ok (i, n) → 0 ≤ i → ∀ n', n' = IntKind.u64.wrap (IntKind.u64.wrap (n * 4294967296) + IntKind.u64.wrap (m.getD i.toNat 0)) → ms (IntKind.i64.wrap (i - 1), n') < ms (i, n) ∧ ok (IntKind.i64.wrap (i - 1), n') := by
  intro i n hok hi n' hn';obtain ⟨k1, k2, k3⟩ := (eok _).1 hok;dsimp only at k1 k2 k3;have g := h.getD i.toNat;have small : lv (m.drop (i + 1).toNat) < 4294967296 := by
   have l := bP (h.drop (i + 1).toNat);have : (m.drop (i + 1).toNat).length ≤ 1 := by rw [List.length_drop]; omega
   have p : (4294967296 : Nat) ^ (m.drop (i + 1).toNat).length ≤ 4294967296 ^ 1 := Ag (by decide) this;omega
  rw [k3, aJC small g] at hn';have e : IntKind.i64.wrap (i - 1) = i - 1 := by rw [wi64]; omega
  rw [e];refine ⟨by rw [em, em]; show (i - 1 + 1).toNat < (i + 1).toNat; omega, (eok _).2 ⟨by show -1 ≤ i - 1; omega, by show i - 1 < _; omega, ?_⟩⟩;show n' = (lv (m.drop (i - 1 + 1).toNat) : Int);rw [hn', show (i - 1 + 1).toNat = i.toNat by omega, qQ m i.toNat, show (i + 1).toNat = i.toNat + 1 by omega]
 have stop : ∀ i n, ok (i, n) → ¬ 0 ≤ i → n = r := by
  intro i n hok hi;obtain ⟨k1, k2, k3⟩ := (eok _).1 hok;dsimp only at k1 k2 k3;rw [k3, show (i + 1).toNat = 0 by omega, List.drop_zero, hr]
 have bnd : ∀ i n, ok (i, n) → i < m.length := by
  intro i n hok;exact ((eok _).1 hok).2.1
 refine callsA_o Tryz.func209 fun E hE lp hl' => ?_
 cbv;refine E_nm hE fun i0 hi0 => ?_
 cbv;refine E_loop hE hG hm hl' (fun p : Int × Int => (⟨[(0, .sli .u32 m), (3, .int .u64 (.s p.2)), (4, .int .i64 (.s p.1))], []⟩ : St)) ms ok ⟨(i0, 0), (by subst hE; exact start i0 hi0), stLe rfl ?_⟩ ?_
 · (repeat' (first | exact bC | apply aV | exact aN | exact aM | exact aI | exact bI | exact aQ | exact (rfl : sle2 .s0 .s0)))
 rintro ⟨i, n⟩ hok;have nx := next i n hok
 have sp := stop i n hok;have bd := bnd i n hok;clear next stop bnd start hok
 cbv;refine E_br hE ?_ ?_ <;> intro g1 <;> cbv
 · have i0' : 0 ≤ i := by subst hE; exact lQ g1
   refine E_br hE ?_ ?_ <;> intro g2 <;> cbv
   · refine E_br hE ?_ ?_ <;> intro g3 <;> cbv
     · refine E_nm hE fun n2 hn2 => ?_
       cbv;refine E_nm hE fun i2 hi2 => ?_
       cbv;refine ⟨(i2, n2), ?_, ?_, stLe rfl ?_⟩;rotate_right
       · (repeat' (first | exact bC | apply aV | exact aN | exact aM | exact aI | exact bI | exact aQ | exact (rfl : sle2 .s0 .s0)))
       all_goals (subst hE; have g := nx i0' n2 hn2; have z : i2 = IntKind.i64.wrap (i - 1) := hi2; subst z; first | exact g.1 | exact g.2)
     · exfalso; subst hE; exact aW g3 bd
   · exfalso; subst hE; exact bQ g2 i0'
 · refine E_nm hE fun z hz => ?_
   cbv;subst hE;exact Eq.trans (b := n) hz (sp (kH g1))
theorem yE {m : Int} (h0 : 0 ≤ m) (h1 : m < 18446744073709551616) : Lb [m % 4294967296, m / 4294967296] :=
 Lb.cons (by omega) (by omega) (Lb.cons (by omega) (by omega) Lb.nil)
theorem yW {m : Int} (h0 : 0 ≤ m) : lv [m % 4294967296, m / 4294967296] = m.toNat := by
 simp only [lv]; omega
theorem dP (neg : Bool) (m : List Int) (e : Int) (h : Lb m) (hl : m.length ≤ 125000) (he : -9223372036854775808 ≤ e ∧ e < 9223372036854775808) : ∃ t : Bool × List Int × Int, t = dyL (dyMake neg (lv m) e) ∧
 aC Tryz.prog 167 [.agg [.bool (.s neg), .sli .u32 m], .int .i64 (.s e)] (.agg [.bool (.s t.1), .sli .u32 t.2.1, .int .i64 (.s t.2.2)]) := by
 obtain ⟨t, ht, hC⟩ := aLG neg m e h hl he;refine ⟨dyL t, by rw [ht], hC⟩
theorem eZ {k : Nat} {m : List Int} (h : Lb m) (hk : k ≤ lv m) : (lim k).length ≤ m.length := lim_length_le (by have := bP h; omega)
theorem uW (n : Num) (ho : n.ok) : ∃ t : (Bool × List Int × Int) × Bool, t = (dyL n.exact.1, n.exact.2) ∧ aC Tryz.prog 175 [n.av] (.tup [.agg [.bool (.s t.1.1), .sli .u32 t.1.2.1, .int .i64 (.s t.1.2.2)], .bool (.s t.2)]) := by
 refine ⟨_, rfl, ?_⟩;generalize hr : (dyL n.exact.1, n.exact.2) = r;have bad : (n.may = false ∨ n.kind = 2) → r = ((false, [], 0), false) := by intro h; rw [← hr]; unfold Num.exact; rw [if_pos h]; rfl
 have zer : ¬ (n.may = false ∨ n.kind = 2) → n.kind = 0 → r = ((false, [], 0), true) := by intro h g; rw [← hr]; unfold Num.exact; rw [if_neg h, if_pos g]; rfl
 have fin : ¬ (n.may = false ∨ n.kind = 2) → n.kind ≠ 0 → r = (dyL (dyMake n.neg n.m.toNat n.e), true) ∧ n.m.toNat ≠ 0 ∧ -1048576 ≤ n.e ∧ n.e ≤ 1048576 := by
  intro h g;have mm : n.may = true := by cases q : n.may; exact absurd (.inl q) h; rfl
  have F : n.Fin := by
   rcases Num.may3 mm ho with k | k | k
   · rw [k] at g; exact absurd rfl g
   · exact k
   · exfalso; apply h; right; rw [k]; rfl
  have := F.lo;refine ⟨?_, by omega, F.elo, F.ehi⟩;rw [← hr]; unfold Num.exact; rw [if_neg h, if_neg g]
 have lb := yE ho.1 ho.2;have lvl := yW ho.1;refine callsA_o Tryz.func175 fun E hE lp hl' => ?_
 cbv
 (refine E_cx hE (aAT ⟨_, _, _, _⟩) ?_; intro o ho_; cbv)
 refine E_br hE ?_ ?_ <;> intro g1 <;> cbv
 · rw [bad (.inl (by subst hE; have z : (!o) = true := g1; rw [← show o = n.may from ho_]; simpa using z))]; exact ⟨⟨rfl, rfl, rfl, trivial⟩, rfl, trivial⟩
 have m1 : n.may = true := by subst hE; have z : (!o) = false := g1; rw [← show o = n.may from ho_]; simpa using z
 refine E_br hE ?_ ?_ <;> intro g2 <;> cbv
 · rw [bad (.inr (by subst hE; exact cA g2))]; exact ⟨⟨rfl, rfl, rfl, trivial⟩, rfl, trivial⟩
 have m2 : ¬ (n.may = false ∨ n.kind = 2) := by
  rintro (z | z)
  · rw [m1] at z; cases z
  · subst hE; exact eql_f g2 z
 refine E_br hE ?_ ?_ <;> intro g3 <;> cbv
 · rw [zer m2 (by subst hE; exact cA g3)]; exact ⟨⟨rfl, rfl, rfl, trivial⟩, rfl, trivial⟩
 have K := fin m2 (by subst hE; exact eql_f g3)
 (refine E_px hE (aNO _ ho.1 ho.2) ?_; intro x hx; cbv)
 have X : Lb x ∧ x.length ≤ 125000 ∧ lv x = n.m.toNat := by
  have hx' : x = [n.m % 4294967296, n.m / 4294967296] := hx;rw [hx']; exact ⟨lb, by show 2 ≤ 125000; decide, lvl⟩
 (refine E_px hE (c_r2Make _ _ X.1 ?_) ?_; all_goals (first | (intro w hw; cbv) | (exact Ae X.2.1 (by decide))))
 have W : w.1 = n.neg ∧ Lb w.2 ∧ w.2.length ≤ 125000 ∧ lv w.2 = n.m.toNat := by
  have hw' : w = (n.neg && decide (lv x ≠ 0), lim (lv x)) := hw;rw [hw', X.2.2];refine ⟨by simp [K.2.1], lim_lb _, ?_, aJ _⟩;have q := eZ X.1 (k := n.m.toNat) (by rw [X.2.2]; exact Ba _);exact Ae q X.2.1
 (refine E_px hE (dP _ _ _ W.2.1 W.2.2.1 ?_) ?_; all_goals (first | (intro t ht; cbv) | (exact ⟨De (by decide) K.2.2.1, Dk K.2.2.2 (by decide)⟩)))
 rw [K.1, ← W.1, ← W.2.2.2];rw [show t = dyL (dyMake w.1 (lv w.2) n.e) from ht];exact ⟨⟨rfl, rfl, rfl, trivial⟩, rfl, trivial⟩
theorem mP (neg : Bool) (m : List Int) (e : Int) (up : Bool) (h : Lb m) (hl : m.length ≤ 62500) (he : -9223372036854775808 ≤ e ∧ e < 9223372036854775808) :
 ∃ t : Num, t = rnd (dyMake neg (lv m) e).1 (dyMake neg (lv m) e).2.1 (dyMake neg (lv m) e).2.2 up ∧
 aC Tryz.prog 166 [.agg [.bool (.s neg), .sli .u32 m, .int .i64 (.s e)], .bool (.s up)] t.av := by
 refine ⟨_, rfl, ?_⟩;have rg := fB neg (lv m) e;have dl := fun k (hk : k ≤ lv m) => eZ h hk
 generalize ed : dyMake neg (lv m) e = d at *
 generalize hr : rnd d.1 d.2.1 d.2.2 up = r;obtain ⟨ng, k, e1⟩ := d;dsimp only at rg hr;have rg1 := rg.1;have rg2 := rg.2.1;have hk := dl k rg.2.2;have lbk := lim_lb k;have vk := aJ k;have kb := uE lbk;rw [vk] at kb;have kb0 := aX (k : Int);have few := fun (h0 : 0 < k) => aGL h0
 have many := fun (h0 : 0 < k) => wJ h0
 have zer : k = 0 → r = Num.zero := by intro z; rw [← hr]; unfold rnd; rw [if_pos z]
 have lo : k ≠ 0 → blen (k : Int) ≤ 64 → r = Num.bound ng ((k * 2 ^ (64 - blen (k : Int)).toNat : Nat) : Int) (e1 + blen (k : Int) - 64) (up != ng) := by
  intro z y; rw [← hr]; unfold rnd; rw [if_neg z, if_pos y]
 have hi : k ≠ 0 → ¬ blen (k : Int) ≤ 64 → r = Num.grow ng ((k / 2 ^ (blen (k : Int) - 64).toNat : Nat) : Int) (e1 + blen (k : Int) - 64) true (up != ng) := by
  intro z y; rw [← hr]; unfold rnd; rw [if_neg z, if_neg y]
 have bw : blen (k : Int) ≤ 2000000 := by
  have q : ((lim k).length : Int) ≤ 62500 := by omega
  omega
 have F1 : IntKind.i64.wrap (IntKind.i64.wrap (e1 + blen (k : Int)) - 64) = e1 + blen (k : Int) - 64 := by rw [wi64, wi64]; omega
 have F2 : IntKind.i64.wrap (64 - blen (k : Int)) = 64 - blen (k : Int) := by rw [wi64]; omega
 have F3 : IntKind.i64.wrap (blen (k : Int) - 64) = blen (k : Int) - 64 := by rw [wi64]; omega
 have F4 : IntKind.i64.wrap (e1 + blen (k : Int) - 64 + 1) = e1 + blen (k : Int) - 64 + 1 := by rw [wi64]; omega
 have F5 : blen (k : Int) - 64 < 9223372036854775807 := by omega
 have l1 : Lb [(1 : Int)] := Lb.cons (by decide) (by decide) Lb.nil;have Tp : ∀ s, 64 < blen (k : Int) → k / 2 ^ (blen (k : Int) - 64).toNat < 18446744073709551616 → s = (if blen (k : Int) - 64 < 1 then lim k else lim (k / 2 ^ (blen (k : Int) - 64).toNat)) → Lb s ∧ s.length ≤ 2 ∧ lv s = k / 2 ^ (blen (k : Int) - 64).toNat := by
  intro s b kk hs;rw [if_neg (by omega)] at hs;rw [hs];exact ⟨lim_lb _, pQ kk, aJ _⟩
 have Up : ∀ u, k / 2 ^ (blen (k : Int) - 64).toNat < 18446744073709551616 → u = lim (k / 2 ^ (blen (k : Int) - 64).toNat + lv [(1 : Int)]) → Lb u ∧ u.length ≤ 3 ∧ lv u = k / 2 ^ (blen (k : Int) - 64).toNat + 1 := by
  intro u kk hu;rw [hu];refine ⟨lim_lb _, lim_length_le ?_, aJ _⟩;show k / 2 ^ (blen (k : Int) - 64).toNat + 1 < 4294967296 ^ 3;omega
 have Gr : 64 < blen (k : Int) → r = Num.grow ng ((k / 2 ^ (blen (k : Int) - 64).toNat : Nat) : Int) (e1 + blen (k : Int) - 64) true (up != ng) → (9223372036854775808 ≤ k / 2 ^ (blen (k : Int) - 64).toNat ∧ k / 2 ^ (blen (k : Int) - 64).toNat < 18446744073709551616) →
  ((
    up != ng) = true → (64 < blen ((k / 2 ^ (blen (k : Int) - 64).toNat + 1 : Nat) : Int) → r = Num.bound ng ((9223372036854775808 : Nat) : Int) (e1 + blen (k : Int) - 64 + 1) true ∧ (k / 2 ^ (blen (k : Int) - 64).toNat + 1) / 2 ^ (1 : Int).toNat = 9223372036854775808) ∧
    (¬ 64 < blen ((k / 2 ^ (blen (k : Int) - 64).toNat + 1 : Nat) : Int) → r = Num.bound ng ((k / 2 ^ (blen (k : Int) - 64).toNat + 1 : Nat) : Int) (e1 + blen (k : Int) - 64) true ∧ k / 2 ^ (blen (k : Int) - 64).toNat + 1 < 18446744073709551616)) ∧
  ((up != ng) = false → r = Num.bound ng ((k / 2 ^ (blen (k : Int) - 64).toNat : Nat) : Int) (e1 + blen (k : Int) - 64) false) := by
  intro b hr m;generalize k / 2 ^ (blen (k : Int) - 64).toNat = v at *
  have tm := aNX m.1 m.2;refine ⟨fun a => ⟨fun c => ?_, fun c => ?_⟩, fun a => ?_⟩
  · have e := tm.1.1 c;refine ⟨?_, tm.2 e⟩;rw [hr, a];unfold Num.grow;rw [if_pos (show (true && true) = true from rfl), if_pos (by rw [e]; decide), F4];rfl
  · have e : v ≠ 18446744073709551615 := fun z => c (tm.1.2 z)
    refine ⟨?_, by omega⟩;rw [hr, a];unfold Num.grow;have w : IntKind.u64.wrap ((v : Int) + 1) = ((v + 1 : Nat) : Int) := by rw [wu64]; omega
    rw [if_pos (show (true && true) = true from rfl), w, if_neg (by omega)]
  · rw [hr, a];unfold Num.grow;rw [if_neg (by decide)]
 have Sh : ∀ s, blen (k : Int) ≤ 64 → k * 2 ^ (64 - blen (k : Int)).toNat < 18446744073709551616 → s = (if 64 - blen (k : Int) < 1 then lim k else if 16777216 < 64 - blen (k : Int) then [] else lim (k * 2 ^ (64 - blen (k : Int)).toNat)) →
  Lb s ∧ s.length ≤ 2 ∧ lv s = k * 2 ^ (64 - blen (k : Int)).toNat := by
  intro s b kk hs;have e : s = lim (k * 2 ^ (64 - blen (k : Int)).toNat) := by
   rw [hs];split
   · rw [show (64 - blen (k : Int)).toNat = 0 by omega]; simp
   · rw [if_neg (by omega)]
  rw [e];exact ⟨lim_lb _, pQ kk, aJ _⟩
 refine callsA_o Tryz.func166 fun E hE lp hl' => ?_
 cbv
 (refine E_cx hE (dP _ _ _ h ?_ he) ?_; all_goals (first | (intro x hx; cbv) | (exact Ae hl (by decide))))
 have X : x = (ng, lim k, e1) := by rw [hx]; show dyL (dyMake neg (lv m) e) = _; rw [ed]; rfl
 have x1 : x.1 = ng := by rw [X]
 have x2 : x.2.1 = lim k := by rw [X]
 have x3 : x.2.2 = e1 := by rw [X]
 clear X hx;refine E_br hE ?_ ?_ <;> intro g1 <;> cbv
 · have z : k = 0 := by
    subst hE;have q : (x.2.1.length : Int) = 0 := cA g1;rw [x2] at q;exact fH.1 (List.length_eq_zero_iff.1 (by omega))
   rw [zer z]; exact ⟨rfl, rfl, rfl, rfl, trivial⟩
 have kz : k ≠ 0 := by
  intro z;subst hE;have q : ¬ (x.2.1.length : Int) = 0 := eql_f g1;rw [x2, z] at q;exact q rfl
 have few := few (by omega);have many := many (by omega);have lo := lo kz;have hi := hi kz;have xl : Lb x.2.1 ∧ x.2.1.length ≤ 62500 := by rw [x2]; exact ⟨lbk, Ae hk hl⟩
 (refine E_cx hE (aAP _ xl.1 ?_) ?_; all_goals (first | (intro nn hn; cbv) | (exact Ae xl.2 (by decide))))
 refine E_nm hE (fun n hn' => ?_);cbv;have nB : n = blen (k : Int) := by
  have q : nn = blen (lv x.2.1 : Int) := hn;rw [x2, vk] at q;subst hE; exact Eq.trans (b := nn) hn' q
 have ea : E.bnot (E.beq up x.1) = (up != ng) := by rw [x1]; subst hE; rfl
 have ee : E.bin .sub .i64 (E.bin .add .i64 x.2.2 n) 64 = e1 + blen (k : Int) - 64 := by
  rw [x3, nB]; subst hE;exact F1
 refine E_br hE ?_ ?_ <;> intro g2 <;> cbv
 · have b64 : blen (k : Int) ≤ 64 := by rw [← nB]; subst hE; exact kI g2
   have en : E.bin .sub .i64 64 n = 64 - blen (k : Int) := by rw [nB]; subst hE; exact F2
   have kk := few b64
   (refine E_px hE (lW _ _ xl.1 ?_) ?_; all_goals (first | (intro s hs; cbv) | (exact Ah xl.2 (by decide))))
   have S : Lb s ∧ s.length ≤ 2 ∧ lv s = k * 2 ^ (64 - blen (k : Int)).toNat := by
    have q : s = (if E.bin .sub .i64 64 n < 1 then lim (lv x.2.1) else if 16777216 < E.bin .sub .i64 64 n then [] else lim (lv x.2.1 * 2 ^ (E.bin .sub .i64 64 n).toNat)) := hs;rw [en, x2, vk] at q;exact Sh s b64 kk q
   (refine E_px hE (tS _ S.1 S.2.1) ?_; intro w hw; cbv)
   (refine E_px hE (c_rFin _ _ _ _) ?_; intro t ht; cbv)
   have ht' : t = Num.bound x.1 w (E.bin .sub .i64 (E.bin .add .i64 x.2.2 n) 64) (E.bnot (E.beq up x.1)) := ht;rw [ee, ea, x1, show w = (lv s : Int) from hw, S.2.2, ← lo b64] at ht';rw [ht']; exact ⟨rfl, rfl, rfl, rfl, trivial⟩
 · have b64 : ¬ blen (k : Int) ≤ 64 := by rw [← nB]; subst hE; exact bQ g2
   have en : E.bin .sub .i64 n 64 = blen (k : Int) - 64 := by rw [nB]; subst hE; exact F3
   have M := many (Int.not_le.1 b64)
   (refine E_cx hE (aFZ _ _ xl.1 ?_ ?_) ?_; all_goals (first | (intro s hs; cbv) | (first | exact Ah xl.2 (by decide) | (show E.bin .sub .i64 n 64 < 9223372036854775807; rw [en]; exact F5))))
   have T : Lb s ∧ s.length ≤ 2 ∧ lv s = k / 2 ^ (blen (k : Int) - 64).toNat := by
    have q : s = (if E.bin .sub .i64 n 64 < 1 then lim (lv x.2.1) else lim (lv x.2.1 / 2 ^ (E.bin .sub .i64 n 64).toNat)) := hs;rw [en, x2, vk] at q;exact Tp s (Int.not_le.1 b64) M.2 q
   have G := Gr (Int.not_le.1 b64) (hi b64) M;refine E_nm hE fun e2 he2 => ?_
   cbv;have ee2 : e2 = e1 + blen (k : Int) - 64 := Eq.trans (b := E.bin .sub .i64 (E.bin .add .i64 x.2.2 n) 64) he2 ee;have es : E.sub [1] 0 1 = [1] := by subst hE; rfl
   refine E_br hE ?_ ?_ <;> intro g3 <;> cbv
   · have a1 : (up != ng) = true := ea.symm.trans g3
     (refine E_cx hE (oD _ _ T.1 ?_ ?_ ?_) ?_; all_goals (first | (intro u hu; cbv) | (first | exact Ah T.2.1 (by decide) | (show Lb (E.sub [1] 0 1); rw [es]; exact l1) | (show (E.sub [1] 0 1).length < 268435456; rw [es]; show (1 : Nat) < 268435456; decide))))
     have U : Lb u ∧ u.length ≤ 3 ∧ lv u = k / 2 ^ (blen (k : Int) - 64).toNat + 1 := by
      have q : u = lim (lv s + lv (E.sub [1] 0 1)) := hu;rw [es, T.2.2] at q;exact Up u M.2 q
     (refine E_cx hE (aAP _ U.1 ?_) ?_; all_goals (first | (intro n2 hn2; cbv) | (exact Ae U.2.1 (by decide))))
     have n2e : n2 = blen ((k / 2 ^ (blen (k : Int) - 64).toNat + 1 : Nat) : Int) := by rw [← U.2.2]; exact hn2
     refine E_br hE ?_ ?_ <;> intro g4 <;> cbv
     · have c : 64 < blen ((k / 2 ^ (blen (k : Int) - 64).toNat + 1 : Nat) : Int) := by rw [← n2e]; subst hE; exact cU g4
       have GG := (G.1 a1).1 c
       (refine E_cx hE (aFZ _ 1 U.1 ?_ ?_) ?_; all_goals (first | (intro y hy; cbv) | (first | exact Ah U.2.1 (by decide) | (show (1 : Int) < 9223372036854775807; decide))))
       have Y : Lb y ∧ y.length ≤ 2 ∧ lv y = 9223372036854775808 := by
        have q : y = (if (1 : Int) < 1 then lim (lv u) else lim (lv u / 2 ^ (1 : Int).toNat)) := hy;rw [if_neg (by decide), U.2.2, GG.2] at q;rw [q]; exact ⟨lim_lb _, pQ (by decide), aJ _⟩
       refine E_nm hE fun e3 he3 => ?_
       cbv;have ee3 : e3 = e1 + blen (k : Int) - 64 + 1 := by subst hE; rw [← F4, ← ee2]; exact he3
       (refine E_px hE (tS _ Y.1 Y.2.1) ?_; intro w hw; cbv)
       (refine E_px hE (c_rFin _ _ _ _) ?_; intro t ht; cbv)
       have ht' : t = Num.bound x.1 w e3 (E.bnot (E.beq up x.1)) := ht;rw [ee3, ea, x1, show w = (lv y : Int) from hw, Y.2.2, a1] at ht';have e : t = r := ht'.trans GG.1.symm;rw [e]; exact ⟨rfl, rfl, rfl, rfl, trivial⟩
     · have c : ¬ 64 < blen ((k / 2 ^ (blen (k : Int) - 64).toNat + 1 : Nat) : Int) := by rw [← n2e]; subst hE; exact dB g4
       have GG := (G.1 a1).2 c;have UL : k / 2 ^ (blen (k : Int) - 64).toNat + 1 < 18446744073709551616 → u.length ≤ 2 := fun z => by have q : u = lim (lv s + lv (E.sub [1] 0 1)) := hu; rw [es, T.2.2] at q; rw [q]; exact pQ z
       (refine E_px hE (tS _ U.1 ?_) ?_; all_goals (first | (intro w hw; cbv) | (exact UL GG.2)))
       (refine E_px hE (c_rFin _ _ _ _) ?_; intro t ht; cbv)
       have ht' : t = Num.bound x.1 w e2 (E.bnot (E.beq up x.1)) := ht;rw [ee2, ea, x1, show w = (lv u : Int) from hw, U.2.2, a1] at ht';have e : t = r := ht'.trans GG.1.symm;rw [e]; exact ⟨rfl, rfl, rfl, rfl, trivial⟩
   · have a1 : (up != ng) = false := ea.symm.trans g3;have GG := G.2 a1
     (refine E_px hE (tS _ T.1 T.2.1) ?_; intro w hw; cbv)
     (refine E_px hE (c_rFin _ _ _ _) ?_; intro t ht; cbv)
     have ht' : t = Num.bound x.1 w e2 (E.bnot (E.beq up x.1)) := ht;rw [ee2, ea, x1, show w = (lv s : Int) from hw, T.2.2, a1] at ht';have e : t = r := ht'.trans GG.symm;rw [e]; exact ⟨rfl, rfl, rfl, rfl, trivial⟩
theorem aLF (k : Nat) : k < 4294967296 ^ (lim k).length := by
 have := bP (lim_lb k);rwa [aJ] at this
theorem aER (p : Bool × Nat × Int) (up : Bool) (hp : (lim p.2.1).length ≤ 62500) (ep : -9223372036854775808 ≤ p.2.2 ∧ p.2.2 < 9223372036854775808) (x : Bool × List Int × Int) (hx : x = dyL p) : ∃ t : Num, t = fL p up ∧
 aC Tryz.prog 166 [.agg [.bool (.s x.1), .sli .u32 x.2.1, .int .i64 (.s x.2.2)], .bool (.s up)] t.av := by
 subst hx;obtain ⟨t, ht, hC⟩ := mP p.1 (lim p.2.1) p.2.2 up (lim_lb _) hp ep;refine ⟨t, ?_, hC⟩;rw [ht, aJ]; rfl
theorem aKL {n : Num} (h : n.ok) : (lim n.exact.1.2.1).length ≤ 2 ∧ -9223372036854775808 ≤ n.exact.1.2.2 ∧ n.exact.1.2.2 < 9223372036854775808 := by
 unfold Num.exact;split
 · exact ⟨by show (lim 0).length ≤ 2; decide, by show (-9223372036854775808 : Int) ≤ 0; decide, by show (0 : Int) < 9223372036854775808; decide⟩
 · split
   · exact ⟨by show (lim 0).length ≤ 2; decide, by show (-9223372036854775808 : Int) ≤ 0; decide, by show (0 : Int) < 9223372036854775808; decide⟩
   · have r := fB n.neg n.m.toNat n.e;have := h.1;have := h.2;exact ⟨pQ (by show (dyMake n.neg n.m.toNat n.e).2.1 < _; omega), by show -9223372036854775808 ≤ (dyMake n.neg n.m.toNat n.e).2.2; omega, by show (dyMake n.neg n.m.toNat n.e).2.2 < 9223372036854775808; omega⟩
end
section
open Go
theorem aQF {ng : Bool} {k : Nat} {e : Int} (up : Bool) (hk : k % 2 = 1) (hb : 64 < blen (k : Int)) :
 ∃ s : Nat, 1 ≤ s ∧ blen (k : Int) = 64 + s ∧ rnd ng k e up = Num.grow ng ((k / 2 ^ s : Nat) : Int) (e + s) true (up != ng) ∧ 9223372036854775808 ≤ k / 2 ^ s ∧ k / 2 ^ s < 18446744073709551616 ∧
  2 ^ s * (k / 2 ^ s) + 1 ≤ k ∧ k + 1 ≤ 2 ^ s * (k / 2 ^ s) + 2 ^ s := by
 have k0 : 0 < k := by omega
 have f := wJ k0 hb;obtain ⟨s, hs⟩ : ∃ s : Nat, (blen (k : Int) - 64).toNat = s := ⟨_, rfl⟩
 have es : blen (k : Int) = 64 + (s : Int) := by omega
 rw [hs] at f;have p2 : 0 < 2 ^ s := Bg (by decide);have ev : 2 ^ s % 2 = 0 := by
  have : s = (s - 1) + 1 := by omega
  rw [this, Aq]; omega
 have dm := Ch k (2 ^ s);have dl := Cz k p2;have nz : k % 2 ^ s ≠ 0 := by
  intro z;rw [z] at dm;have : k % 2 = 0 := by rw [← dm, Bn, Nat.mul_mod, ev]; simp
  omega
 refine ⟨s, by omega, es, ?_, f.1, f.2, by omega, by omega⟩;unfold rnd;rw [if_neg (by omega), if_neg (by omega), hs, show e + blen (k : Int) - 64 = e + s by omega]
def jY (ka kb : Nat) : Nat := 2 * (ka * 2 ^ (70 + blen (kb : Int)).toNat / kb) + (if ka * 2 ^ (70 + blen (kb : Int)).toNat % kb = 0 then 0 else 1)
def fT (na : Bool) (ka : Nat) (nb : Bool) (kb : Nat) (e : Int) (up : Bool) : Num :=
 if kb = 0 then Num.inf (!up) else fL (dyMake ((na != nb) && decide (jY ka kb ≠ 0)) (jY ka kb) (e - (70 + blen (kb : Int)) - 1)) up
theorem aGI {na nb : Bool} {ka kb : Nat} {e : Int} (up : Bool) (hka : 0 < ka) (hkb : 0 < kb) (la : blen (ka : Int) ≤ 300000) (lb : blen (kb : Int) ≤ 300000) (he : -2500000 ≤ e) (he' : e ≤ 2500000)
 {T c : Int} (hc : 0 < c) (hT : T * kb = ka * pw e * c) : Best (fT na ka nb kb e up) up (if (na != nb) then -T else T) c := by
 obtain ⟨B, hB⟩ : ∃ B : Nat, (70 + blen (kb : Int)).toNat = B := ⟨_, rfl⟩
 have b0 := aX (kb : Int);have eB : 70 + blen (kb : Int) = B := by omega
 obtain ⟨nb', h1, h2, h3⟩ := fA hkb;obtain ⟨na', g1, g2, g3⟩ := fA hka;obtain ⟨N, hN⟩ : ∃ N, ka * 2 ^ B = N := ⟨_, rfl⟩
 have dm := Ch N kb;have dl := Cz N hkb;obtain ⟨q, hq⟩ : ∃ q, N / kb = q := ⟨_, rfl⟩
 obtain ⟨r, hr⟩ : ∃ r, N % kb = r := ⟨_, rfl⟩
 have hM : jY ka kb = 2 * q + (if r = 0 then 0 else 1) := by unfold jY; rw [hB, hN, hq, hr]
 rw [hq, hr] at dm;rw [hr] at dl;have qlo : 2 ^ 69 ≤ q := by
  rw [← hq, Cu hkb, ← hN];have a1 : 2 ^ 69 * kb ≤ 2 ^ 69 * 2 ^ (nb' + 1) := As _ (Dz h3);rw [← Ap] at a1;have a2 : 2 ^ (69 + (nb' + 1)) ≤ 2 ^ B := Ag (by decide) (by omega);have a3 : 1 * 2 ^ B ≤ ka * 2 ^ B := Ai _ hka;omega
 have qhi : q < 2 ^ (na' + 1 + B) := by
  rw [← hq];refine Ah (Bo _ _) ?_;rw [← hN, Ap];exact Cg g3 (Bg (by decide))
 obtain ⟨E, hE⟩ : ∃ E : Int, e - (70 + blen (kb : Int)) - 1 = E := ⟨_, rfl⟩
 have pE := bG E;have e1 := eK (e := E) (f := B + 1) (by omega) (by omega);rw [show E + ((B : Int) + 1) = e by omega, show ((B : Int) + 1).toNat = B + 1 by omega] at e1;have TN : T * kb = ((2 * N : Nat) : Int) * (pw E * c) := by
  rw [hT, e1, ← hN, Int.pow_succ]; push_cast; grind
 have kc : (0 : Int) < kb := by omega
 have pc : 0 < pw E * c := Df pE hc;unfold fT;rw [if_neg (by omega), hM, hE];have m0 : 2 * q + (if r = 0 then 0 else 1) ≠ 0 := by split <;> omega
 rw [Au m0, Dm];obtain ⟨ng, hng⟩ : ∃ ng, (na != nb) = ng := ⟨_, rfl⟩
 rw [hng];have blq : blen ((2 * q + (if r = 0 then 0 else 1) : Nat) : Int) ≤ na' + 1 + B + 1 := by
  have hx : ((2 * q + (if r = 0 then 0 else 1) : Nat) : Int) < 2 ^ (na' + 1 + B + 1) := by
   have a : 2 * q + (if r = 0 then 0 else 1) < 2 ^ (na' + 1 + B + 1) := by rw [Aq]; split <;> omega
   exact_mod_cast a
  have := cQ _ hx;omega
 by_cases hr0 : r = 0
 · rw [if_pos hr0] at blq ⊢;have v := zW (k := 2 * q + 0) (by omega);have d := lK (ng := ng) (k := 2 * q + 0) (e := E) (by omega) (by omega) (by omega);obtain ⟨d1, d2, d3, d4, d5, d6⟩ := d;generalize dyMake ng (2 * q + 0) E = P at *
   unfold fL;rw [kO d1 (by omega) (by omega)];have bb := aX (P.2.1 : Int);have R := aBS (ng := P.1) up d1 (by omega : -4190000 ≤ P.2.2) (by omega);have eT : T = ((2 * q + 0 : Nat) : Int) * pw E * c := by
    have f1 : T * kb = ((2 * q + 0 : Nat) : Int) * pw E * c * kb := by
     rw [TN, show 2 * N = (2 * q + 0) * kb by rw [← dm, hr0]; grind];push_cast; grind
    exact Int.eq_of_mul_eq_mul_right (by omega) f1
   have eV : dyv P = if ng = true then -(((2 * q + 0 : Nat) : Int) * pw E) else ((2 * q + 0 : Nat) : Int) * pw E := by
    unfold dyv; rw [d2, d5]
   have key : (if ng = true then -T else T) = dyv P * c := by
    rw [eV, eT]; split
    · rw [Cd]
    · rfl
   rw [key];exact R.scale hc
 · rw [if_neg hr0] at blq ⊢;have od : (2 * q + 1) % 2 = 1 := by omega
   have bl : 64 < blen ((2 * q + 1 : Nat) : Int) := by
    obtain ⟨n, k1, k2, k3⟩ := fA (k := 2 * q + 1) (by omega);rcases Ar 64 (n + 1) with z | z
    · omega
    · exfalso;have : 2 ^ (n + 1) ≤ 2 ^ 69 := Ag (by decide) (by omega);omega
   rw [jJ od (by omega) (by omega)];unfold fL;rw [kO (p := (ng, 2 * q + 1, E)) od (by show _ ≤ E; omega) (by show E ≤ _; omega)];show Best (rnd ng (2 * q + 1) E up) up _ c;obtain ⟨s, s1, s2, s3, s4, s5, s6, s7⟩ := aQF (ng := ng) (e := E) up od bl;rw [s3];refine kF (by omega) (by omega) (by omega) (by omega) hc ?_;rw [if_pos rfl];have e2 := eK (e := E) (f := s) (by omega) (by omega);rw [Ak] at e2;rw [e2];obtain ⟨m, hm⟩ : ∃ m, (2 * q + 1) / 2 ^ s = m := ⟨_, rfl⟩
   rw [hm] at s6 s7 ⊢;have a1 : (m : Int) * (pw E * 2 ^ s) * c * kb = ((2 ^ s * m * kb : Nat) : Int) * (pw E * c) := by push_cast; grind
   have a2 : ((m : Int) + 1) * (pw E * 2 ^ s) * c * kb = (((2 ^ s * m + 2 ^ s) * kb : Nat) : Int) * (pw E * c) := by push_cast; grind
   have l1 : 2 ^ s * m * kb < 2 * N := by
    have : 2 ^ s * m * kb ≤ (2 * q) * kb := Ai _ (by omega);have : 2 * q * kb = 2 * (kb * q) := by grind
    omega
   have l2 : 2 * N < (2 ^ s * m + 2 ^ s) * kb := by
    have : (2 * q + 2) * kb ≤ (2 ^ s * m + 2 ^ s) * kb := Ai _ (by omega);have : (2 * q + 2) * kb = 2 * (kb * q) + 2 * kb := by grind
    omega
   constructor
   · refine Cq (a := (kb : Int)) ?_ (Am kc);rw [a1, TN];exact Bb (by exact_mod_cast l1) pc
   · refine Cq (a := (kb : Int)) ?_ (Am kc);rw [a2, TN];exact Bb (by exact_mod_cast l2) pc
end
section
open Go Go.Proofs
attribute [local irreducible] Lb
theorem aFF (m : List Int) (cut : Bool) (h : Lb m) (hl : m.length ≤ 100000) : ∃ t : List Int, t = lim (2 * lv m + (if cut = true then 1 else 0)) ∧ aC Tryz.prog 216 [.sli .u32 m, .bool (.s cut)] (.sli .u32 t) := by
 refine ⟨_, rfl, ?_⟩;generalize hr : lim (2 * lv m + (if cut = true then 1 else 0)) = r;have r1 : cut = true → lim (2 * lv m + 1) = r := by intro z; rw [← hr, if_pos z]
 have r0 : cut = false → lim (2 * lv m) = r := by intro z; rw [← hr, z]; rfl
 have l1 : Lb [(1 : Int)] := Lb.cons (by decide) (by decide) Lb.nil;have sh : ∀ s, s = (if (1 : Int) < 1 then lim (lv m) else if 16777216 < (1 : Int) then [] else lim (lv m * 2 ^ (1 : Int).toNat)) → s = lim (2 * lv m) ∧ Lb s ∧ s.length < 268435456 := by
  intro s hs;rw [if_neg (by decide), if_neg (by decide), show (2 : Nat) ^ (1 : Int).toNat = 2 from rfl, Ax] at hs;refine ⟨hs, by rw [hs]; exact lim_lb _, ?_⟩;have l := bP h;have : (lim (2 * lv m)).length ≤ m.length + 1 := lim_length_le (by rw [Aq]; omega);rw [hs]; omega
 refine callsA_o Tryz.func216 fun E hE lp hl' => ?_
 cbv
 (refine E_cx hE (lW _ 1 h ?_) ?_; all_goals (first | (intro s hs; cbv) | (exact Ah hl (by decide))))
 have S := sh s hs;have es : E.sub [1] 0 1 = [1] := by subst hE; rfl
 refine E_br hE ?_ ?_ <;> intro g <;> cbv
 · (refine E_cx hE (oD _ _ S.2.1 ?_ S.2.2 ?_) ?_; all_goals (first | (intro u hu; cbv) | (first | (show Lb (E.sub [1] 0 1); rw [es]; exact l1) | (show (E.sub [1] 0 1).length < 268435456; rw [es]; show (1 : Nat) < 268435456; decide))))
   have k : u = lim (lv s + lv (E.sub [1] 0 1)) := hu;rw [es, S.1, aJ] at k;rw [k]; exact r1 g
 · rw [S.1]; exact r0 g
theorem aMG {b : List Int} {n by_ : Int} (hb : Lb b) (hlb : b.length ≤ 1000) (hn : n = blen (lv b : Int)) (h : by_ = IntKind.i64.wrap (70 + n)) : by_ = 70 + blen (lv b : Int) ∧ 70 ≤ by_ ∧ by_ ≤ 33000 := by
 have bb := uE hb;have b0 := aX (lv b : Int);rw [h, hn, wi64];omega
theorem zE {a : List Int} {y X : Nat} (ha : Lb a) (hla : a.length ≤ 1000) (hy : y ≤ 33000) (hX : X ≤ lv a * 2 ^ y) : (lim X).length ≤ 3000 := by
 have l := bP ha;have p : (2 : Nat) ^ y ≤ 2 ^ (32 * (y / 32 + 1)) := Ag (by decide) (by omega);rw [Cj] at p;have lt : X < 4294967296 ^ (a.length + (y / 32 + 1)) := by
  rw [Ap];exact Ah hX (Nat.mul_lt_mul_of_lt_of_le l p (Bg (by decide)))
 have := lim_length_le lt;omega
theorem aKB {a s : List Int} {y : Int} (ha : Lb a) (hla : a.length ≤ 1000) (hy : 70 ≤ y ∧ y ≤ 33000) (hs : s = if y < 1 then lim (lv a) else if 16777216 < y then [] else lim (lv a * 2 ^ y.toNat)) :
 Lb s ∧ s.length < 67108864 ∧ lv s = lv a * 2 ^ y.toNat := by
 rw [if_neg (by omega), if_neg (by omega)] at hs;rw [hs];exact ⟨lim_lb _, Ah (zE ha hla (by omega) (Ba _)) (by decide), aJ _⟩
theorem aJY {a b s : List Int} {y : Int} {d : List Int × List Int × Bool} (ha : Lb a) (hla : a.length ≤ 1000) (hy : 70 ≤ y ∧ y ≤ 33000) (hs : lv s = lv a * 2 ^ y.toNat) (z : lv b ≠ 0)
 (hd : d = if lv b = 0 then ([], [], false) else (lim (lv s / lv b), lim (lv s % lv b), true)) : Lb d.1 ∧ d.1.length ≤ 3000 ∧ lv d.1 = lv s / lv b ∧ (d.2.1.length = 0 ↔ lv s % lv b = 0) := by
 rw [if_neg z] at hd;rw [hd];refine ⟨lim_lb _, zE ha hla (by omega : y.toNat ≤ 33000) (by rw [hs]; exact Bo _ _), aJ _, ?_⟩;show (lim (lv s % lv b)).length = 0 ↔ _;exact ⟨fun q => fH.1 (List.length_eq_zero_iff.1 q), fun q => by rw [q]; rfl⟩
theorem aQM {a b s m : List Int} {y : Int} {d : List Int × List Int × Bool} {c : Bool} (ha : Lb a) (hla : a.length ≤ 1000) (hy : 70 ≤ y ∧ y ≤ 33000) (hb : y = 70 + blen (lv b : Int)) (hs : lv s = lv a * 2 ^ y.toNat)
 (D : Lb d.1 ∧ d.1.length ≤ 3000 ∧ lv d.1 = lv s / lv b ∧ (d.2.1.length = 0 ↔ lv s % lv b = 0)) (hc : c = decide ((0 : Int) < (d.2.1.length : Int))) (hm' : m = lim (2 * lv d.1 + (if c = true then 1 else 0))) :
 Lb m ∧ m.length ≤ 3001 ∧ lv m = jY (lv a) (lv b) := by
 have e : lv m = jY (lv a) (lv b) := by
  rw [hm', aJ, D.2.2.1, hc, hs];unfold jY;rw [← hb];rw [hs] at D;by_cases z : lv a * 2 ^ y.toNat % lv b = 0
  · rw [if_pos z, Az (by have := D.2.2.2.2 z; omega)]; rfl
  · rw [if_neg z, Au (by
      have : d.2.1.length ≠ 0 := fun q => z (D.2.2.2.1 q)
      omega), if_pos rfl]
 refine ⟨by rw [hm']; exact lim_lb _, ?_, e⟩;have k := D.2.1;have l := bP D.1;rw [hm'];obtain ⟨n, hn⟩ : ∃ n, n = 3000 := ⟨_, rfl⟩
 rw [← hn] at k;have p : (4294967296 : Nat) ^ d.1.length ≤ 4294967296 ^ n := Ag (by decide) k;have : 2 * lv d.1 + (if c = true then 1 else 0) < 4294967296 ^ (n + 1) := by
  rw [Aq];generalize (4294967296 : Nat) ^ n = q at p ⊢;split <;> omega
 have := lim_length_le this;omega
theorem aPR {na nb : Bool} {a b m : List Int} {e f y : Int} {up : Bool} {w : Bool × List Int} (hb : y = 70 + blen (lv b : Int)) (hy : 70 ≤ y ∧ y ≤ 33000) (he : -8000000 ≤ e ∧ e ≤ 8000000) (z : lv b ≠ 0)
 (M : Lb m ∧ m.length ≤ 3001 ∧ lv m = jY (lv a) (lv b)) (hw : w = ((na != nb) && decide (lv m ≠ 0), lim (lv m))) (hf : f = IntKind.i64.wrap (IntKind.i64.wrap (e - y) - 1)) :
 Lb w.2 ∧ w.2.length ≤ 3001 ∧ (-9223372036854775808 ≤ f ∧ f < 9223372036854775808) ∧
  (lim (dyMake w.1 (lv w.2) f).2.1).length ≤ 62500 ∧ (-9223372036854775808 ≤ (dyMake w.1 (lv w.2) f).2.2 ∧ (dyMake w.1 (lv w.2) f).2.2 < 9223372036854775808) ∧ fL (dyMake w.1 (lv w.2) f) up = fT na (lv a) nb (lv b) e up := by
 have hf' : f = e - y - 1 := by rw [hf, wi64, wi64]; omega
 have hl : (lim (lv m)).length ≤ 3001 := Ae (eZ M.1 (Ba _)) M.2.1;have w2 : w.2 = lim (lv m) := by rw [hw]
 have w1 : w.1 = ((na != nb) && decide (lv m ≠ 0)) := by rw [hw]
 have r := fB w.1 (lv w.2) f;refine ⟨by rw [w2]; exact lim_lb _, by rw [w2]; exact hl, by omega, ?_, by omega, ?_⟩
 · rw [w2, aJ] at r ⊢;have := eZ M.1 (k := (dyMake w.1 (lv m) f).2.1) r.2.2;have := M.2.1;omega
 · unfold fT;rw [if_neg z, w2, aJ, w1, M.2.2, hf', hb]
theorem aKC (na : Bool) (a : List Int) (nb : Bool) (b : List Int) (e : Int) (up : Bool) (ha : Lb a) (hb : Lb b) (hla : a.length ≤ 1000) (hlb : b.length ≤ 1000) (he : -8000000 ≤ e ∧ e ≤ 8000000) :
 ∃ t : Num, t = fT na (lv a) nb (lv b) e up ∧ aC Tryz.prog 176 [.agg [.bool (.s na), .sli .u32 a], .agg [.bool (.s nb), .sli .u32 b], .int .i64 (.s e), .bool (.s up)] t.av := by
 refine ⟨_, rfl, ?_⟩;obtain ⟨r, hr⟩ : ∃ r, fT na (lv a) nb (lv b) e up = r := ⟨_, rfl⟩
 rw [hr];obtain ⟨Q, hQ⟩ : ∃ Q : Num → Prop, ∀ r, Q r ↔ fT na (lv a) nb (lv b) e up = r := ⟨_, fun _ => Bs⟩
 have hq := (hQ r).2 hr;clear hr;have zer : lv b = 0 → ∀ t, t = Num.inf (!up) → t = r := by intro z t ht; rw [← (hQ r).1 hq, ht]; unfold fT; rw [if_pos z]
 have fin : ∀ t, t = fT na (lv a) nb (lv b) e up → t = r := fun t ht => ht.trans ((hQ r).1 hq)
 clear hQ hq Q;refine callsA_o Tryz.func176 fun E hE lp hl' => ?_
 cbv
 (refine E_cx hE (gM _ _ hb ?_) ?_; all_goals (first | (intro sg hsg; cbv) | (exact Ae hlb (by decide))))
 have sgz : sg = 0 ↔ lv b = 0 := by
  have h : sg = (if lv b = 0 then 0 else if nb = true then -1 else 1 : Int) := hsg;rw [h];constructor
  · intro q;rcases Ao (lv b) with k | k
    · exact k
    · exfalso;rw [if_neg (by omega)] at q;split at q <;> omega
  · intro q; rw [if_pos q]
 clear hsg;refine E_br hE ?_ ?_ <;> intro g1 <;> cbv
 · have z : lv b = 0 := sgz.1 (by subst hE; exact cA g1)
   (refine E_cx hE (rM _) ?_; intro t ht; cbv)
   have T : t = r := zer z t (by subst hE; exact ht);rw [T]; exact ⟨rfl, rfl, rfl, rfl, trivial⟩
 have nz : lv b ≠ 0 := fun z => (eql_f (by subst hE; exact g1) : ¬ sg = 0) (sgz.2 z)
 clear sgz zer g1
 (refine E_cx hE (aAP _ hb ?_) ?_; all_goals (first | (intro n hn; cbv) | (exact Ae hlb (by decide))))
 refine E_nm hE fun by_ hby => ?_
 have B := aMG hb hlb hn (by subst hE; exact hby);clear hn hby;cbv
 (refine E_px hE (lW _ by_ ha ?_) ?_; all_goals (first | (intro s hs; cbv) | (exact Ah hla (by decide))))
 have S := aKB ha hla B.2 hs;clear hs
 (refine E_px hE (aAI _ _ S.1 hb S.2.1 ?_) ?_; all_goals (first | (intro d hd; cbv) | (exact Ah hlb (by decide))))
 have D := aJY ha hla B.2 S.2.2 nz hd;clear hd
 (refine E_cx hE (aFF _ _ D.1 ?_) ?_; all_goals (first | (intro m hm_; cbv) | (exact Ae D.2.1 (by decide))))
 have M := aQM (c := E.cmp .gtr (E.len d.2.1) 0) ha hla B.2 B.1 S.2.2 D (by subst hE; rfl) hm_;clear hm_
 (refine E_cx hE (c_r2Make _ _ M.1 ?_) ?_; all_goals (first | (intro w hw; cbv) | (exact Ae M.2.1 (by decide))))
 have P := aPR (na := na) (nb := nb) (up := up) (f := E.bin .sub .i64 (E.bin .sub .i64 e by_) 1) B.1 B.2 he nz M (by have k := hw; subst hE; exact k) (by subst hE; rfl);clear hw
 (refine E_cx hE (dP _ _ _ P.1 ?_ ?_) ?_; all_goals (first | (intro y hy; cbv) | (first | exact Ae P.2.1 (by decide) | exact P.2.2.1)))
 (refine E_cx hE (aER (dyMake w.1 (lv w.2) (E.bin .sub .i64 (E.bin .sub .i64 e by_) 1)) up P.2.2.2.1 P.2.2.2.2.1 ⟨_, _, _⟩ ?_) ?_; all_goals (first | (intro t ht; cbv) | (exact hy)))
 have T : t = r := fin t (ht.trans P.2.2.2.2.2);rw [T]; exact ⟨rfl, rfl, rfl, rfl, trivial⟩
end
section
open Go
def Num.rcmp (x y : Num) : Int :=
 if x.fair.sign ≠ y.fair.sign then (if x.fair.sign < y.fair.sign then -1 else 1)
 else if x.fair.sign = 0 ∨ x.fair = y.fair then 0
 else if x.fair.kind = 2 ∨ (y.fair.kind ≠ 2 ∧ (y.fair.e < x.fair.e ∨ (x.fair.e = y.fair.e ∧ y.fair.m < x.fair.m))) then x.fair.sign else IntKind.i64.wrap (0 - x.fair.sign)
theorem aES {A B : Num} (mA : A.may = true) (mB : B.may = true) (oA : A.ok) (oB : B.ok) (kA : A.kind ≠ 0) (kB : B.kind ≠ 0) (hn : A.neg = B.neg) (hne : A ≠ B) :
 (A.kind = 2 ∨ (B.kind ≠ 2 ∧ (B.e < A.e ∨ (A.e = B.e ∧ B.m < A.m)))) ↔ B.W < A.W := by
 rw [← Num.iH mA mB oA oB];unfold Num.farther;rcases Num.may3 mA oA with h | h | h
 · rw [h] at kA; exact absurd rfl kA
 · have a1 := h.kind;rcases Num.may3 mB oB with k | k | k
   · rw [k] at kB; exact absurd rfl kB
   · have b1 := k.kind;rw [if_neg (by rw [a1, b1]; decide)];split
     · rw [Ab]; omega
     · rw [Ab]; omega
   · have b1 : B.kind = 2 := by rw [k]; rfl
     rw [if_pos (by omega), Ab]; omega
 · have a1 : A.kind = 2 := by rw [h]; rfl
   rcases Num.may3 mB oB with k | k | k
   · rw [k] at kB; exact absurd rfl kB
   · have b1 := k.kind;rw [if_pos (by omega), Ab]; omega
   · exact absurd (by rw [h, k, hn]) hne
theorem aPA {x y : Num} (ox : x.ok) (oy : y.ok) : Num.rcmp x y = Num.cmp x y := by
 have S := Num.cmp_spec ox oy;have mA := x.fair_may;have mB := y.fair_may;have oA := Num.fair_ok ox;have oB := Num.fair_ok oy;unfold Num.rcmp;generalize Num.cmp x y = c at *
 generalize x.fair = A at *
 generalize y.fair = B at *
 have sA := Num.sign_of mA oA;have sB := Num.sign_of mB oB;have w1 : IntKind.i64.wrap (0 - 1) = -1 := by decide
 have w2 : IntKind.i64.wrap (0 - -1) = 1 := by decide
 by_cases h : A.sign = B.sign
 · rw [if_neg (by omega)];by_cases h0 : A.sign = 0 ∨ A = B
   · rw [if_pos h0];rcases h0 with h0 | h0
     · omega
     · rw [h0] at S; omega
   · rw [if_neg h0];have hne : A ≠ B := fun e => h0 (.inr e)
     have vne : A.val ≠ B.val := fun e => hne (Num.val_inj mA mB oA oB e)
     rcases sA with sA | sA | sA
     · omega
     · rcases sB with sB | sB | sB
       · omega
       · have M := aES mA mB oA oB sA.2.2.2.2 sB.2.2.2.2 (by rw [sA.2.2.2.1, sB.2.2.2.1]) hne;rw [sA.1, w1];split
         · rename_i q; have := M.1 q; omega
         · rename_i q;have : ¬ B.W < A.W := fun k => q (M.2 k)
           omega
       · omega
     · rcases sB with sB | sB | sB
       · omega
       · omega
       · have M := aES mA mB oA oB sA.2.2.2.2 sB.2.2.2.2 (by rw [sA.2.2.2.1, sB.2.2.2.1]) hne;rw [sA.1, w2];split
         · rename_i q; have := M.1 q; omega
         · rename_i q;have : ¬ B.W < A.W := fun k => q (M.2 k)
           omega
 · rw [if_pos h];split <;> omega
end
section
open Go Go.Proofs
theorem aOR (x : Num) (y : Num)  : ∃ t : Int, t = Num.rcmp x y ∧ aC Tryz.prog 129 [x.av, y.av] (.int .i64 (.s t)) := by
 refine ⟨_, rfl, ?_⟩;generalize hr : Num.rcmp x y = r;refine callsA_o Tryz.func129 fun E hE lp hl => ?_
 cbv;repeat' (first
   | (apply E_br_t hE; assumption; cbv)
   | (apply fD hE; assumption; cbv)
   | (refine E_br hE ?_ ?_ <;> intro h <;> cbv)
   | (refine E_nm hE fun v hv => ?_; cbv)
   | (refine E_cx hE (pV ⟨_, _, _, _⟩) ?_; intro t ht; cbv)
   | (refine E_cx hE (aOY ⟨_, _, _, _⟩) ?_; intro t ht; cbv)
   | fail)
 all_goals (subst hE; subst hr)
 all_goals (try simp only [aB, aE, aH, aG, aF, aK, aL, aA, Ab, Aa, SI.val, SB.val, Num.eta, Iv.eta] at *)
 all_goals (simp only [Num.rcmp])
 all_goals (try subst_vars)
 all_goals (try simp_all [Num.eq_iff])
 all_goals (try (intros; omega))
 all_goals (rw [if_neg (fun k => ‹x.fair.kind = y.fair.kind → x.fair.neg = y.fair.neg → ¬ x.fair.m = y.fair.m› k.1 k.2.1 k.2.2), if_neg (by omega)])
theorem qE (x y : Num) (ox : x.ok) (oy : y.ok) : ∃ t : Int, t = Num.cmp x y ∧ aC Tryz.prog 129 [x.av, y.av] (.int .i64 (.s t)) := by
 obtain ⟨t, ht, hC⟩ := aOR x y;exact ⟨t, ht.trans (aPA ox oy), hC⟩
theorem aMM (l : List Num) (n : Int) (hn : n = l.length) (hb : n < 9223372036854775808) (hl_ : ∀ x ∈ l, x.ok) : ∃ t, t = Num.least l ∧ aC Tryz.prog 172 [.slc 4 (.s n) (fun i => Num.cells (l.getD i Num.zero))] (Num.av t) := by
 refine ⟨_, rfl, ?_⟩;generalize hr : Num.least l = r;obtain ⟨z, hz⟩ : ∃ z, z = Num.zero := ⟨_, rfl⟩
 rw [← hz];have ok0 : ∀ i : Nat, (l.getD i z).ok := by
  intro i;rw [hz];rcases Ar i l.length with h | h
  · have e : l.getD i Num.zero = l[i] := by simp [List.getD, List.getElem?_eq_getElem h]
    rw [e]; exact hl_ _ (List.getElem_mem h)
  · have e : l.getD i Num.zero = Num.zero := by simp [List.getD, List.getElem?_eq_none h]
    rw [e]; exact Num.zero_ok
 have okl : ∀ i : Int, (Num.leastTo l i).ok := by
  intro i;unfold Num.leastTo;exact (Num.least_spec _ (fun x hx => hl_ x (List.mem_of_mem_take hx))).2.1
 clear hl_;refine callsA_o Tryz.func172 fun E hE lp hl => ?_
 cbv
 (refine E_cx hE (rM _) ?_; intro t ht; cbv)
 refine E_loopW hE hG hm hl (ι := Int × Num) (fun p => ⟨[(4, .int .i64 (.s p.1)), (0, .slc 4 (.s n) (fun i => Num.cells (l.getD i z))), (3, .ptr 1 4 (.l 0) 0), (2, .ptr 0 4 (.l 0) 0)],
   [
    .rows true 4 [.int .i64 (.l 0), .bool (.l false), .int .u64 (.l 0), .int .i64 (.l 0)] [[.int .i64 (.l 0), .bool (.l false), .int .u64 (.l 0), .int .i64 (.l 0)]],
    .rows true 4 [.int .i64 (.l 0), .bool (.l false), .int .u64 (.l 0), .int .i64 (.l 0)] [Num.cells p.2]]⟩)
  (fun p => (n - p.1).toNat) (fun p => 0 ≤ p.1 ∧ p.1 ≤ n ∧ p.2 = Num.leastTo l p.1) (fun p => rfl) ⟨(0, t), ⟨Bc 0, (by show (0 : Int) ≤ n; rw [hn]; exact Cv _), ht⟩, stLe rfl ?_⟩ ?_
 · repeat' (first | exact bC | apply aV | exact aM | exact aQ | exact bK)
 rintro ⟨i, o⟩ ⟨h1, h2, h3⟩;dsimp only at h1 h2 h3;have oo : o.ok := by rw [h3]; exact okl i
 cbv;repeat' (first
   | (refine E_br hE ?_ ?_ <;> intro h <;> cbv)
   | (refine E_nm hE fun v hv => ?_; cbv)
   | (refine xZ hE (cell := Num.cells) (fun t ht => ?_); have ot : t.ok := (by rw [ht]; exact ok0 _); cbv)
   | (refine E_px hE (qE ⟨_, _, _, _⟩ ⟨_, _, _, _⟩ ?_ ?_) ?_; all_goals (first | (intro t ht; cbv) | assumption))
   | (refine E_cx hE (pV ⟨_, _, _, _⟩) ?_; intro t ht; cbv)
   | fail)
 all_goals (clear okl ok0)
 all_goals (try (first
   | refine ⟨(v, t), ?_, ⟨?_, ?_, ?_⟩, tB rfl ⟨rfl, rfl, trivial⟩ ?_⟩
   | refine ⟨(v, o), ?_, ⟨?_, ?_, ?_⟩, tB rfl ⟨rfl, rfl, trivial⟩ ?_⟩))
 all_goals (try (refine mL ?_ rfl ?_; (repeat' (first | exact aGY | refine mL ?_ rfl ?_ | exact aM | exact aQ | exact bK)); done))
 all_goals (subst hE; simp only [aB, aG, aF, aK, aA, Ab, Aa, SI.val, SB.val, Num.eta] at *)
 all_goals (try subst hv)
 all_goals (try rw [gH h1 ‹i < n› hb])
 all_goals (try omega)
 all_goals (replace hn : n = (l.length : Int) := hn)
 all_goals (first
   | (rw [Num.pM l h1 (by omega), ← h3, ← hz]; clear hn hr h3 oo; (try subst_vars); unfold Num.lesser; first | rw [if_pos (by assumption)] | rw [if_neg (by omega)])
   | (
      refine Num.fin (t := o) ?_;have hi : i = n := by omega
      rw [← hr, h3, hi, hn, Num.sZ]))
theorem aOL (l : List Num) (n : Int) (hn : n = l.length) (hb : n < 9223372036854775808) (hl_ : ∀ x ∈ l, x.ok) : ∃ t, t = Num.most l ∧ aC Tryz.prog 173 [.slc 4 (.s n) (fun i => Num.cells (l.getD i Num.zero))] (Num.av t) := by
 refine ⟨_, rfl, ?_⟩;generalize hr : Num.most l = r;obtain ⟨z, hz⟩ : ∃ z, z = Num.zero := ⟨_, rfl⟩
 rw [← hz];have ok0 : ∀ i : Nat, (l.getD i z).ok := by
  intro i;rw [hz];rcases Ar i l.length with h | h
  · have e : l.getD i Num.zero = l[i] := by simp [List.getD, List.getElem?_eq_getElem h]
    rw [e]; exact hl_ _ (List.getElem_mem h)
  · have e : l.getD i Num.zero = Num.zero := by simp [List.getD, List.getElem?_eq_none h]
    rw [e]; exact Num.zero_ok
 have okl : ∀ i : Int, (Num.mostTo l i).ok := by
  intro i;unfold Num.mostTo;exact (Num.most_spec _ (fun x hx => hl_ x (List.mem_of_mem_take hx))).2.1
 clear hl_;refine callsA_o Tryz.func173 fun E hE lp hl => ?_
 cbv
 (refine E_cx hE (rM _) ?_; intro t ht; cbv)
 refine E_loopW hE hG hm hl (ι := Int × Num) (fun p => ⟨[(4, .int .i64 (.s p.1)), (0, .slc 4 (.s n) (fun i => Num.cells (l.getD i z))), (3, .ptr 1 4 (.l 0) 0), (2, .ptr 0 4 (.l 0) 0)],
   [
    .rows true 4 [.int .i64 (.l 0), .bool (.l false), .int .u64 (.l 0), .int .i64 (.l 0)] [[.int .i64 (.l 0), .bool (.l false), .int .u64 (.l 0), .int .i64 (.l 0)]],
    .rows true 4 [.int .i64 (.l 0), .bool (.l false), .int .u64 (.l 0), .int .i64 (.l 0)] [Num.cells p.2]]⟩)
  (fun p => (n - p.1).toNat) (fun p => 0 ≤ p.1 ∧ p.1 ≤ n ∧ p.2 = Num.mostTo l p.1) (fun p => rfl) ⟨(0, t), ⟨Bc 0, (by show (0 : Int) ≤ n; rw [hn]; exact Cv _), ht⟩, stLe rfl ?_⟩ ?_
 · repeat' (first | exact bC | apply aV | exact aM | exact aQ | exact bK)
 rintro ⟨i, o⟩ ⟨h1, h2, h3⟩;dsimp only at h1 h2 h3;have oo : o.ok := by rw [h3]; exact okl i
 cbv;repeat' (first
   | (refine E_br hE ?_ ?_ <;> intro h <;> cbv)
   | (refine E_nm hE fun v hv => ?_; cbv)
   | (refine xZ hE (cell := Num.cells) (fun t ht => ?_); have ot : t.ok := (by rw [ht]; exact ok0 _); cbv)
   | (refine E_px hE (qE ⟨_, _, _, _⟩ ⟨_, _, _, _⟩ ?_ ?_) ?_; all_goals (first | (intro t ht; cbv) | assumption))
   | (refine E_cx hE (pV ⟨_, _, _, _⟩) ?_; intro t ht; cbv)
   | fail)
 all_goals (clear okl ok0)
 all_goals (try (first
   | refine ⟨(v, t), ?_, ⟨?_, ?_, ?_⟩, tB rfl ⟨rfl, rfl, trivial⟩ ?_⟩
   | refine ⟨(v, o), ?_, ⟨?_, ?_, ?_⟩, tB rfl ⟨rfl, rfl, trivial⟩ ?_⟩))
 all_goals (try (refine mL ?_ rfl ?_; (repeat' (first | exact aGY | refine mL ?_ rfl ?_ | exact aM | exact aQ | exact bK)); done))
 all_goals (subst hE; simp only [aB, aG, aF, aK, aA, Ab, Aa, SI.val, SB.val, Num.eta] at *)
 all_goals (try subst hv)
 all_goals (try rw [gH h1 ‹i < n› hb])
 all_goals (try omega)
 all_goals (replace hn : n = (l.length : Int) := hn)
 all_goals (first
   | (rw [Num.sS l h1 (by omega), ← h3, ← hz]; clear hn hr h3 oo; (try subst_vars); unfold Num.greater; first | rw [if_pos (by assumption)] | rw [if_neg (by omega)])
   | (
      refine Num.fin (t := o) ?_;have hi : i = n := by omega
      rw [← hr, h3, hi, hn, Num.vQ]))
end
section
open Go
theorem Iv.pP (x : Iv) : x.fair.empty = x.bad := by
 unfold Iv.fair Iv.bad;cases h : x.may
 · simp [Iv.none]
 · simp
theorem Iv.nE {x : Iv} (h : x.fair.empty = false) : x.fair = x := by
 rw [Iv.pP] at h;unfold Iv.bad at h;simp only [Bool.or_eq_false_iff, Bool.not_eq_false'] at h;unfold Iv.fair; rw [if_pos h.2]
theorem Iv.rH {x : Iv} (h : x.fair.empty = false) (o1 : x.lo.ok) (o2 : x.hi.ok) : x.Real := by
 rw [Iv.pP] at h;exact Iv.pO h o1 o2
theorem Iv.pU {x : Iv} (o1 : x.lo.ok) (o2 : x.hi.ok) : x.fair.lo.ok ∧ x.fair.hi.ok := by
 unfold Iv.fair;split
 · exact ⟨o1, o2⟩
 · exact ⟨Num.zero_ok, Num.zero_ok⟩
theorem Iv.aOE {a : Iv} (h : a.fair.empty = true) : a.fair = Iv.none := by
 unfold Iv.fair at h ⊢;split
 · rename_i m;rw [if_pos m] at h;exact Iv.empty_may m h
 · rfl
end
section
open Go Go.Proofs
theorem aBD   : ∃ t : Iv, t = Iv.none ∧ aC Tryz.prog 112 [] (t.av) := by
 refine ⟨_, rfl, ?_⟩;generalize hr : Iv.none = r;refine callsA_o Tryz.func112 fun E hE lp hl => ?_
 cbv;repeat' (first
   | (refine E_br hE ?_ ?_ <;> intro h <;> cbv)
   | (refine E_nm hE fun v hv => ?_; cbv)
   | fail)
 all_goals (subst hE; subst hr)
 all_goals (try simp only [aB, aE, aH, aG, aF, aK, aL, aA, Ab, Aa, SI.val, SB.val, Num.eta, Iv.eta] at *)
 all_goals (try simp_all [Iv.none, Num.zero])
 all_goals (try omega)
 all_goals (try simp only [Ay])
 all_goals (try rfl)
 all_goals ((repeat' split) <;> (try simp_all) <;> (try omega))
theorem aOS (x : Iv) (o1 : x.lo.ok) (o2 : x.hi.ok) : ∃ t : Bool, t = x.may ∧ aC Tryz.prog 178 [x.av] (.bool (.s t)) := by
 refine ⟨_, rfl, ?_⟩;generalize hr : x.may = r;refine callsA_o Tryz.func178 fun E hE lp hl => ?_
 cbv;repeat' (first
   | (refine E_br hE ?_ ?_ <;> intro h <;> cbv)
   | (refine E_nm hE fun v hv => ?_; cbv)
   | (refine E_px hE (aBD ) ?_; intro t ht; cbv)
   | (refine E_cx hE (aAT ⟨_, _, _, _⟩) ?_; intro t ht; cbv)
   | (refine E_px hE (qE ⟨_, _, _, _⟩ ⟨_, _, _, _⟩ ?_ ?_) ?_; all_goals (first | (intro t ht; cbv) | (subst hE; (try simp only [aB, aE, aH, aG, aF, aK, aL, aA, Ab, Aa, SI.val, SB.val, Num.eta, Iv.eta] at *); first | assumption | omega)))
   | (refine E_px hE (rM _) ?_; intro t ht; cbv)
   | fail)
 all_goals (subst hE; subst hr)
 all_goals (try simp only [aB, aE, aH, aG, aF, aK, aL, aA, Ab, Aa, SI.val, SB.val, Num.eta, Iv.eta] at *)
 all_goals (try simp_all [Iv.may, Iv.none, Num.zero, Iv.eq_iff, Num.eq_iff, Num.inf])
 all_goals (try omega)
 all_goals (try simp only [Ay])
 all_goals (try rfl)
 all_goals ((repeat' split) <;> (try simp_all) <;> (try omega))
theorem c_r8Fair (x : Iv) (o1 : x.lo.ok) (o2 : x.hi.ok) : ∃ t : Iv, t = x.fair ∧ aC Tryz.prog 120 [x.av] (t.av) := by
 refine ⟨_, rfl, ?_⟩;generalize hr : x.fair = r;refine callsA_o Tryz.func120 fun E hE lp hl => ?_
 cbv;repeat' (first
   | (refine E_br hE ?_ ?_ <;> intro h <;> cbv)
   | (refine E_nm hE fun v hv => ?_; cbv)
   | (refine E_cx hE (aOS ⟨_, ⟨_, _, _, _⟩, ⟨_, _, _, _⟩⟩ ?_ ?_) ?_; all_goals (first | (intro t ht; cbv) | (subst hE; (try simp only [aB, aE, aH, aG, aF, aK, aL, aA, Ab, Aa, SI.val, SB.val, Num.eta, Iv.eta] at *); first | assumption | omega)))
   | (refine E_cx hE (aBD ) ?_; intro t ht; cbv)
   | fail)
 all_goals (subst hE; subst hr)
 all_goals (try simp only [aB, aE, aH, aG, aF, aK, aL, aA, Ab, Aa, SI.val, SB.val, Num.eta, Iv.eta] at *)
 all_goals (try simp_all [Iv.fair])
 all_goals (try omega)
 all_goals (try simp only [Ay])
 all_goals (try rfl)
 all_goals ((repeat' split) <;> (try simp_all) <;> (try omega))
theorem pY (lo hi : Num) (o1 : lo.ok) (o2 : hi.ok) : ∃ t : Iv, t = Iv.make lo hi ∧ aC Tryz.prog 169 [lo.av, hi.av] t.av := by
 refine ⟨_, rfl, ?_⟩;rw [Iv.uH];generalize hr : Iv.fair ⟨false, lo.fair, hi.fair⟩ = r;have f1 := Num.fair_ok o1;have f2 := Num.fair_ok o2;refine callsA_o Tryz.func169 fun E hE lp hl' => ?_
 cbv
 (refine E_px hE (c_r6Fair ⟨_, _, _, _⟩) ?_; intro a ha; cbv)
 (refine E_px hE (c_r6Fair ⟨_, _, _, _⟩) ?_; intro b hb; cbv)
 (refine E_px hE (c_r8Fair ⟨_, ⟨_, _, _, _⟩, ⟨_, _, _, _⟩⟩ ?_ ?_) ?_; all_goals (first | (intro t ht; cbv) | (first | (show a.ok; rw [show a = lo.fair from ha]; exact f1) | (show b.ok; rw [show b = hi.fair from hb]; exact f2))))
 have T : t = r := by
  rw [← hr, ← show a = lo.fair from ha, ← show b = hi.fair from hb]; exact ht
 rw [T]; exact ⟨rfl, rfl, rfl, rfl, rfl, rfl, rfl, rfl, rfl, trivial⟩
theorem zD (n : Num) (o1 : n.ok) : ∃ t : Iv, t = Iv.point n ∧ aC Tryz.prog 135 [n.av] t.av := by
 refine ⟨_, rfl, ?_⟩;unfold Iv.point;generalize hr : Iv.make n n = r;refine callsA_o Tryz.func135 fun E hE lp hl' => ?_
 cbv
 (refine E_cx hE (pY ⟨_, _, _, _⟩ ⟨_, _, _, _⟩ ?_ ?_) ?_; all_goals (first | (intro t ht; cbv) | (exact o1)))
 have T : t = r := by rw [← hr]; exact ht
 rw [T]; exact ⟨rfl, rfl, rfl, rfl, rfl, rfl, rfl, rfl, rfl, trivial⟩
end
section
open Go Go.Proofs
attribute [local irreducible] Lb
theorem aHW {a b : List Int} (ha : Lb a) (hb : Lb b) : (lim (lv a + lv b)).length ≤ a.length + b.length + 1 := by
 have l1 := bP ha;have l2 := bP hb;have p1 : (4294967296 : Nat) ^ a.length ≤ 4294967296 ^ (a.length + b.length) := Ag (by decide) (by omega);have p2 : (4294967296 : Nat) ^ b.length ≤ 4294967296 ^ (a.length + b.length) := Ag (by decide) (by omega);refine lim_length_le ?_;rw [Aq]; omega
theorem aNH {na nb : Bool} {a b : List Int} (ha : Lb a) (hb : Lb b) : (lim (wsum na (lv a) nb (lv b)).2).length ≤ a.length + b.length + 1 := by
 have l := aHA na nb (lv a) (lv b);have s := aHW ha hb;have q := aLF (lv a + lv b);exact Ae (lim_length_le (Ah l q)) s
theorem c_r2Add (na : Bool) (a : List Int) (nb : Bool) (b : List Int) (ha : Lb a) (hb : Lb b) (hla : a.length ≤ 100000) (hlb : b.length ≤ 100000) :
 ∃ t : Bool × List Int, t = ((wsum na (lv a) nb (lv b)).1, lim (wsum na (lv a) nb (lv b)).2) ∧ aC Tryz.prog 79 [.agg [.bool (.s na), .sli .u32 a], .agg [.bool (.s nb), .sli .u32 b]] (.agg [.bool (.s t.1), .sli .u32 t.2]) := by
 refine ⟨_, rfl, ?_⟩;generalize hr : (((wsum na (lv a) nb (lv b)).1, lim (wsum na (lv a) nb (lv b)).2) : Bool × List Int) = r;have same : na = nb → ∀ s : List Int, s = lim (lv a + lv b) → Lb s ∧ s.length ≤ 268435456 ∧ ∀ t : Bool × List Int, t = (na && decide (lv s ≠ 0), lim (lv s)) → t = r := by
  intro h s hs;refine ⟨by rw [hs]; exact lim_lb _, by rw [hs]; have := aHW ha hb; omega, fun t ht => ?_⟩;rw [ht, ← hr, hs, aJ]; unfold wsum; rw [if_pos h]
 have less : na ≠ nb → lv a < lv b → ∀ s : List Int, s = lim (lv b - lv a) → Lb s ∧ s.length ≤ 268435456 ∧ ∀ t : Bool × List Int, t = (nb && decide (lv s ≠ 0), lim (lv s)) → t = r := by
  intro h g s hs;refine ⟨by rw [hs]; exact lim_lb _, by rw [hs]; have := eZ hb (Nat.sub_le (lv b) (lv a)); omega, fun t ht => ?_⟩;rw [ht, ← hr, hs, aJ]; unfold wsum; rw [if_neg h, if_pos g]
 have more : na ≠ nb → ¬ lv a < lv b → ∀ s : List Int, s = lim (lv a - lv b) → Lb s ∧ s.length ≤ 268435456 ∧ ∀ t : Bool × List Int, t = (na && decide (lv s ≠ 0), lim (lv s)) → t = r := by
  intro h g s hs;refine ⟨by rw [hs]; exact lim_lb _, by rw [hs]; have := eZ ha (Nat.sub_le (lv a) (lv b)); omega, fun t ht => ?_⟩;rw [ht, ← hr, hs, aJ]; unfold wsum; rw [if_neg h, if_neg g]
 have subs : ∀ (x y : List Int) (s : List Int × Bool), s = (if lv x < lv y then ([], false) else (lim (lv x - lv y), true)) → (s.2 = false → lv x < lv y) ∧ (s.2 = true → ¬ lv x < lv y ∧ s.1 = lim (lv x - lv y)) := by
  intro x y s hs;subst hs;by_cases k : lv x < lv y
  · rw [if_pos k]; exact ⟨fun _ => k, fun h => by cases h⟩
  · rw [if_neg k]; exact ⟨fun h => by (cases h), fun _ => ⟨k, rfl⟩⟩
 have subs2 : ∀ (x y : List Int) (s : List Int × Bool), lv y < lv x → s = (if lv x < lv y then ([], false) else (lim (lv x - lv y), true)) → s.1 = lim (lv x - lv y) := by
  intro x y s h hs;rw [hs, if_neg (by omega)]
 clear hr;refine callsA_o Tryz.func79 fun E hE lp hl' => ?_
 cbv;refine E_br hE ?_ ?_ <;> intro g <;> cbv
 · have gn : na = nb := by subst hE; have k : (na == nb) = true := g; simpa using k
   (refine E_px hE (oD _ _ ha hb ?_ ?_) ?_; all_goals (first | (intro s hs; cbv) | (first | exact Ah hla (by decide) | exact Ah hlb (by decide))))
   have S := same gn s hs
   (refine E_px hE (c_r2Make _ _ S.1 S.2.1) ?_; intro t ht; cbv)
   rw [← S.2.2 t ht]; exact ⟨rfl, rfl, trivial⟩
 · have gn : na ≠ nb := by subst hE; have k : (na == nb) = false := g; simpa using k
   (refine E_cx hE (aAC _ _ ha hb ?_ ?_) ?_; all_goals (first | (intro s hs; cbv) | (first | exact Ah hla (by decide) | exact Ah hlb (by decide))))
   have D := subs a b s hs;clear hs;refine E_br hE ?_ ?_ <;> intro g2 <;> cbv
   · have S := more gn (D.2 g2).1 s.1 (D.2 g2).2
     (refine E_cx hE (c_r2Make _ _ S.1 S.2.1) ?_; intro t ht; cbv)
     rw [← S.2.2 t ht]; exact ⟨rfl, rfl, trivial⟩
   · have lt := D.1 g2
     (refine E_cx hE (aAC _ _ hb ha ?_ ?_) ?_; all_goals (first | (intro u hu; cbv) | (first | exact Ah hla (by decide) | exact Ah hlb (by decide))))
     have S := less gn lt u.1 (subs2 b a u lt hu)
     (refine E_cx hE (c_r2Make _ _ S.1 S.2.1) ?_; intro t ht; cbv)
     rw [← S.2.2 t ht]; exact ⟨rfl, rfl, trivial⟩
structure DyN (P : Bool × Nat × Int) : Prop where
 len : (lim P.2.1).length ≤ 1000
 lo : -1200000 ≤ P.2.2
 hi : P.2.2 ≤ 200000
theorem qD {p : Bool × Nat × Int} (h : (lim p.2.1).length ≤ 1000) (lo : -1150000 ≤ p.2.2) (hi : p.2.2 ≤ 100000) : DyN (dyNorm p) := by
 have r := fB p.1 p.2.1 p.2.2;have l := lim_length_le (Ah r.2.2 (aLF p.2.1));refine ⟨by show (lim (dyMake p.1 p.2.1 p.2.2).2.1).length ≤ 1000; omega, ?_, ?_⟩
 · show -1200000 ≤ (dyMake p.1 p.2.1 p.2.2).2.2;unfold dyMake;split
   · show (-1200000 : Int) ≤ 0; decide
   · split
     · show (-1200000 : Int) ≤ 0; decide
     · show -1200000 ≤ p.2.2 + _; omega
 · show (dyMake p.1 p.2.1 p.2.2).2.2 ≤ 200000;unfold dyMake;split
   · show (0 : Int) ≤ 200000; decide
   · split
     · show (0 : Int) ≤ 200000; decide
     · rename_i h0 _;show p.2.2 + _ ≤ 200000;have v := zW (k := p.2.1) (by omega);have b := uE (lim_lb p.2.1);rw [aJ] at b;omega
structure Of (u : Bool × List Int × Int) (P : Bool × Nat × Int) : Prop where
 eq : u = dyL P
 lb : Lb u.2.1
 len : u.2.1.length ≤ 1000
 val : lv u.2.1 = P.2.1
 neg : u.1 = P.1
 e : u.2.2 = P.2.2
 lo : -1200000 ≤ P.2.2
 hi : P.2.2 ≤ 200000
 nil : u.2.1.length = 0 ↔ P.2.1 = 0
theorem aHN {u : Bool × List Int × Int} {P : Bool × Nat × Int} (hP : DyN P) (h : u = dyL P) : Of u P := by
 refine ⟨h, by rw [h]; exact lim_lb _, by rw [h]; exact hP.len, by rw [h]; exact aJ _, by rw [h]; rfl, by rw [h]; rfl, hP.lo, hP.hi, ?_⟩;rw [h];have := iJ P.2.1;show (lim P.2.1).length = 0 ↔ _;omega
theorem qY {u v : Bool × List Int × Int} {H L : Bool × Nat × Int} {s : List Int} {d : Int} (hH : Of u H) (hL : Of v L) (hle : L.2.2 ≤ H.2.2) (hd : d = IntKind.i64.wrap (u.2.2 - v.2.2))
 (hs : s = if d < 1 then lim (lv u.2.1) else if 16777216 < d then [] else lim (lv u.2.1 * 2 ^ d.toNat)) : Lb s ∧ s.length ≤ 50000 ∧ lv s = H.2.1 * 2 ^ (H.2.2 - L.2.2).toNat := by
 have h1 := hH.lo; have h2 := hH.hi; have h3 := hL.lo; have h4 := hL.hi;have ed : d = H.2.2 - L.2.2 := by rw [hd, hH.e, hL.e, wi64]; omega
 rw [hH.val, ed] at hs;have e : s = lim (H.2.1 * 2 ^ (H.2.2 - L.2.2).toNat) := by
  rw [hs];split
  · rw [show (H.2.2 - L.2.2).toNat = 0 by omega]; simp
  · rw [if_neg (by omega)]
 rw [e];refine ⟨lim_lb _, ?_, aJ _⟩;have l := bP hH.lb;rw [hH.val] at l;obtain ⟨y, hy⟩ : ∃ y : Nat, (H.2.2 - L.2.2).toNat = y := ⟨_, rfl⟩
 rw [hy];have p : (2 : Nat) ^ y ≤ 2 ^ (32 * (y / 32 + 1)) := Ag (by decide) (by omega);rw [Cj] at p;have lt : H.2.1 * 2 ^ y < 4294967296 ^ (u.2.1.length + (y / 32 + 1)) := by
  rw [Ap];exact Nat.mul_lt_mul_of_lt_of_le l p (Bg (by decide))
 have := lim_length_le lt;have := hH.len;omega
theorem aAE {u : Bool × List Int × Int} {H L : Bool × Nat × Int} {s : List Int} {m : Bool × List Int} (hH : Of u H) (S : Lb s ∧ s.length ≤ 50000 ∧ lv s = H.2.1 * 2 ^ (H.2.2 - L.2.2).toNat)
 (hm' : m = (u.1 && decide (lv s ≠ 0), lim (lv s))) : Lb m.2 ∧ m.2.length ≤ 50000 ∧ m.1 = (H.1 && decide (H.2.1 * 2 ^ (H.2.2 - L.2.2).toNat ≠ 0)) ∧ lv m.2 = H.2.1 * 2 ^ (H.2.2 - L.2.2).toNat := by
 have l := eZ S.1 (Ba (lv s));rw [hm'];refine ⟨lim_lb _, by have := S.2.1; show (lim (lv s)).length ≤ 50000; omega, ?_, ?_⟩
 · show (u.1 && decide (lv s ≠ 0)) = _;rw [S.2.2, hH.neg]
 · show lv (lim (lv s)) = _;rw [aJ, S.2.2]
theorem aAG {v : Bool × List Int × Int} {H L : Bool × Nat × Int} {m w : Bool × List Int} (hL : Of v L) (M : Lb m.2 ∧ m.2.length ≤ 50000 ∧ m.1 = (H.1 && decide (H.2.1 * 2 ^ (H.2.2 - L.2.2).toNat ≠ 0)) ∧ lv m.2 = H.2.1 * 2 ^ (H.2.2 - L.2.2).toNat)
 (hw : w = ((wsum v.1 (lv v.2.1) m.1 (lv m.2)).1, lim (wsum v.1 (lv v.2.1) m.1 (lv m.2)).2)) : Lb w.2 ∧ w.2.length ≤ 51001 ∧ (-9223372036854775808 ≤ v.2.2 ∧ v.2.2 < 9223372036854775808) ∧ dyMake w.1 (lv w.2) v.2.2 = iF L H := by
 have := hL.lo; have := hL.hi; have := hL.e;refine ⟨by rw [hw]; exact lim_lb _, ?_, by omega, ?_⟩
 · have q := aNH (na := v.1) (nb := m.1) hL.lb M.1;have := hL.len;have := M.2.1;rw [hw];show (lim _).length ≤ 51001;omega
 · rw [hw];show dyMake _ (lv (lim _)) _ = _;rw [aJ, hL.e, hL.neg, hL.val, M.2.2.1, M.2.2.2];rfl
structure aTZ (P Q : Bool × Nat × Int) (r : Bool × List Int × Int) : Prop where
 z1 : P.2.1 = 0 → r = dyL Q
 z2 : ¬ P.2.1 = 0 → Q.2.1 = 0 → r = dyL P
 a1 : ¬ P.2.1 = 0 → ¬ Q.2.1 = 0 → Q.2.2 < P.2.2 → r = dyL (iF Q P)
 a2 : ¬ P.2.1 = 0 → ¬ Q.2.1 = 0 → ¬ Q.2.2 < P.2.2 → r = dyL (iF P Q)
theorem aSB {p q : Bool × Nat × Int} {r : Bool × List Int × Int} (h : dyL (dyPlus p q) = r) : aTZ (dyNorm p) (dyNorm q) r := by
 constructor
 · intro k; rw [← h]; unfold dyPlus; rw [if_pos k]
 · intro k g; rw [← h]; unfold dyPlus; rw [if_neg k, if_pos g]
 · intro k g l; rw [← h]; unfold dyPlus; rw [if_neg k, if_neg g, if_pos l]
 · intro k g l; rw [← h]; unfold dyPlus; rw [if_neg k, if_neg g, if_neg l]
theorem aPK (p q : Bool × Nat × Int) (hp : (lim p.2.1).length ≤ 1000) (hq : (lim q.2.1).length ≤ 1000) (ep : -1150000 ≤ p.2.2 ∧ p.2.2 ≤ 100000) (eq : -1150000 ≤ q.2.2 ∧ q.2.2 ≤ 100000)
 (x y : Bool × List Int × Int) (hx : x = dyL p) (hy : y = dyL q) : ∃ t : Bool × List Int × Int, t = dyL (dyPlus p q) ∧
 aC Tryz.prog 217 [.agg [.bool (.s x.1), .sli .u32 x.2.1, .int .i64 (.s x.2.2)], .agg [.bool (.s y.1), .sli .u32 y.2.1, .int .i64 (.s y.2.2)]] (.agg [.bool (.s t.1), .sli .u32 t.2.1, .int .i64 (.s t.2.2)]) := by
 refine ⟨_, rfl, ?_⟩;generalize hr : dyL (dyPlus p q) = r;have C := aSB hr;clear hr;have xa : Lb x.2.1 ∧ x.2.1.length ≤ 125000 ∧ (-9223372036854775808 ≤ x.2.2 ∧ x.2.2 < 9223372036854775808) ∧ dyMake x.1 (lv x.2.1) x.2.2 = dyNorm p := by
  rw [hx]; exact ⟨lim_lb _, Ae hp (by decide), ⟨De (by decide) ep.1, Dk ep.2 (by decide)⟩, by show dyMake p.1 (lv (lim p.2.1)) p.2.2 = _; rw [aJ]; rfl⟩
 have ya : Lb y.2.1 ∧ y.2.1.length ≤ 125000 ∧ (-9223372036854775808 ≤ y.2.2 ∧ y.2.2 < 9223372036854775808) ∧ dyMake y.1 (lv y.2.1) y.2.2 = dyNorm q := by
  rw [hy]; exact ⟨lim_lb _, Ae hq (by decide), ⟨De (by decide) eq.1, Dk eq.2 (by decide)⟩, by show dyMake q.1 (lv (lim q.2.1)) q.2.2 = _; rw [aJ]; rfl⟩
 have na := qD hp ep.1 ep.2;have nb := qD hq eq.1 eq.2;generalize dyNorm p = P at *
 generalize dyNorm q = Q at *
 clear hx hy hp hq ep eq;refine callsA_o Tryz.func217 fun E hE lp hl' => ?_
 cbv
 (refine E_cx hE (dP _ _ _ xa.1 xa.2.1 xa.2.2.1) ?_; intro u hu; cbv)
 have Ou := aHN na (by rw [← xa.2.2.2]; exact hu : u = dyL P);clear hu
 (refine E_cx hE (dP _ _ _ ya.1 ya.2.1 ya.2.2.1) ?_; intro v hv; cbv)
 have Ov := aHN nb (by rw [← ya.2.2.2]; exact hv : v = dyL Q);clear hv xa ya na nb;refine E_br hE ?_ ?_ <;> intro g1 <;> cbv
 · have k : P.2.1 = 0 := Ou.nil.1 (by subst hE; have k : (u.2.1.length : Int) = 0 := cA g1; omega);rw [← show v = r from Ov.eq.trans (C.z1 k).symm]; exact ⟨rfl, rfl, rfl, trivial⟩
 have k1 : ¬ P.2.1 = 0 := fun k => (by subst hE; exact eql_f g1 : ¬ (u.2.1.length : Int) = 0) (by have := Ou.nil.2 k; omega)
 refine E_br hE ?_ ?_ <;> intro g2 <;> cbv
 · have k : Q.2.1 = 0 := Ov.nil.1 (by subst hE; have k : (v.2.1.length : Int) = 0 := cA g2; omega);rw [← show u = r from Ou.eq.trans (C.z2 k1 k).symm]; exact ⟨rfl, rfl, rfl, trivial⟩
 have k2 : ¬ Q.2.1 = 0 := fun k => (by subst hE; exact eql_f g2 : ¬ (v.2.1.length : Int) = 0) (by have := Ov.nil.2 k; omega)
 refine E_br hE ?_ ?_ <;> intro g3 <;> cbv
 · have lt : Q.2.2 < P.2.2 := by rw [← Ou.e, ← Ov.e]; subst hE; exact cU g3
   have hle := Am lt
   (refine E_px hE (lW _ _ Ou.lb ?_) ?_; all_goals (first | (intro s hs; cbv) | (exact Ah Ou.len (by decide))))
   have S := qY (d := E.bin .sub .i64 u.2.2 v.2.2) Ou Ov hle (by subst hE; rfl) hs;clear hs
   (refine E_px hE (c_r2Make _ _ S.1 ?_) ?_; all_goals (first | (intro m hm_; cbv) | (exact Ae S.2.1 (by decide))))
   have M := aAE (L := Q) Ou S hm_;clear hm_ S
   (refine E_px hE (c_r2Add _ _ _ _ Ov.lb M.1 ?_ ?_) ?_; all_goals (first | (intro w hw; cbv) | (first | exact Ae Ov.len (by decide) | exact Ae M.2.1 (by decide))))
   have W := aAG Ov M hw;clear hw M
   (refine E_px hE (dP _ _ _ W.1 ?_ W.2.2.1) ?_; all_goals (first | (intro t ht; cbv) | (exact Ae W.2.1 (by decide))))
   have T : t = r := by rw [C.a1 k1 k2 lt]; rw [← W.2.2.2]; exact ht
   rw [T]; exact ⟨rfl, rfl, rfl, trivial⟩
 · have nlt : ¬ Q.2.2 < P.2.2 := by rw [← Ou.e, ← Ov.e]; subst hE; exact dB g3
   have hle := Int.not_lt.1 nlt
   (refine E_px hE (lW _ _ Ov.lb ?_) ?_; all_goals (first | (intro s hs; cbv) | (exact Ah Ov.len (by decide))))
   have S := qY (d := E.bin .sub .i64 v.2.2 u.2.2) Ov Ou hle (by subst hE; rfl) hs;clear hs
   (refine E_px hE (c_r2Make _ _ S.1 ?_) ?_; all_goals (first | (intro m hm_; cbv) | (exact Ae S.2.1 (by decide))))
   have M := aAE (L := P) Ov S hm_;clear hm_ S
   (refine E_px hE (c_r2Add _ _ _ _ Ou.lb M.1 ?_ ?_) ?_; all_goals (first | (intro w hw; cbv) | (first | exact Ae Ou.len (by decide) | exact Ae M.2.1 (by decide))))
   have W := aAG Ou M hw;clear hw M
   (refine E_px hE (dP _ _ _ W.1 ?_ W.2.2.1) ?_; all_goals (first | (intro t ht; cbv) | (exact Ae W.2.1 (by decide))))
   have T : t = r := by rw [C.a2 k1 k2 nlt]; rw [← W.2.2.2]; exact ht
   rw [T]; exact ⟨rfl, rfl, rfl, trivial⟩
def Num.near (n : Num) : Prop := n.kind = 1 → -1100000 ≤ n.e ∧ n.e ≤ 50000
theorem Num.kE {n : Num} (h : n.near) : n.fair.near := by
 unfold Num.fair;split
 · exact h
 · intro k; exact absurd k (by decide)
theorem exact_near {n : Num} (o : n.ok) (h : n.near) : (lim n.exact.1.2.1).length ≤ 1000 ∧ (-1150000 ≤ n.exact.1.2.2 ∧ n.exact.1.2.2 ≤ 100000) := by
 have l := (aKL o).1;refine ⟨by omega, ?_⟩;by_cases k : n.may = true ∧ n.kind = 1
 · have F : n.Fin := by
    rcases Num.may3 k.1 o with q | q | q
    · rw [q] at k; exact absurd k.2 (by decide)
    · exact q
    · have := k.2; rw [q] at this; exact absurd this (by show ¬ (2 : Int) = 1; decide)
   have hn := h k.2;have lo := F.lo;have hi := F.hi;have v := sY (n := n.m.toNat) (k := 64) (by omega) (by show n.m.toNat < 18446744073709551616; omega);have d := lK (ng := n.neg) (k := n.m.toNat) (e := n.e) (by omega) (by omega) (by omega);have u : n.exact.1 = dyMake n.neg n.m.toNat n.e := by
    unfold Num.exact;rw [if_neg (by rw [k.1, k.2]; decide), if_neg (by rw [k.2]; decide)]
   rw [u, d.2.2.1];omega
 · have u : n.exact.1.2.2 = 0 := by
    unfold Num.exact;split
    · rfl
    · rename_i q;split
      · rfl
      · rename_i q2;exfalso;apply k;have mm : n.may = true := by cases z : n.may; exact absurd (.inl z) q; rfl
        rcases Num.may3 mm o with s | s | s
        · rw [s] at q2; exact absurd rfl q2
        · exact ⟨mm, s.kind⟩
        · exact absurd (.inr (by rw [s]; rfl)) q
   rw [u]; decide
structure AddC (a b : Num) (up : Bool) (r : Num) : Prop where
 ii : a.kind = 2 → b.kind = 2 → a.neg ≠ b.neg → r = Num.inf (!up)
 ai : ¬ (a.kind = 2 ∧ b.kind = 2 ∧ a.neg ≠ b.neg) → a.kind = 2 → r = a
 bi : ¬ (a.kind = 2 ∧ b.kind = 2 ∧ a.neg ≠ b.neg) → ¬ a.kind = 2 → b.kind = 2 → r = b
 fin : ¬ (a.kind = 2 ∧ b.kind = 2 ∧ a.neg ≠ b.neg) → ¬ a.kind = 2 → ¬ b.kind = 2 → r = fL (dyPlus a.exact.1 b.exact.1) up
theorem aRD {x y : Num} {up : Bool} {r : Num} (h : Num.radd x y up = r) : AddC x.fair y.fair up r := by
 constructor
 · intro k1 k2 k3; rw [← h]; unfold Num.radd; rw [if_pos ⟨k1, k2, k3⟩]
 · intro k1 k2; rw [← h]; unfold Num.radd; rw [if_neg k1, if_pos k2]
 · intro k1 k2 k3; rw [← h]; unfold Num.radd; rw [if_neg k1, if_neg k2, if_pos k3]
 · intro k1 k2 k3; rw [← h]; unfold Num.radd; rw [if_neg k1, if_neg k2, if_neg k3]
theorem aFV {p q : Bool × Nat × Int} (hp : (lim p.2.1).length ≤ 1000) (hq : (lim q.2.1).length ≤ 1000) (ep : -1150000 ≤ p.2.2 ∧ p.2.2 ≤ 100000) (eq : -1150000 ≤ q.2.2 ∧ q.2.2 ≤ 100000) :
 (lim (dyPlus p q).2.1).length ≤ 62500 ∧ -9223372036854775808 ≤ (dyPlus p q).2.2 ∧ (dyPlus p q).2.2 < 9223372036854775808 := by
 have nP := qD hp ep.1 ep.2;have nQ := qD hq eq.1 eq.2;have al : ∀ {L H : Bool × Nat × Int}, DyN L → DyN H → L.2.2 ≤ H.2.2 → (lim (iF L H).2.1).length ≤ 62500 ∧ -9223372036854775808 ≤ (iF L H).2.2 ∧ (iF L H).2.2 < 9223372036854775808 := by
  intro L H hL hH hle;have Oh := aHN hH rfl;have Ol := aHN hL rfl;obtain ⟨s, hs⟩ : ∃ s, s = (if IntKind.i64.wrap ((dyL H).2.2 - (dyL L).2.2) < 1 then lim (lv (dyL H).2.1) else if 16777216 < IntKind.i64.wrap ((dyL H).2.2 - (dyL L).2.2) then [] else lim (lv (dyL H).2.1 * 2 ^ (IntKind.i64.wrap ((dyL H).2.2 - (dyL L).2.2)).toNat)) := ⟨_, rfl⟩
  have S := qY Oh Ol hle rfl hs;obtain ⟨m, hm'⟩ : ∃ m, m = ((dyL H).1 && decide (lv s ≠ 0), lim (lv s)) := ⟨_, rfl⟩
  have M := aAE (L := L) Oh S hm';obtain ⟨w, hw⟩ : ∃ w, w = ((wsum (dyL L).1 (lv (dyL L).2.1) m.1 (lv m.2)).1, lim (wsum (dyL L).1 (lv (dyL L).2.1) m.1 (lv m.2)).2) := ⟨_, rfl⟩
  have W := aAG Ol M hw;have r := fB w.1 (lv w.2) (dyL L).2.2;rw [W.2.2.2] at r;exact ⟨Ae (eZ W.1 r.2.2) (Ae W.2.1 (by decide)), De (by decide) r.1, Dk r.2.1 (by decide)⟩
 have one : ∀ {P : Bool × Nat × Int}, DyN P → (lim P.2.1).length ≤ 62500 ∧ -9223372036854775808 ≤ P.2.2 ∧ P.2.2 < 9223372036854775808 := fun h => ⟨Ae h.len (by decide), De (by decide) h.lo, Dk h.hi (by decide)⟩
 unfold dyPlus;split
 · exact one nQ
 · split
   · exact one nP
   · split
     · exact al nQ nP (by omega)
     · exact al nP nQ (by omega)
theorem aNZ (x y : Num) (up : Bool) (ox : x.ok) (oy : y.ok) (nx : x.near) (ny : y.near) : ∃ t : Num, t = Num.add x y up ∧ aC Tryz.prog 177 [x.av, y.av, .bool (.s up)] t.av := by
 rw [← aOO ox oy];refine ⟨_, rfl, ?_⟩;generalize hr : Num.radd x y up = r;have C := aRD hr;have oa := Num.fair_ok ox;have ob := Num.fair_ok oy;have ea := exact_near oa (Num.kE nx);have eb := exact_near ob (Num.kE ny);have pl := aFV ea.1 eb.1 ea.2 eb.2;clear hr;refine callsA_o Tryz.func177 fun E hE lp hl' => ?_
 cbv
 (refine E_cx hE (c_r6Fair ⟨_, _, _, _⟩) ?_; intro a ha; cbv)
 (refine E_cx hE (c_r6Fair ⟨_, _, _, _⟩) ?_; intro b hb; cbv)
 replace ha : a = x.fair := ha;replace hb : b = y.fair := hb;rw [← ha] at C oa ea pl;rw [← hb] at C ob eb pl;clear ha hb;have eb' : E.bnot (E.beq a.neg b.neg) = (a.neg != b.neg) := by subst hE; rfl
 refine E_br hE ?_ ?_ <;> intro g1 <;> cbv
 · have a2 : a.kind = 2 := by subst hE; exact cA g1
   refine E_br hE ?_ ?_ <;> intro g2 <;> cbv
   · have b2 : b.kind = 2 := by subst hE; exact cA g2
     refine E_br hE ?_ ?_ <;> intro g3 <;> cbv
     · have ne : a.neg ≠ b.neg := by have k : (a.neg != b.neg) = true := eb'.symm.trans g3; simpa using k
       (refine E_cx hE (rM _) ?_; intro t ht; cbv)
       have T : t = r := by
        have k : t = Num.inf (E.bnot up) := ht;rw [k, C.ii a2 b2 ne]; subst hE; rfl
       rw [T]; exact ⟨rfl, rfl, rfl, rfl, trivial⟩
     · have ne : ¬ (a.kind = 2 ∧ b.kind = 2 ∧ a.neg ≠ b.neg) := fun k => k.2.2 (by have q : (a.neg != b.neg) = false := eb'.symm.trans g3; simpa using q)
       refine E_br_t hE g1 ?_;cbv;rw [C.ai ne a2]; exact ⟨rfl, rfl, rfl, rfl, trivial⟩
   · have b2 : ¬ b.kind = 2 := by subst hE; exact eql_f g2
     refine E_br_t hE g1 ?_;cbv;rw [C.ai (fun k => b2 k.2.1) a2]; exact ⟨rfl, rfl, rfl, rfl, trivial⟩
 have a2 : ¬ a.kind = 2 := by subst hE; exact eql_f g1
 refine fD hE g1 ?_;cbv;refine E_br hE ?_ ?_ <;> intro g2 <;> cbv
 · have b2 : b.kind = 2 := by subst hE; exact cA g2
   rw [C.bi (fun k => a2 k.1) a2 b2]; exact ⟨rfl, rfl, rfl, rfl, trivial⟩
 have b2 : ¬ b.kind = 2 := by subst hE; exact eql_f g2
 have R := C.fin (fun k => a2 k.1) a2 b2;clear C eb'
 (refine E_cx hE (uW ⟨_, _, _, _⟩ ?_) ?_; all_goals (first | (intro p hp; cbv) | (exact oa)))
 (refine E_cx hE (uW ⟨_, _, _, _⟩ ?_) ?_; all_goals (first | (intro q hq; cbv) | (exact ob)))
 have P : p.1 = dyL a.exact.1 := by rw [show p = (dyL a.exact.1, a.exact.2) from hp]
 have Q : q.1 = dyL b.exact.1 := by rw [show q = (dyL b.exact.1, b.exact.2) from hq]
 clear hp hq
 (refine E_cx hE (aPK a.exact.1 b.exact.1 ea.1 eb.1 ea.2 eb.2 ⟨_, _, _⟩ ⟨_, _, _⟩ ?_ ?_) ?_; all_goals (first | (intro s hs; cbv) | (first | exact P | exact Q)))
 (refine E_cx hE (aER (dyPlus a.exact.1 b.exact.1) up pl.1 pl.2 ⟨_, _, _⟩ ?_) ?_; all_goals (first | (intro t ht; cbv) | (exact hs)))
 have T : t = r := ht.trans R.symm;rw [T]; exact ⟨rfl, rfl, rfl, rfl, trivial⟩
end
section
open Go Go.Proofs
theorem bA (z : Int) : whN z = (decide (z < 0), lim z.natAbs) := rfl
theorem eP (na : Bool) (a : List Int) (nb : Bool) (b : List Int) : ((wsum na (lv a) nb (lv b)).1, lim (wsum na (lv a) nb (lv b)).2) = whN (wv na a + wv nb b) := by
 unfold wsum;by_cases e : na = nb
 · subst e;rw [if_pos rfl];show (na && decide (lv a + lv b ≠ 0), lim (lv a + lv b)) = _;rw [cS]; unfold wv; congr 1; cases na <;> simp; omega
 · rw [if_neg e];by_cases h : lv a < lv b
   · rw [if_pos h];show (nb && decide (lv b - lv a ≠ 0), lim (lv b - lv a)) = _;rw [cS]; unfold wv; congr 1; cases na <;> cases nb <;> simp at e ⊢ <;> omega
   · rw [if_neg h];show (na && decide (lv a - lv b ≠ 0), lim (lv a - lv b)) = _;rw [cS]; unfold wv; congr 1; cases na <;> cases nb <;> simp at e ⊢ <;> omega
attribute [local irreducible] Lb
theorem c_r2From (n : Int) (h1 : -9223372036854775808 ≤ n) (h2 : n < 9223372036854775808) : ∃ t : Bool × List Int, t = whN n ∧ aC Tryz.prog 78 [.int .i64 (.s n)] (.agg [.bool (.s t.1), .sli .u32 t.2]) := by
 refine ⟨_, rfl, ?_⟩;generalize hr : whN n = r;rw [bA] at hr;have lb := aDF (m := (n.natAbs : Int)) (by omega) (by omega);obtain ⟨m, em⟩ : ∃ m, m = [(n.natAbs : Int) % 4294967296, (n.natAbs : Int) / 4294967296] := ⟨_, rfl⟩
 rw [← em] at lb;have ll : m.length ≤ 268435456 := by rw [em]; show (2 : Nat) ≤ _; decide
 have fin : ∀ (c : Bool) (l : List Int) (t : Bool × List Int), c = decide (n < 0) → l = m → t = (c && decide (lv l ≠ 0), lim (lv l)) → t = r := by
  intro c l t hc hl ht;rw [ht, hl, em, aCV (by omega), ← hr, hc, show ((n.natAbs : Nat) : Int).toNat = n.natAbs from rfl];by_cases h : n < 0
  · rw [Au (p := n.natAbs ≠ 0) (by omega), Dm]
  · rw [Az h, Bool.false_and]
 have wn : ∀ x : Int, x = (n.natAbs : Int) → [IntKind.u32.wrap (aA .rem .u64 x 4294967296), IntKind.u32.wrap (aA .quo .u64 x 4294967296)] = m := by
  intro x hx;have e1 : aA .rem .u64 x 4294967296 = x % 4294967296 := Bx (by omega);have e2 : aA .quo .u64 x 4294967296 = x / 4294967296 := by
   show IntKind.u64.wrap (x.tdiv 4294967296) = _;rw [Dc (by omega), wu64]; omega
  rw [em, e1, e2, hx, wu32, wu32];congr 1
  · omega
  · congr 1; omega
 have neg : n < 0 → ∀ u v : Int, u = IntKind.u64.wrap (IntKind.i64.wrap (0 - IntKind.i64.wrap (n + 1))) → v = IntKind.u64.wrap (u + 1) → v = (n.natAbs : Int) := by
  intro hn u v hu hv;simp only [wu64, wi64] at hu hv; omega
 have pos : ¬ n < 0 → ∀ u : Int, u = IntKind.u64.wrap n → u = (n.natAbs : Int) := by
  intro hn u hu;simp only [wu64] at hu; omega
 clear hr em;refine callsA_o Tryz.func78 fun E hE lp hl' => ?_
 cbv;refine E_nm hE fun u hu => ?_; cbv
 refine E_br hE ?_ ?_ <;> intro g <;> cbv
 · have hn : n < 0 := by subst hE; exact bF g
   refine E_nm hE fun v hv => ?_; cbv
   have k : E.sub [E.conv .u32 (E.bin .rem .u64 v 4294967296), E.conv .u32 (E.bin .quo .u64 v 4294967296)] 0 2 = m := by
    subst hE;exact wn v (neg hn _ v rfl hv)
   have c1 : E.cmp .lss n 0 = decide (n < 0) := by subst hE; rfl
   (refine E_cx hE (c_r2Make _ _ ?_ ?_) ?_; all_goals (first | (intro t ht; cbv) | (first | exact k ▸ lb | exact k ▸ ll)))
   rw [← fin _ _ t c1 k ht]; exact ⟨rfl, rfl, trivial⟩
 · have hn : ¬ n < 0 := by subst hE; exact aW g
   have k : E.sub [E.conv .u32 (E.bin .rem .u64 u 4294967296), E.conv .u32 (E.bin .quo .u64 u 4294967296)] 0 2 = m := by
    subst hE;exact wn u (pos hn u hu)
   have c1 : E.cmp .lss n 0 = decide (n < 0) := by subst hE; rfl
   (refine E_cx hE (c_r2Make _ _ ?_ ?_) ?_; all_goals (first | (intro t ht; cbv) | (first | exact k ▸ lb | exact k ▸ ll)))
   rw [← fin _ _ t c1 k ht]; exact ⟨rfl, rfl, trivial⟩
theorem uA (na : Bool) (a : List Int) (ha : Lb a) (hla : a.length ≤ 268435456) : ∃ t : Bool × List Int, t = whN (- wv na a) ∧ aC Tryz.prog 76 [.agg [.bool (.s na), .sli .u32 a]] (.agg [.bool (.s t.1), .sli .u32 t.2]) := by
 refine ⟨_, rfl, ?_⟩;generalize hr : whN (- wv na a) = r;have fin : (!na && decide (lv a ≠ 0), lim (lv a)) = r := by rw [← hr, cS]; unfold wv; congr 1; cases na <;> simp
 clear hr;refine callsA_o Tryz.func76 fun E hE lp hl' => ?_
 cbv
 (refine E_cx hE (c_r2Make _ a ha hla) ?_; intro t ht; cbv)
 have k : t = r := by
  have k : t = (E.bnot na && decide (lv a ≠ 0), lim (lv a)) := ht;rw [k, ← fin]; subst hE; rfl
 rw [← k]; exact ⟨rfl, rfl, trivial⟩
theorem aAV (na : Bool) (a : List Int) (nb : Bool) (b : List Int) (ha : Lb a) (hb : Lb b) (hla : a.length ≤ 100000) (hlb : b.length ≤ 100000) :
 ∃ t : Bool × List Int, t = whN (wv na a - wv nb b) ∧ aC Tryz.prog 146 [.agg [.bool (.s na), .sli .u32 a], .agg [.bool (.s nb), .sli .u32 b]] (.agg [.bool (.s t.1), .sli .u32 t.2]) := by
 refine ⟨_, rfl, ?_⟩;generalize hr : whN (wv na a - wv nb b) = r;have lb : b.length ≤ 268435456 := by omega
 have vb : ∀ u : Bool × List Int, u = whN (- wv nb b) → Lb u.2 ∧ u.2.length ≤ 100000 ∧ wv u.1 u.2 = - wv nb b := by
  intro u hu;rw [hu];refine ⟨whN_lb _, ?_, dZ _⟩;have e : (- wv nb b).natAbs = lv b := by unfold wv; cases nb <;> simp
  rw [bA, e]; exact Ae (aO hb) hlb
 refine callsA_o Tryz.func146 fun E hE lp hl' => ?_
 cbv
 (refine E_px hE (uA nb b hb lb) ?_; intro u hu; cbv)
 obtain ⟨u1, u2, u3⟩ := vb u hu
 (refine E_px hE (c_r2Add na a u.1 u.2 ha u1 hla u2) ?_; intro t ht; cbv)
 have k : t = r := by
  have k : t = ((wsum na (lv a) u.1 (lv u.2)).1, lim (wsum na (lv a) u.1 (lv u.2)).2) := ht;rw [k, eP, u3, ← hr]; rfl
 rw [← k]; exact ⟨rfl, rfl, trivial⟩
end
section
open Go Go.Proofs
attribute [local irreducible] Lb
theorem wi64_in {n : Int} (h0 : -9223372036854775808 ≤ n) (h1 : n < 9223372036854775808) : IntKind.i64.wrap n = n := by rw [wi64]; omega
def natu (n : Nat) : Nat × Int × Bool :=
 if blen (n : Int) ≤ 64 then (n * 2 ^ (64 - blen (n : Int)).toNat, blen (n : Int) - 64, false)
 else (n / 2 ^ (blen (n : Int) - 64).toNat, blen (n : Int) - 64, decide (n / 2 ^ (blen (n : Int) - 64).toNat * 2 ^ (blen (n : Int) - 64).toNat ≠ n))
theorem aHR {n : Nat} : n < 2 ^ (blen (n : Int)).toNat := by
 rcases Ao n with h | h
 · rw [h]; decide
 · obtain ⟨k, hk, _, h2⟩ := fA h;rw [hk, show ((k : Int) + 1).toNat = k + 1 by omega]; exact h2
theorem gI {m : List Int} (h : Lb m) : blen (lv m : Int) ≤ 32 * m.length := by
 have := cQ (x := (lv m : Int)) (32 * m.length) (by
   have h1 := bP h;rw [show (4294967296 : Nat) = 2 ^ 32 by rfl, ← Cj] at h1
   exact_mod_cast h1)
 omega
theorem aQW {n : Nat} (h : n < 2 ^ 64) : (lim n).length ≤ 2 := lim_length_le (by rw [show (4294967296 : Nat) ^ 2 = 2 ^ 64 by decide +kernel]; exact h)
theorem aPB {n : Nat} (h : blen (n : Int) ≤ 64) : n * 2 ^ (64 - blen (n : Int)).toNat < 2 ^ 64 := by
 have b0 := aX (n : Int);have h1 := aHR (n := n)
 calc n * 2 ^ (64 - blen (n : Int)).toNat < 2 ^ (blen (n : Int)).toNat * 2 ^ (64 - blen (n : Int)).toNat := Cg h1 (Bf _)
  _ = 2 ^ 64 := by rw [← Ap]; congr 1; omega
theorem aOI {n : Nat} (h : 64 < blen (n : Int)) : n / 2 ^ (blen (n : Int) - 64).toNat < 2 ^ 64 := by
 have h1 := aHR (n := n);refine Nat.div_lt_of_lt_mul ?_;rw [← Ap, show (blen (n : Int) - 64).toNat + 64 = (blen (n : Int)).toNat by omega]; exact h1
theorem aLB {n : Nat} (h : (lim n).length ≤ 200004) : -64 ≤ (natu n).2.1 ∧ (natu n).2.1 ≤ 6400128 := by
 have b0 := aX (n : Int);have b1 := gI (lim_lb n);rw [aJ] at b1;unfold natu;split <;> constructor <;> dsimp only <;> omega
def bH (na : Bool) (a : Nat) (nb : Bool) (b : Nat) (up : Bool) : Num :=
 if b = 0 then Num.inf (!up) else if a = 0 then Num.zero else
  Num.grow (na != nb) ((natu (a * 2 ^ (max 0 (65 + blen (b : Int) - blen (a : Int))).toNat / b)).1 : Int) ((natu (a * 2 ^ (max 0 (65 + blen (b : Int) - blen (a : Int))).toNat / b)).2.1 - max 0 (65 + blen (b : Int) - blen (a : Int)))
   ((natu (a * 2 ^ (max 0 (65 + blen (b : Int) - blen (a : Int))).toNat / b)).2.2 || decide (a * 2 ^ (max 0 (65 + blen (b : Int) - blen (a : Int))).toNat % b ≠ 0)) (up != (na != nb))
end
section
open Go Go.Proofs
theorem whN_def (z : Int) : whN z = (decide (z < 0), lim z.natAbs) := rfl
attribute [local irreducible] Lb whN piOne
theorem aGN (na : Bool) (a : List Int) (nb : Bool) (b : List Int) (hna : na = false) (hnb : nb = false) (ha : Lb a) (hb : Lb b) (hla : a.length < 33554432) (hlb : b.length < 33554432) (hb0 : lv b ≠ 0) :
 ∃ t : (Bool × List Int) × (Bool × List Int), t = (whN ((lv a / lv b : Nat) : Int), whN ((lv a % lv b : Nat) : Int)) ∧
  aC Tryz.prog 141 [.agg [.bool (.s na), .sli .u32 a], .agg [.bool (.s nb), .sli .u32 b]] (.tup [.agg [.bool (.s t.1.1), .sli .u32 t.1.2], .agg [.bool (.s t.2.1), .sli .u32 t.2.2], .bool (.s true)]) := by
 subst hna hnb; exact aIL a b ha hb hla hlb hb0
def piTerm (n j : Nat) : Nat := piOne / (n ^ (2 * j + 1) * (2 * j + 1))
def nbB (n : Int) : Blk := .rows true 1 [.int .i64 (.l 0)] [[.int .i64 (.s n)]]
def pwB (p : Bool × List Int) : Blk := .rows true 2 [.bool (.l false), .s0] [[.bool (.s p.1), .sli .u32 p.2]]
def zwB : Blk := .rows true 2 [.bool (.l false), .s0] [[.bool (.l false), .s0]]
def odB (o : Int) : Blk := .rows true 1 [.int .i64 (.l 0)] [[.int .i64 (.s o)]]
theorem bD (n : Nat) : whN (n : Int) = (false, lim n) := by unfold whN; rw [Az (by omega), Ck]
theorem nN {n k : Nat} (h0 : 2 ≤ n) (hn : n ≤ 1000) (hk : k ≤ 240) : n ^ k ≤ 4294967296 ^ 80 := by
 have h3 : n ^ 3 ≤ 4294967296 := Ae (Nat.pow_le_pow_left hn 3) (by decide)
 calc n ^ k ≤ n ^ (3 * 80) := Ag (by omega) hk
  _ = (n ^ 3) ^ 80 := by rw [Cj]
  _ ≤ 4294967296 ^ 80 := Nat.pow_le_pow_left h3 80
theorem cE {m : Nat} (h : m ≤ 4294967296 ^ 100) : (lim m).length ≤ 101 := lim_length_le (Ah h (Nat.pow_lt_pow_right (by decide) (by decide)))
theorem jF : piOne ≤ 4294967296 ^ 100 := by unfold piOne; decide +kernel
theorem iU {k l : Nat} (h : k ≤ l) : 4294967296 ^ k ≤ 4294967296 ^ l := Ag (by decide) h
theorem vG (n : Nat) : wv (whN (n : Int)).1 (whN (n : Int)).2 = n := dZ _
theorem aOA (n j : Nat) (hn1 : 2 ≤ n) (hn2 : n ≤ 1000) (hj : j ≤ 98) (N : Int) (hN : N = n) (p : Bool × List Int) (hp : p = whN ((n ^ (2 * j + 1) : Nat) : Int)) (o : Int) (ho : o = 2 * (j : Int) - 1)  :
 eE Tryz.prog 233 [.ptr 4 1 (.l 0) 0, .ptr 3 2 (.l 0) 0, .ptr 2 1 (.l 0) 0] [zwB, zwB, nbB N, pwB p, odB o, zwB]
  (fun v h => ∃ (t p' : Bool × List Int) (o' : Int), v = .agg [.bool (.s t.1), .sli .u32 t.2] ∧ h = [zwB, zwB, nbB N, pwB p', odB o', zwB] ∧ t = whN ((piTerm n j : Nat) : Int) ∧ p' = whN ((n ^ (2 * (j + 1) + 1) : Nat) : Int) ∧ o' = 2 * ((j + 1 : Nat) : Int) - 1) := by
 obtain ⟨f, ef⟩ : ∃ f : (Bool × List Int) → (Bool × List Int) → Int → Prop, ∀ t p' o', f t p' o' ↔ (t = whN ((piTerm n j : Nat) : Int) ∧ p' = whN ((n ^ (2 * (j + 1) + 1) : Nat) : Int) ∧ o' = 2 * ((j + 1 : Nat) : Int) - 1) := ⟨_, fun _ _ _ => Bs⟩
 have p1 : p.1 = false := by rw [hp, bD]
 have p2 : lv p.2 = n ^ (2 * j + 1) := by rw [hp, bD, aJ]
 have pb : Lb p.2 := by rw [hp]; exact whN_lb _
 have wp : wv p.1 p.2 = ((n ^ (2 * j + 1) : Nat) : Int) := by rw [hp]; exact vG _
 have pl : p.2.length < 60000000 := by rw [hp, bD]; exact Ah (cE (Ae (nN hn1 hn2 (by omega)) (iU (by decide)))) (by decide)
 have o1 : IntKind.i64.wrap (o + 2) = 2 * (j : Int) + 1 := by rw [wi64_in (by omega) (by omega)]; omega
 have nn : (n : Int) * n = ((n * n : Nat) : Int) := (Bp n n).symm;have nk : n * n ≤ 1000000 := Di hn2 hn2;have n2 : IntKind.i64.wrap (N * N) = ((n * n : Nat) : Int) := by
  rw [hN, nn, wi64_in (by omega) (by omega)]
 have o3 : -9223372036854775808 ≤ (2 * (j : Int) + 1) ∧ (2 * (j : Int) + 1) < 9223372036854775808 := by omega
 have n3 : -9223372036854775808 ≤ ((n * n : Nat) : Int) ∧ ((n * n : Nat) : Int) < 9223372036854775808 := by omega
 have fin : ∀ (s d q r : Bool × List Int), s = whN (piOne : Int) → d = whN (wv p.1 p.2 * (2 * (j : Int) + 1)) → q = whN ((lv s.2 / lv d.2 : Nat) : Int) → r = whN (wv p.1 p.2 * ((n * n : Nat) : Int)) → f q r (2 * (j : Int) + 1) := by
  intro s d q r hs hd hq hr;rw [ef];have e1 : lv s.2 = piOne := by rw [hs, bD, aJ]
  have e2 : lv d.2 = n ^ (2 * j + 1) * (2 * j + 1) := by
   rw [hd, wp, show ((n ^ (2 * j + 1) : Nat) : Int) * (2 * (j : Int) + 1) = ((n ^ (2 * j + 1) * (2 * j + 1) : Nat) : Int) by push_cast; rfl, bD, aJ]
  refine ⟨by rw [hq, e1, e2]; rfl, ?_, by push_cast; omega⟩;rw [hr, wp];exact congrArg _ (by rw [← Bp, show 2 * (j + 1) + 1 = (2 * j + 1) + 2 by omega, Ap n (2 * j + 1) 2, show n * n = n ^ 2 from (Nat.pow_two n).symm])
 have side : ∀ d : Bool × List Int, d = whN (wv p.1 p.2 * (2 * (j : Int) + 1)) → d.1 = false ∧ Lb d.2 ∧ d.2.length < 33554432 ∧ lv d.2 ≠ 0 := by
  intro d hd;have e : d = (false, lim (n ^ (2 * j + 1) * (2 * j + 1))) := by
   rw [hd, wp, show ((n ^ (2 * j + 1) : Nat) : Int) * (2 * (j : Int) + 1) = ((n ^ (2 * j + 1) * (2 * j + 1) : Nat) : Int) by push_cast; rfl, bD]
  rw [e];refine ⟨rfl, lim_lb _, Ah (cE ?_) (by decide), ?_⟩
  · calc n ^ (2 * j + 1) * (2 * j + 1) ≤ 4294967296 ^ 80 * 4294967296 ^ 1 := Di (nN hn1 hn2 (by omega)) (by rw [Nat.pow_one]; omega)
     _ = 4294967296 ^ 81 := by rw [← Ap]
     _ ≤ 4294967296 ^ 100 := iU (by decide)
  · rw [aJ];exact Nat.pos_iff_ne_zero.1 (Dw (Bg (by omega)) (by omega))
 have sside : ∀ s : Bool × List Int, s = whN (piOne : Int) → s.1 = false ∧ Lb s.2 ∧ s.2.length < 33554432 := by
  intro s hs;rw [hs, bD];exact ⟨rfl, (lim_lb piOne : Lb (lim piOne)), Ah (cE jF) (by decide)⟩
 refine lF (gK (K := fun v h => ∃ (t p' : Bool × List Int) (o' : Int) (r1 r2 r3 : Blk), v = .agg [.bool (.s t.1), .sli .u32 t.2] ∧ h = [zwB, zwB, nbB N, pwB p', odB o', zwB, r1, r2, r3] ∧ f t p' o') hG hm Tryz.func233 (by kernel_rfl) ?_) ?_
 · clear hp ho;intro E hE lp hl';cbv;have eo : E.bin .add .i64 o 2 = 2 * (j : Int) + 1 := by subst hE; exact o1
   have en : E.bin .mul .i64 N N = ((n * n : Nat) : Int) := by subst hE; exact n2
   (refine E_px hE iW ?_; intro s hs; cbv)
   have e1 : -9223372036854775808 ≤ E.bin .add .i64 o 2 := by rw [eo]; exact o3.1
   have e2 : E.bin .add .i64 o 2 < 9223372036854775808 := by rw [eo]; exact o3.2
   apply E_pcallX hE (gF p.1 p.2 (E.bin .add .i64 o 2) pb pl e1 e2)
   case hm => rfl
   case hle => exact u_up
   intro d hd;cbv;have hd : d = whN (wv p.1 p.2 * (2 * (j : Int) + 1)) := by
    have k : d = whN (wv p.1 p.2 * E.bin .add .i64 o 2) := hd;rw [k, eo]
   obtain ⟨d1, d2, d3, d4⟩ := side d hd;obtain ⟨s1, s2, s3⟩ := sside s hs
   (refine E_px hE (aGN s.1 s.2 d.1 d.2 s1 d1 s2 d2 s3 d3 d4) ?_; intro q hq; cbv)
   have e3 : -9223372036854775808 ≤ E.bin .mul .i64 N N := by rw [en]; exact n3.1
   have e4 : E.bin .mul .i64 N N < 9223372036854775808 := by rw [en]; exact n3.2
   (refine E_cx hE (gF p.1 p.2 (E.bin .mul .i64 N N) pb pl e3 e4) ?_; intro r hr; cbv)
   have hr : r = whN (wv p.1 p.2 * ((n * n : Nat) : Int)) := by
    have k : r = whN (wv p.1 p.2 * E.bin .mul .i64 N N) := hr;rw [k, en]
   have q1 : q.1 = whN ((lv s.2 / lv d.2 : Nat) : Int) := by
    have k : q = (whN ((lv s.2 / lv d.2 : Nat) : Int), whN ((lv s.2 % lv d.2 : Nat) : Int)) := hq;rw [k]
   have F := fin s d q.1 r hs hd q1 hr;rw [← eo] at F;exact ⟨q.1, r, E.bin .add .i64 o 2, _, _, _, rfl, rfl, F⟩
 · rintro v h ⟨t, p', o', r1, r2, r3, rfl, rfl, hf⟩;exact ⟨[0, 1, 2, 3, 4, 5], .agg [.bool (.s t.1), .sli .u32 t.2], [zwB, zwB, nbB N, pwB p', odB o', zwB], ⟨by repeat' (first | exact trivial | exact rfl | apply And.intro), rfl, rfl, by show (_ : Nat) ≤ _; exact Ba _, by repeat' (first | exact trivial | exact rfl | apply And.intro), fun _ _ hv => hv, rfl⟩, t, p', o', rfl, rfl, (ef t p' o').1 hf⟩
theorem tQ (n j : Nat) (hn1 : 2 ≤ n) (hn2 : n ≤ 1000) (hj : j ≤ 98) (N : Int) (hN : N = n) (p : Bool × List Int) (hp : p = whN ((n ^ (2 * j + 1) : Nat) : Int)) (o : Int) (ho : o = 2 * (j : Int) - 1) (x5 x7 x8 : Bool × List Int) :
 eE Tryz.prog 233 [.ptr 4 1 (.l 0) 0, .ptr 3 2 (.l 0) 0, .ptr 2 1 (.l 0) 0] [zwB, zwB, nbB N, pwB p, odB o, pwB x5, .dead, pwB x7, pwB x8]
  (fun v h => ∃ (t p' : Bool × List Int) (o' : Int), v = .agg [.bool (.s t.1), .sli .u32 t.2] ∧ h = [zwB, zwB, nbB N, pwB p', odB o', pwB x5, .dead, pwB x7, pwB x8] ∧ t = whN ((piTerm n j : Nat) : Int) ∧ p' = whN ((n ^ (2 * (j + 1) + 1) : Nat) : Int) ∧ o' = 2 * ((j + 1 : Nat) : Int) - 1) := by
 obtain ⟨f, ef⟩ : ∃ f : (Bool × List Int) → (Bool × List Int) → Int → Prop, ∀ t p' o', f t p' o' ↔ (t = whN ((piTerm n j : Nat) : Int) ∧ p' = whN ((n ^ (2 * (j + 1) + 1) : Nat) : Int) ∧ o' = 2 * ((j + 1 : Nat) : Int) - 1) := ⟨_, fun _ _ _ => Bs⟩
 have p1 : p.1 = false := by rw [hp, bD]
 have p2 : lv p.2 = n ^ (2 * j + 1) := by rw [hp, bD, aJ]
 have pb : Lb p.2 := by rw [hp]; exact whN_lb _
 have wp : wv p.1 p.2 = ((n ^ (2 * j + 1) : Nat) : Int) := by rw [hp]; exact vG _
 have pl : p.2.length < 60000000 := by rw [hp, bD]; exact Ah (cE (Ae (nN hn1 hn2 (by omega)) (iU (by decide)))) (by decide)
 have o1 : IntKind.i64.wrap (o + 2) = 2 * (j : Int) + 1 := by rw [wi64_in (by omega) (by omega)]; omega
 have nn : (n : Int) * n = ((n * n : Nat) : Int) := (Bp n n).symm;have nk : n * n ≤ 1000000 := Di hn2 hn2;have n2 : IntKind.i64.wrap (N * N) = ((n * n : Nat) : Int) := by
  rw [hN, nn, wi64_in (by omega) (by omega)]
 have o3 : -9223372036854775808 ≤ (2 * (j : Int) + 1) ∧ (2 * (j : Int) + 1) < 9223372036854775808 := by omega
 have n3 : -9223372036854775808 ≤ ((n * n : Nat) : Int) ∧ ((n * n : Nat) : Int) < 9223372036854775808 := by omega
 have fin : ∀ (s d q r : Bool × List Int), s = whN (piOne : Int) → d = whN (wv p.1 p.2 * (2 * (j : Int) + 1)) → q = whN ((lv s.2 / lv d.2 : Nat) : Int) → r = whN (wv p.1 p.2 * ((n * n : Nat) : Int)) → f q r (2 * (j : Int) + 1) := by
  intro s d q r hs hd hq hr;rw [ef];have e1 : lv s.2 = piOne := by rw [hs, bD, aJ]
  have e2 : lv d.2 = n ^ (2 * j + 1) * (2 * j + 1) := by
   rw [hd, wp, show ((n ^ (2 * j + 1) : Nat) : Int) * (2 * (j : Int) + 1) = ((n ^ (2 * j + 1) * (2 * j + 1) : Nat) : Int) by push_cast; rfl, bD, aJ]
  refine ⟨by rw [hq, e1, e2]; rfl, ?_, by push_cast; omega⟩;rw [hr, wp];exact congrArg _ (by rw [← Bp, show 2 * (j + 1) + 1 = (2 * j + 1) + 2 by omega, Ap n (2 * j + 1) 2, show n * n = n ^ 2 from (Nat.pow_two n).symm])
 have side : ∀ d : Bool × List Int, d = whN (wv p.1 p.2 * (2 * (j : Int) + 1)) → d.1 = false ∧ Lb d.2 ∧ d.2.length < 33554432 ∧ lv d.2 ≠ 0 := by
  intro d hd;have e : d = (false, lim (n ^ (2 * j + 1) * (2 * j + 1))) := by
   rw [hd, wp, show ((n ^ (2 * j + 1) : Nat) : Int) * (2 * (j : Int) + 1) = ((n ^ (2 * j + 1) * (2 * j + 1) : Nat) : Int) by push_cast; rfl, bD]
  rw [e];refine ⟨rfl, lim_lb _, Ah (cE ?_) (by decide), ?_⟩
  · calc n ^ (2 * j + 1) * (2 * j + 1) ≤ 4294967296 ^ 80 * 4294967296 ^ 1 := Di (nN hn1 hn2 (by omega)) (by rw [Nat.pow_one]; omega)
     _ = 4294967296 ^ 81 := by rw [← Ap]
     _ ≤ 4294967296 ^ 100 := iU (by decide)
  · rw [aJ];exact Nat.pos_iff_ne_zero.1 (Dw (Bg (by omega)) (by omega))
 have sside : ∀ s : Bool × List Int, s = whN (piOne : Int) → s.1 = false ∧ Lb s.2 ∧ s.2.length < 33554432 := by
  intro s hs;rw [hs, bD];exact ⟨rfl, (lim_lb piOne : Lb (lim piOne)), Ah (cE jF) (by decide)⟩
 refine lF (gK (K := fun v h => ∃ (t p' : Bool × List Int) (o' : Int) (r1 r2 r3 : Blk), v = .agg [.bool (.s t.1), .sli .u32 t.2] ∧ h = [zwB, zwB, nbB N, pwB p', odB o', pwB x5, .dead, pwB x7, pwB x8, r1, r2, r3] ∧ f t p' o') hG hm Tryz.func233 (by kernel_rfl) ?_) ?_
 · clear hp ho;intro E hE lp hl';cbv;have eo : E.bin .add .i64 o 2 = 2 * (j : Int) + 1 := by subst hE; exact o1
   have en : E.bin .mul .i64 N N = ((n * n : Nat) : Int) := by subst hE; exact n2
   (refine E_px hE iW ?_; intro s hs; cbv)
   have e1 : -9223372036854775808 ≤ E.bin .add .i64 o 2 := by rw [eo]; exact o3.1
   have e2 : E.bin .add .i64 o 2 < 9223372036854775808 := by rw [eo]; exact o3.2
   apply E_pcallX hE (gF p.1 p.2 (E.bin .add .i64 o 2) pb pl e1 e2)
   case hm => rfl
   case hle => exact u_up
   intro d hd;cbv;have hd : d = whN (wv p.1 p.2 * (2 * (j : Int) + 1)) := by
    have k : d = whN (wv p.1 p.2 * E.bin .add .i64 o 2) := hd;rw [k, eo]
   obtain ⟨d1, d2, d3, d4⟩ := side d hd;obtain ⟨s1, s2, s3⟩ := sside s hs
   (refine E_px hE (aGN s.1 s.2 d.1 d.2 s1 d1 s2 d2 s3 d3 d4) ?_; intro q hq; cbv)
   have e3 : -9223372036854775808 ≤ E.bin .mul .i64 N N := by rw [en]; exact n3.1
   have e4 : E.bin .mul .i64 N N < 9223372036854775808 := by rw [en]; exact n3.2
   (refine E_cx hE (gF p.1 p.2 (E.bin .mul .i64 N N) pb pl e3 e4) ?_; intro r hr; cbv)
   have hr : r = whN (wv p.1 p.2 * ((n * n : Nat) : Int)) := by
    have k : r = whN (wv p.1 p.2 * E.bin .mul .i64 N N) := hr;rw [k, en]
   have q1 : q.1 = whN ((lv s.2 / lv d.2 : Nat) : Int) := by
    have k : q = (whN ((lv s.2 / lv d.2 : Nat) : Int), whN ((lv s.2 % lv d.2 : Nat) : Int)) := hq;rw [k]
   have F := fin s d q.1 r hs hd q1 hr;rw [← eo] at F;exact ⟨q.1, r, E.bin .add .i64 o 2, _, _, _, rfl, rfl, F⟩
 · rintro v h ⟨t, p', o', r1, r2, r3, rfl, rfl, hf⟩;exact ⟨[0, 1, 2, 3, 4, 5, 6, 7, 8], .agg [.bool (.s t.1), .sli .u32 t.2], [zwB, zwB, nbB N, pwB p', odB o', pwB x5, .dead, pwB x7, pwB x8], ⟨by repeat' (first | exact trivial | exact rfl | apply And.intro), rfl, rfl, by show (_ : Nat) ≤ _; exact Ba _, by repeat' (first | exact trivial | exact rfl | apply And.intro), fun _ _ hv => hv, rfl⟩, t, p', o', rfl, rfl, (ef t p' o').1 hf⟩
end
section
open Go Go.RowKit
variable {P : Program} {G : Nat → TI}
theorem aBP {f : FuncId} {args : List AV} {h : List Blk} {K K' : AV → List Blk → Prop} (hC : eE P f args h K')
 (hK : ∀ v h1, K' v h1 → ∃ b x y, h1[b]? = some y ∧ x.wr = y.wr ∧ (x.dim = y.dim ∧ x.need = y.need) ∧ (∀ (x1 x2 : X) g, x1.w = x2.w → BlkR x1 g y → BlkR x2 g x) ∧ K v (h1.set b x)) : eE P f args h K := by
 intro base O0 μ w vals H hl ha;refine (hC base O0 μ w vals H hl ha).mono ?_;rintro e w' ⟨val, v, h1, μ1, rfl, hk, hv, H1, X1, hB⟩;obtain ⟨b, x, y, hb, hw, ⟨hd, hn⟩, hr, hK⟩ := hK v h1 hk;have hb0 : b < h1.length := (List.getElem?_eq_some_iff.1 hb).1;have hdim : x.dim = dimB h1 b := by rw [hd]; simp [dimB, hb]
 have hwr : x.wr = true → wrB h1 b = true := by intro k; rw [hw] at k; simp [wrB, hb, k]
 have e := Ext.turn H1 (b := b) (x := x) (.inr rfl) hwr (.inr hdim) rfl (fun _ _ => rfl) (fun _ h => h);exact ⟨val, v, h1.set b x, μ1, rfl, hK, hv.mono e, HR.turn H1 hb0 (.inr rfl) hwr (.inr hdim) rfl (fun _ _ => rfl) (fun _ h => h) (hr (mkX base O0 μ1 h1 w') _ _ rfl (H1.blk b y hb)) (.inr ⟨_, hb, hn⟩), X1.trans e, hB⟩
theorem aOW {k : IntKind} {n : Int} {w : Bool} {d : List AV} (x1 x2 : X) (g : Nat) (hw : x1.w = x2.w) (h : BlkR x1 g (.rows w 1 d [[.int k (.l n)]])) : BlkR x2 g (.rows w 1 d [[.int k (.s n)]]) := by
 obtain ⟨h1, c, e, h2, h3⟩ := h;refine ⟨h1, c, e, hw ▸ h2, fun i r hr => ?_⟩
 match i, hr with
 | 0, hr =>
  simp only [List.getElem?_cons_zero, Option.some.injEq] at hr;subst hr;refine ⟨rfl, fun j a ha => ?_⟩
  match j, ha with
  | 0, ha =>
   simp only [List.getElem?_cons_zero, Option.some.injEq] at ha;subst ha;obtain ⟨y, e1, e2⟩ := (h3 0 _ rfl).2 0 _ rfl;refine ⟨y, e1, ?_⟩;have e2 : RoV x1.O x1.w (.int k (.l n)) y := e2;cases e2 with
   | int _ _ v h => exact RoV.int k (.s n) v h
  | j + 1, ha => simp at ha
 | i + 1, hr => simp at hr
end
section
open Go Go.Proofs
attribute [local irreducible] Lb whN piOne
theorem aQE (N : Int) (h1 : -9223372036854775808 ≤ N) (h2 : N < 9223372036854775808) : eE Tryz.prog 219 [.int .i64 (.s N)] [zwB, zwB]
 (fun v h => ∃ p : Bool × List Int, v = .fn 233 [.ptr 4 1 (.l 0) 0, .ptr 3 2 (.l 0) 0, .ptr 2 1 (.l 0) 0] ∧ h = [zwB, zwB, nbB N, pwB p, odB (-1)] ∧ p = whN N) := by
 refine aBP (K' := fun v h => ∃ p : Bool × List Int, v = .fn 233 [.ptr 4 1 (.l 0) 0, .ptr 3 2 (.l 0) 0, .ptr 2 1 (.l 0) 0] ∧ h = [zwB, zwB, nbB N, pwB p, .rows true 1 [.int .i64 (.l 0)] [[.int .i64 (.l (-1))]]] ∧ p = whN N) ?_ ?_
 · refine gK hG hm Tryz.func219 (by kernel_rfl) ?_;intro E hE lp hl';cbv
   (refine E_cx hE (c_wFrom N h1 h2) ?_; intro u hu; cbv)
   exact ⟨u, rfl, rfl, Eq.trans hu (whN_def N).symm⟩
 · rintro v h ⟨p, rfl, rfl, hp⟩;exact ⟨4, odB (-1), _, rfl, rfl, ⟨rfl, rfl⟩, fun x1 x2 g hw hb => aOW x1 x2 g hw hb, p, rfl, rfl, hp⟩
def piSum (n : Nat) : Nat → Int
 | 0 => 0
 | j + 1 => piSum n j + (if j % 2 = 1 then -(piTerm n j : Int) else (piTerm n j : Int))
def piKf (n : Nat) : Nat → Nat → Nat
 | 0, j => j
 | f + 1, j => if piTerm n j = 0 then j else piKf n f (j + 1)
def piK (n : Nat) : Nat := piKf n 98 0
def piLo (n : Nat) : Int := piSum n (piK n) - (piK n : Int) - 1
def piHi (n : Nat) : Int := piSum n (piK n) + (piK n : Int) + 1
theorem aHX {n j : Nat} (hj : j ≤ 97) (h : piTerm n j ≠ 0) : piKf n (98 - j) j = piKf n (98 - (j + 1)) (j + 1) := by
 rw [show 98 - j = (98 - (j + 1)) + 1 by omega];show (if piTerm n j = 0 then j else _) = _;rw [if_neg h]
theorem aBX {n j : Nat} (hj : j ≤ 97) (h : piTerm n j = 0) : piKf n (98 - j) j = j := by
 rw [show 98 - j = (98 - (j + 1)) + 1 by omega];show (if piTerm n j = 0 then j else _) = _;rw [if_pos h]
theorem aBU {n : Nat} (h : 2 ≤ n) : piTerm n 97 = 0 := by
 unfold piTerm;refine Ca ?_;have h1 : 2 ^ 195 ≤ n ^ 195 := Nat.pow_le_pow_left h 195;have h2 : piOne < 2 ^ 195 := by unfold piOne; decide +kernel
 show piOne < n ^ 195 * 195;omega
theorem sE (n j : Nat) : piTerm n j ≤ piOne := Bo _ _
theorem vN (n j : Nat) : (piSum n j).natAbs ≤ j * piOne := by
 induction j with
 | zero => simp [piSum]
 | succ j ih =>
  have := sE n j;rw [Co];unfold piSum;generalize piSum n j = s at *
  generalize j * piOne = q at *
  split <;> omega
theorem yO {n j : Nat} (hj : j ≤ 98) : (whN (piSum n j)).2.length ≤ 7 := by
 refine fR ?_;have h1 := vN n j;have h2 : j * piOne ≤ 98 * piOne := Ai _ hj;have h3 : 98 * piOne < 4294967296 ^ 7 := by unfold piOne; decide +kernel
 omega
theorem uT (n j : Nat) : (whN (piTerm n j : Int)).2.length ≤ 101 := by
 rw [bD]; exact cE (Ae (sE n j) jF)
def sumB : Option (Bool × List Int) → Blk
 | none => zwB
 | some s => pwB s
def piS (N : Int) : Nat × Option (Bool × List Int) × (Bool × List Int) × (Bool × List Int) × Int → St := fun p =>
 ⟨[
   (2, .ptr 0 2 (.l 0) 0), (3, .ptr 1 2 (.l 0) 0), (4, .fn 233 [.ptr 4 1 (.l 0) 0, .ptr 3 2 (.l 0) 0, .ptr 2 1 (.l 0) 0]), (5, .ptr 5 2 (.l 0) 0), (6, .int .i64 (.s (p.1 : Int))), (7, .ptr 7 2 (.l 0) 0)],
   [zwB, zwB, nbB N, pwB p.2.2.2.1, odB p.2.2.2.2, sumB p.2.1, .dead, pwB p.2.2.1]⟩
def piOK (n : Nat) (p : Nat × Option (Bool × List Int) × (Bool × List Int) × (Bool × List Int) × Int) : Prop :=
 p.1 ≤ 97 ∧ piKf n (98 - p.1) p.1 = piK n ∧ (match p.2.1 with | none => p.1 = 0 | some s => s = whN (piSum n p.1)) ∧ p.2.2.1 = whN (piTerm n p.1 : Int) ∧ p.2.2.2.1 = whN ((n ^ (2 * (p.1 + 1) + 1) : Nat) : Int) ∧ p.2.2.2.2 = 2 * ((p.1 + 1 : Nat) : Int) - 1
set_option maxHeartbeats 4000000 in
theorem sX (n : Nat) (hn1 : 2 ≤ n) (hn2 : n ≤ 1000) (N : Int) (hN : N = n) : ∃ t : (Bool × List Int) × (Bool × List Int), t = (whN (piLo n), whN (piHi n)) ∧
 aC Tryz.prog 180 [.int .i64 (.s N)] (.tup [.agg [.bool (.s t.1.1), .sli .u32 t.1.2], .agg [.bool (.s t.2.1), .sli .u32 t.2.2]]) := by
 refine ⟨_, rfl, ?_⟩;generalize hr : (whN (piLo n), whN (piHi n)) = r;have N1 : -9223372036854775808 ≤ N := by omega
 have N2 : N < 9223372036854775808 := by omega
 have hp0 : ∀ p, p = whN N → p = whN ((n ^ (2 * 0 + 1) : Nat) : Int) := by intro p h; rw [h, hN, Cp, Be, Nat.pow_one]
 obtain ⟨m, em⟩ : ∃ m : Nat × Option (Bool × List Int) × (Bool × List Int) × (Bool × List Int) × Int → Nat, ∀ p, m p = 98 - p.1 := ⟨_, fun _ => rfl⟩
 obtain ⟨ok, eok⟩ : ∃ ok : Nat × Option (Bool × List Int) × (Bool × List Int) × (Bool × List Int) × Int → Prop, ∀ p, ok p ↔ piOK n p := ⟨_, fun _ => Bs⟩
 refine callsA_o Tryz.func180 fun E hE lp hl' => ?_
 have f1 : E.cmp .lss N 2 = false := by subst hE; exact Az (by omega)
 have f2 : E.cmp .gtr N 1000 = false := by subst hE; exact Az (by omega)
 cbv;repeat' (first | (apply fD hE; assumption; cbv) | fail)
 refine gV hE (aQE N N1 N2) ?_;rintro v h1 ⟨p0, rfl, rfl, hp⟩;cbv;refine gV hE (aOA n 0 hn1 hn2 (by decide) N hN p0 (hp0 p0 hp) (-1) (by decide)) ?_;rintro v h1 ⟨t0, p1, o1, rfl, rfl, ht0, hp1, ho1⟩;cbv;refine E_loopM hE hG hm hl' (piS N) m ok ⟨(0, none, t0, p1, o1), [0, 1, 2, 3, 4, 5, 6, 6], (eok _).2 ⟨by show 0 ≤ 97; decide, rfl, rfl, ht0, hp1, ho1⟩, bV (by repeat' (first | exact trivial | exact rfl | apply And.intro)) rfl rfl rfl (by repeat' (first | exact trivial | exact rfl | apply And.intro)) (by (repeat' (first | exact bW | refine bE ?_ rfl ?_ | exact aM | exact aI | exact aQ | exact lR | exact (rfl : sle2 _ _))))⟩ ?_;rintro ⟨j, so, t, p, o⟩ hok;have hok := (eok _).1 hok;obtain ⟨hj, hk, hs, ht, hp, ho⟩ := hok;dsimp only at hj hk hs ht hp ho;have tb : Lb t.2 := by rw [ht]; exact whN_lb _
 have t101 : t.2.length ≤ 101 := by rw [ht]; exact uT n j
 have tl : t.2.length < 67108864 := by omega
 have tl2 : t.2.length ≤ 268435456 := by omega
 have tl3 : t.2.length < 134217728 := by omega
 have lt : lv t.2 = piTerm n j := by rw [ht, bD, aJ]
 have wt : wv t.1 t.2 = (piTerm n j : Int) := by rw [ht]; exact vG _
 have fin : ∀ x y : Bool × List Int, piTerm n j = 0 → x = whN (piSum n j + (-(j : Int) - 1)) → y = whN (piSum n j + ((j : Int) + 1)) → x = r.1 ∧ y = r.2 := by
  intro x y z hx hy;have kj : piK n = j := hk.symm.trans (aBX hj z);rw [← hr];show x = whN (piLo n) ∧ y = whN (piHi n);unfold piLo piHi;rw [kj, hx, hy];exact ⟨congrArg _ (by omega), congrArg _ (by omega)⟩
 have step : piTerm n j ≠ 0 → ∀ s1 t' p' : Bool × List Int, ∀ o' : Int, s1 = whN (piSum n (j + 1)) → t' = whN (piTerm n (j + 1) : Int) → p' = whN ((n ^ (2 * (j + 1 + 1) + 1) : Nat) : Int) → o' = 2 * ((j + 1 + 1 : Nat) : Int) - 1 →
  m (j + 1, some s1, t', p', o') < m (j, so, t, p, o) ∧ ok (j + 1, some s1, t', p', o') := by
  intro nz s1 t' p' o' h1 h2 h3 h4;have j96 : j ≤ 96 := by
   by_cases e : j = 97
   · exact absurd (by rw [e]; exact aBU hn1) nz
   · omega
  exact ⟨by rw [em, em]; show 98 - (j + 1) < 98 - j; omega, (eok _).2 ⟨by show j + 1 ≤ 97; omega, (aHX hj nz).symm.trans hk, h1, h2, h3, h4⟩⟩
 have so1 : j % 2 = 1 → piSum n (j + 1) = piSum n j + -(piTerm n j : Int) := by intro h; show piSum n j + _ = _; rw [if_pos h]
 have so0 : j % 2 ≠ 1 → piSum n (j + 1) = piSum n j + (piTerm n j : Int) := by intro h; show piSum n j + _ = _; rw [if_neg h]
 have jr : E.bin .rem .i64 (j : Int) 2 = ((j % 2 : Nat) : Int) := by
  subst hE;show (j : Int).tmod 2 = _;rw [Bx (by omega)]; omega
 have j1 : E.bin .add .i64 (j : Int) 1 = ((j + 1 : Nat) : Int) := by
  subst hE;show IntKind.i64.wrap ((j : Int) + 1) = _;rw [wi64_in (by omega) (by omega)]; omega
 have jm : E.bin .sub .i64 (E.bin .sub .i64 0 (j : Int)) 1 = -(j : Int) - 1 := by
  subst hE;show IntKind.i64.wrap (IntKind.i64.wrap (0 - (j : Int)) - 1) = _;rw [wi64_in (n := 0 - (j : Int)) (by omega) (by omega), wi64_in (by omega) (by omega)]; omega
 have e1 : -9223372036854775808 ≤ E.bin .sub .i64 (E.bin .sub .i64 0 (j : Int)) 1 := by rw [jm]; omega
 have e2 : E.bin .sub .i64 (E.bin .sub .i64 0 (j : Int)) 1 < 9223372036854775808 := by rw [jm]; omega
 have e3 : -9223372036854775808 ≤ E.bin .add .i64 (j : Int) 1 := by rw [j1]; omega
 have e4 : E.bin .add .i64 (j : Int) 1 < 9223372036854775808 := by rw [j1]; omega
 have fl : ∀ (a : Bool × List Int) (z : Int), a = (decide (z < 0), lim z.natAbs) → z.natAbs < 1000 → Lb a.2 ∧ a.2.length < 134217728 ∧ wv a.1 a.2 = z := by
  intro a z h hz;rw [← whN_def] at h;rw [h];exact ⟨whN_lb _, Ah (fR (k := 1) (by rw [Nat.pow_one]; omega)) (by decide), dZ _⟩
 have nz_of : ∀ sg : Int, sg = (if lv t.2 = 0 then 0 else if t.1 then -1 else 1) → (0 < sg ↔ piTerm n j ≠ 0) := by
  intro sg h;have t1 : t.1 = false := by rw [ht, bD]
  rw [h, lt, t1];by_cases z : piTerm n j = 0
  · rw [if_pos z]; constructor
    · intro h; exact absurd h (by decide)
    · intro h; exact absurd z h
  · rw [if_neg z]; exact ⟨fun _ => z, fun _ => by decide⟩
 have jl : j ≤ 98 := by omega
 have j2 : j + 1 ≤ 98 := by omega
 have od_of : E.bin .rem .i64 (j : Int) 2 = 1 → j % 2 = 1 := by rw [jr]; intro k; omega
 have ev_of : ¬ E.bin .rem .i64 (j : Int) 2 = 1 → j % 2 ≠ 1 := by rw [jr]; intro k; omega
 have ja : (E.bin .sub .i64 (E.bin .sub .i64 0 (j : Int)) 1).natAbs < 1000 := by rw [jm]; omega
 have jb : (E.bin .add .i64 (j : Int) 1).natAbs < 1000 := by rw [j1]; omega
 have hp2 := hp;have ho2 := ho;clear hp ho hok em eok hr hk;cases so with
 | none =>
  have j0 : j = 0 := hs;have sb : Lb ([] : List Int) := Lb.nil;have sl : ([] : List Int).length < 134217728 := by decide
  have ws : wv false [] = piSum n j := by rw [j0]; rfl
  clear hs;cbv
  (refine E_cx hE (c_wSign t.1 t.2 tb tl) ?_; intro sg hsg; cbv)
  refine E_br hE ?_ ?_ <;> intro g <;> cbv
  · have nz : piTerm n j ≠ 0 := (nz_of sg hsg).1 (by subst hE; exact cU g);refine E_br hE ?_ ?_ <;> intro q <;> cbv
    · have od : j % 2 = 1 := od_of (by subst hE; exact cA q)
      (refine E_cx hE (aAR t.1 t.2 tb tl2) ?_; intro u hu; cbv)
      have hu : u = (!t.1 && decide (lv t.2 ≠ 0), lim (lv t.2)) := hu;have ub : Lb u.2 := by rw [hu]; exact lim_lb _
      have ul : u.2.length < 134217728 := by rw [hu]; exact Ah (aO tb) tl3
      have wu : wv u.1 u.2 = -(piTerm n j : Int) := by
       have t1 : t.1 = false := by rw [ht, bD]
       rw [hu, cS, dZ, t1, lt]; rfl
      (apply E_callX hE (c_wAdd false [] u.1 u.2 sb ub sl ul); (case hf => rfl); (case hc => (cbv <;> trivial)); (case hle => (repeat' (first | exact fW | apply dV | apply dR | exact aM | exact dU | exact aI | exact cV | exact aN | exact dY | exact cR | exact gG))); all_goals (first | (intro s1 hs1; cbv) | (assumption)))
      have hs1 : s1 = whN (piSum n (j + 1)) := by
       have k : s1 = whN (wv false [] + wv u.1 u.2) := hs1;rw [k, ws, wu, so1 od]
      refine E_nm hE fun kk hkk => ?_; cbv
      have hkk : kk = ((j + 1 : Nat) : Int) := Eq.trans hkk j1;refine gV hE (tQ n (j + 1) hn1 hn2 j2 N hN p hp2 o ho2 s1 u u) ?_;rintro v h1 ⟨t', p', o', rfl, rfl, ht', hp', ho'⟩;cbv;exact ⟨(j + 1, some s1, t', p', o'), [0, 1, 2, 3, 4, 5, 6, 8], (step nz s1 t' p' o' hs1 ht' hp' ho').1, (step nz s1 t' p' o' hs1 ht' hp' ho').2, bV (by repeat' (first | exact trivial | exact rfl | apply And.intro)) rfl rfl rfl (by repeat' (first | exact trivial | exact rfl | apply And.intro)) (by (repeat' (first | exact bW | refine bE ?_ rfl ?_ | exact aM | exact aI | exact aQ | exact lR | exact (rfl : sle2 _ _) | exact ⟨rfl, hkk⟩)))⟩
    · have od : j % 2 ≠ 1 := ev_of (by subst hE; exact eql_f q);have tl := tl3
      (apply E_callX hE (c_wAdd false [] t.1 t.2 sb tb sl tl); (case hf => rfl); (case hc => (cbv <;> trivial)); (case hle => (repeat' (first | exact fW | apply dV | apply dR | exact aM | exact dU | exact aI | exact cV | exact aN | exact dY | exact cR | exact gG))); all_goals (first | (intro s1 hs1; cbv) | (assumption)))
      have hs1 : s1 = whN (piSum n (j + 1)) := by
       have k : s1 = whN (wv false [] + wv t.1 t.2) := hs1;rw [k, ws, wt, so0 od]
      refine E_nm hE fun kk hkk => ?_; cbv
      have hkk : kk = ((j + 1 : Nat) : Int) := Eq.trans hkk j1;refine gV hE (tQ n (j + 1) hn1 hn2 j2 N hN p hp2 o ho2 s1 t t) ?_;rintro v h1 ⟨t', p', o', rfl, rfl, ht', hp', ho'⟩;cbv;exact ⟨(j + 1, some s1, t', p', o'), [0, 1, 2, 3, 4, 5, 6, 8], (step nz s1 t' p' o' hs1 ht' hp' ho').1, (step nz s1 t' p' o' hs1 ht' hp' ho').2, bV (by repeat' (first | exact trivial | exact rfl | apply And.intro)) rfl rfl rfl (by repeat' (first | exact trivial | exact rfl | apply And.intro)) (by (repeat' (first | exact bW | refine bE ?_ rfl ?_ | exact aM | exact aI | exact aQ | exact lR | exact (rfl : sle2 _ _) | exact ⟨rfl, hkk⟩)))⟩
  · have z : piTerm n j = 0 := by
     by_cases z : piTerm n j = 0
     · exact z
     · exact absurd ((nz_of sg hsg).2 z) (by subst hE; exact dB g)
    (refine E_px hE (c_wFrom (E.bin .sub .i64 (E.bin .sub .i64 0 (j : Int)) 1) e1 e2) ?_; intro a ha; cbv)
    obtain ⟨ab, al, wa⟩ := fl a _ ha ja
    (apply E_pcallX hE (c_wAdd false [] a.1 a.2 sb ab sl al); (case hm => rfl); (case hle => (repeat' (first | exact fW | apply dV | apply dR | exact aM | exact dU | exact aI | exact cV | exact aN | exact dY | exact cR | exact gG))); all_goals (first | (intro x hx; cbv) | (assumption)))
    (refine E_px hE (c_wFrom (E.bin .add .i64 (j : Int) 1) e3 e4) ?_; intro b hb; cbv)
    obtain ⟨bb, bl, wb⟩ := fl b _ hb jb
    (apply E_pcallX hE (c_wAdd false [] b.1 b.2 sb bb sl bl); (case hm => rfl); (case hle => (repeat' (first | exact fW | apply dV | apply dR | exact aM | exact dU | exact aI | exact cV | exact aN | exact dY | exact cR | exact gG))); all_goals (first | (intro y hy; cbv) | (assumption)))
    have F := fin x y z (by have k : x = whN (wv false [] + wv a.1 a.2) := hx; rw [k, ws, wa, jm]) (by have k : y = whN (wv false [] + wv b.1 b.2) := hy; rw [k, ws, wb, j1]; rfl);exact ⟨⟨congrArg Prod.fst F.1, congrArg Prod.snd F.1, trivial⟩, ⟨congrArg Prod.fst F.2, congrArg Prod.snd F.2, trivial⟩, trivial⟩
 | some s =>
  have sb : Lb s.2 := by rw [show s = whN (piSum n j) from hs]; exact whN_lb _
  have sl : s.2.length < 134217728 := by rw [show s = whN (piSum n j) from hs]; exact Ah (yO jl) (by decide)
  have ws : wv s.1 s.2 = piSum n j := by rw [show s = whN (piSum n j) from hs]; exact dZ _
  clear hs;cbv
  (refine E_cx hE (c_wSign t.1 t.2 tb tl) ?_; intro sg hsg; cbv)
  refine E_br hE ?_ ?_ <;> intro g <;> cbv
  · have nz : piTerm n j ≠ 0 := (nz_of sg hsg).1 (by subst hE; exact cU g);refine E_br hE ?_ ?_ <;> intro q <;> cbv
    · have od : j % 2 = 1 := od_of (by subst hE; exact cA q)
      (refine E_cx hE (aAR t.1 t.2 tb tl2) ?_; intro u hu; cbv)
      have hu : u = (!t.1 && decide (lv t.2 ≠ 0), lim (lv t.2)) := hu;have ub : Lb u.2 := by rw [hu]; exact lim_lb _
      have ul : u.2.length < 134217728 := by rw [hu]; exact Ah (aO tb) tl3
      have wu : wv u.1 u.2 = -(piTerm n j : Int) := by
       have t1 : t.1 = false := by rw [ht, bD]
       rw [hu, cS, dZ, t1, lt]; rfl
      (refine E_cx hE (c_wAdd s.1 s.2 u.1 u.2 sb ub sl ul) ?_; intro s1 hs1; cbv)
      have hs1 : s1 = whN (piSum n (j + 1)) := by
       have k : s1 = whN (wv s.1 s.2 + wv u.1 u.2) := hs1;rw [k, ws, wu, so1 od]
      refine E_nm hE fun kk hkk => ?_; cbv
      have hkk : kk = ((j + 1 : Nat) : Int) := Eq.trans hkk j1;refine gV hE (tQ n (j + 1) hn1 hn2 j2 N hN p hp2 o ho2 s1 u u) ?_;rintro v h1 ⟨t', p', o', rfl, rfl, ht', hp', ho'⟩;cbv;exact ⟨(j + 1, some s1, t', p', o'), [0, 1, 2, 3, 4, 5, 6, 8], (step nz s1 t' p' o' hs1 ht' hp' ho').1, (step nz s1 t' p' o' hs1 ht' hp' ho').2, bV (by repeat' (first | exact trivial | exact rfl | apply And.intro)) rfl rfl rfl (by repeat' (first | exact trivial | exact rfl | apply And.intro)) (by (repeat' (first | exact bW | refine bE ?_ rfl ?_ | exact aM | exact aI | exact aQ | exact lR | exact (rfl : sle2 _ _) | exact ⟨rfl, hkk⟩)))⟩
    · have od : j % 2 ≠ 1 := ev_of (by subst hE; exact eql_f q);have tl := tl3
      (refine E_cx hE (c_wAdd s.1 s.2 t.1 t.2 sb tb sl tl) ?_; intro s1 hs1; cbv)
      have hs1 : s1 = whN (piSum n (j + 1)) := by
       have k : s1 = whN (wv s.1 s.2 + wv t.1 t.2) := hs1;rw [k, ws, wt, so0 od]
      refine E_nm hE fun kk hkk => ?_; cbv
      have hkk : kk = ((j + 1 : Nat) : Int) := Eq.trans hkk j1;refine gV hE (tQ n (j + 1) hn1 hn2 j2 N hN p hp2 o ho2 s1 t t) ?_;rintro v h1 ⟨t', p', o', rfl, rfl, ht', hp', ho'⟩;cbv;exact ⟨(j + 1, some s1, t', p', o'), [0, 1, 2, 3, 4, 5, 6, 8], (step nz s1 t' p' o' hs1 ht' hp' ho').1, (step nz s1 t' p' o' hs1 ht' hp' ho').2, bV (by repeat' (first | exact trivial | exact rfl | apply And.intro)) rfl rfl rfl (by repeat' (first | exact trivial | exact rfl | apply And.intro)) (by (repeat' (first | exact bW | refine bE ?_ rfl ?_ | exact aM | exact aI | exact aQ | exact lR | exact (rfl : sle2 _ _) | exact ⟨rfl, hkk⟩)))⟩
  · have z : piTerm n j = 0 := by
     by_cases z : piTerm n j = 0
     · exact z
     · exact absurd ((nz_of sg hsg).2 z) (by subst hE; exact dB g)
    (refine E_px hE (c_wFrom (E.bin .sub .i64 (E.bin .sub .i64 0 (j : Int)) 1) e1 e2) ?_; intro a ha; cbv)
    obtain ⟨ab, al, wa⟩ := fl a _ ha ja
    (refine E_px hE (c_wAdd s.1 s.2 a.1 a.2 sb ab sl al) ?_; intro x hx; cbv)
    (refine E_px hE (c_wFrom (E.bin .add .i64 (j : Int) 1) e3 e4) ?_; intro b hb; cbv)
    obtain ⟨bb, bl, wb⟩ := fl b _ hb jb
    (refine E_px hE (c_wAdd s.1 s.2 b.1 b.2 sb bb sl bl) ?_; intro y hy; cbv)
    have F := fin x y z (by have k : x = whN (wv s.1 s.2 + wv a.1 a.2) := hx; rw [k, ws, wa, jm]) (by have k : y = whN (wv s.1 s.2 + wv b.1 b.2) := hy; rw [k, ws, wb, j1]; rfl);exact ⟨⟨congrArg Prod.fst F.1, congrArg Prod.snd F.1, trivial⟩, ⟨congrArg Prod.fst F.2, congrArg Prod.snd F.2, trivial⟩, trivial⟩
end
section
open Go Go.Proofs
attribute [local irreducible] Lb whN
theorem cZ : ∃ t : Bool × List Int, t = whN (piOne : Int) ∧ aC Tryz.prog 74 [] (.agg [.bool (.s t.1), .sli .u32 t.2]) := by
 refine ⟨_, rfl, ?_⟩;generalize hr : whN (piOne : Int) = r;have l1 : Lb [(1 : Int)] := Lb.cons (by decide) (by decide) Lb.nil;have v1 : lv [(1 : Int)] = 1 := rfl;have fin : (false && decide (2 ^ 192 ≠ 0), lim (2 ^ 192)) = r := by rw [← hr, show piOne = 2 ^ 192 from rfl, cS]; rfl
 have len : (lim (2 ^ 192)).length ≤ 268435456 := Ae (lim_length_le (k := 7) (by decide +kernel)) (by decide);clear hr;refine callsA_o Tryz.func74 fun E hE lp hl' => ?_
 have es : E.sub [1] 0 1 = [1] := by subst hE; rfl
 cbv
 (refine E_cx hE (lW _ 192 ?_ ?_) ?_; all_goals (first | (intro u hu; cbv) | (first | (show Lb (E.sub [1] 0 1); rw [es]; exact l1) | (show (E.sub [1] 0 1).length < 33554432; rw [es]; decide))))
 have hu : u = lim (2 ^ 192) := by
  have k : u = (if (192 : Int) < 1 then lim (lv (E.sub [1] 0 1)) else if 16777216 < (192 : Int) then [] else lim (lv (E.sub [1] 0 1) * 2 ^ (192 : Int).toNat)) := hu;rw [k, es, v1, if_neg (by decide), if_neg (by decide), Dv]; rfl
 have ub : Lb u := by rw [hu]; exact lim_lb _
 have ul : u.length ≤ 268435456 := by rw [hu]; exact len
 (refine E_cx hE (c_r2Make false u ub ul) ?_; intro t ht; cbv)
 have k : t = r := by
  have k : t = (false && decide (lv u ≠ 0), lim (lv u)) := ht;rw [k, hu, aJ]; exact fin
 rw [← k]; exact ⟨rfl, rfl, trivial⟩
theorem c_r11Times (na : Bool) (a : List Int) (n : Int) (ha : Lb a) (hla : a.length < 60000000) (h1 : -9223372036854775808 ≤ n) (h2 : n < 9223372036854775808) :
 ∃ t : Bool × List Int, t = whN (wv na a * n) ∧ aC Tryz.prog 73 [.agg [.bool (.s na), .sli .u32 a], .int .i64 (.s n)] (.agg [.bool (.s t.1), .sli .u32 t.2]) := by
 refine ⟨_, rfl, ?_⟩;generalize hr : whN (wv na a * n) = r;have la : a.length < 67108864 := by omega
 have fu : ∀ u : Bool × List Int, u = whN n → Lb u.2 ∧ u.2.length < 67108864 ∧ wv u.1 u.2 = n := by
  intro u hu;rw [hu];exact ⟨whN_lb _, Ah (fR (k := 2) (by rw [show (4294967296 : Nat) ^ 2 = 18446744073709551616 by decide +kernel]; omega)) (by decide), dZ _⟩
 have fin : ∀ (u t : Bool × List Int), u = whN n → t = ((na != u.1) && decide (lv a * lv u.2 ≠ 0), lim (lv a * lv u.2)) → t = r := by
  intro u t hu ht;rw [ht, mulN, ← hr, (fu u hu).2.2]
 clear hr;refine callsA_o Tryz.func73 fun E hE lp hl' => ?_
 cbv
 (refine E_px hE (c_r2From n h1 h2) ?_; intro u hu; cbv)
 obtain ⟨u1, u2, u3⟩ := fu u hu
 (refine E_px hE (aIF na a u.1 u.2 ha u1 la u2) ?_; intro t ht; cbv)
 have k : t = r := fin u t hu ht;rw [← k]; exact ⟨rfl, rfl, trivial⟩
theorem aCO (na : Bool) (a : List Int) (nb : Bool) (b : List Int) (hna : na = false) (hnb : nb = false) (ha : Lb a) (hb : Lb b) (hla : a.length < 67108864) (hlb : b.length < 67108864) (hb0 : lv b ≠ 0) :
 ∃ t : (Bool × List Int) × (Bool × List Int), t = (whN ((lv a / lv b : Nat) : Int), whN ((lv a % lv b : Nat) : Int)) ∧
  aC Tryz.prog 149 [.agg [.bool (.s na), .sli .u32 a], .agg [.bool (.s nb), .sli .u32 b]] (.tup [.agg [.bool (.s t.1.1), .sli .u32 t.1.2], .agg [.bool (.s t.2.1), .sli .u32 t.2.2], .bool (.s true)]) := by
 subst hna hnb;refine ⟨_, rfl, ?_⟩;generalize hr : (whN ((lv a / lv b : Nat) : Int), whN ((lv a % lv b : Nat) : Int)) = r;have qn : ∀ (t : Bool × List Int), t = (false && decide (lv a / lv b ≠ 0), lim (lv a / lv b)) → t = r.1 := by
  intro t h; rw [h, ← hr, cS]; rfl
 have rn : ∀ (t : Bool × List Int), t = (false && decide (lv a % lv b ≠ 0), lim (lv a % lv b)) → t = r.2 := by
  intro t h; rw [h, ← hr, cS]; rfl
 have b1 : b.length ≤ 268435456 := by omega
 have l1 : (lim (lv a / lv b)).length ≤ 268435456 := by have := dC (Bo (lv a) (lv b)); have := aO ha; omega
 have l3 : (lim (lv a % lv b)).length ≤ 268435456 := by have := dC (Nat.mod_le (lv a) (lv b)); have := aO ha; omega
 clear hr;refine callsA_o Tryz.func149 fun E hE lp hl' => ?_
 cbv
 (refine E_cx hE (gM false b hb b1) ?_; intro z hz; cbv)
 have hz : z = 1 := by
  have k : z = (if lv b = 0 then 0 else if false = true then -1 else 1) := hz;rw [k, if_neg hb0]; rfl
 (try (refine E_nm hE fun z1 e1 => ?_; cbv))
 have hz1 : z1 = 1 := Eq.trans e1 hz;refine fD hE (show E.cmp .eql z1 0 = false by subst hE hz1; rfl) ?_; cbv
 (refine E_cx hE (aAI a b ha hb hla hlb) ?_; intro d hd; cbv)
 have hd : d = (lim (lv a / lv b), lim (lv a % lv b), true) := by
  have k : d = (if lv b = 0 then ([], [], false) else (lim (lv a / lv b), lim (lv a % lv b), true)) := hd;rw [k, if_neg hb0]
 have d1 : d.1 = lim (lv a / lv b) := by rw [hd]
 have d2 : d.2.1 = lim (lv a % lv b) := by rw [hd]
 have db : Lb d.1 := by rw [d1]; exact lim_lb _
 have dc : Lb d.2.1 := by rw [d2]; exact lim_lb _
 have dl : d.1.length ≤ 268435456 := by rw [d1]; exact l1
 have dm : d.2.1.length ≤ 268435456 := by rw [d2]; exact l3
 (refine E_cx hE (c_r2Make _ d.1 db dl) ?_; intro x hx; cbv)
 (refine E_cx hE (c_r2Make _ d.2.1 dc dm) ?_; intro y hy; cbv)
 have ex : x = r.1 := qn x (by have k : x = ((E.bnot (E.beq false false)) && decide (lv d.1 ≠ 0), lim (lv d.1)) := hx; rw [k, d1, aJ]; subst hE; rfl);have ey : y = r.2 := rn y (by have k : y = (false && decide (lv d.2.1 ≠ 0), lim (lv d.2.1)) := hy; rw [k, d2, aJ]);have y0 : y = (false, lim (lv a % lv b)) := by have k : y = (false && decide (lv d.2.1 ≠ 0), lim (lv d.2.1)) := hy; rw [k, d2, aJ]; rfl
 have yb : Lb y.2 := by rw [y0]; exact lim_lb _
 have yl : y.2.length ≤ 268435456 := by rw [y0]; exact l3
 (refine E_cx hE (gM y.1 y.2 yb yl) ?_; intro s hs; cbv)
 have hs : s = 0 ∨ s = 1 := by
  have k : s = (if lv y.2 = 0 then 0 else if y.1 = true then -1 else 1) := hs;rw [k, y0]; split
  · exact .inl rfl
  · exact .inr rfl
 refine fD hE (show E.cmp .eql s (E.bin .sub .i64 0 z1) = false by subst hE hz1; rcases hs with h | h <;> (rw [h]; rfl)) ?_; cbv;exact ⟨⟨congrArg Prod.fst ex, congrArg Prod.snd ex, trivial⟩, ⟨congrArg Prod.fst ey, congrArg Prod.snd ey, trivial⟩, trivial⟩
theorem zA (na : Bool) (a : List Int) (nb : Bool) (b : List Int) (hna : na = false) (hnb : nb = false) (ha : Lb a) (hb : Lb b) (hla : a.length < 67108864) (hlb : b.length < 67108864) (hb0 : lv b ≠ 0) :
 ∃ t : Bool × List Int, t = whN ((lv a / lv b : Nat) : Int) ∧ aC Tryz.prog 77 [.agg [.bool (.s na), .sli .u32 a], .agg [.bool (.s nb), .sli .u32 b]] (.agg [.bool (.s t.1), .sli .u32 t.2]) := by
 refine ⟨_, rfl, ?_⟩;generalize hr : whN ((lv a / lv b : Nat) : Int) = r;refine callsA_o Tryz.func77 fun E hE lp hl' => ?_
 cbv
 (refine E_cx hE (aCO na a nb b hna hnb ha hb hla hlb hb0) ?_; intro d hd; cbv)
 have k : d.1 = r := by rw [show d = (whN ((lv a / lv b : Nat) : Int), whN ((lv a % lv b : Nat) : Int)) from hd, hr]
 exact ⟨congrArg Prod.fst k, congrArg Prod.snd k, trivial⟩
end
section
open Go
theorem and_split (a b : Nat) : a &&& b = 2 * (a / 2 &&& b / 2) + a % 2 * (b % 2) := by
 apply Nat.eq_of_testBit_eq;intro i;have e : a % 2 * (b % 2) < 2 := by
  rcases Ci a with h | h <;> rcases Ci b with k | k <;> rw [h, k] <;> decide
 cases i with
 | zero =>
  rw [Nat.testBit_and];simp only [Nat.testBit_zero];have : (2 * (a / 2 &&& b / 2) + a % 2 * (b % 2)) % 2 = a % 2 * (b % 2) := by omega
  rw [this];rcases Ci a with h | h <;> rcases Ci b with k | k <;> rw [h, k] <;> decide
 | succ i =>
  rw [Nat.testBit_and, Nat.testBit_succ, Nat.testBit_succ, Nat.testBit_succ];have : (2 * (a / 2 &&& b / 2) + a % 2 * (b % 2)) / 2 = a / 2 &&& b / 2 := by omega
  rw [this, Nat.testBit_and]
theorem aJA (n : Nat) : ∀ y, y < 2 ^ n → y &&& (2 ^ n - 1 - y) = 0 := by
 induction n with
 | zero => intro y h; have : y = 0 := by simpa using h
           subst this; rfl
 | succ n ih =>
  intro y h;rw [Aq] at h ⊢;rw [and_split];have p := Bf n;have e : (2 ^ n * 2 - 1 - y) / 2 = 2 ^ n - 1 - y / 2 := by omega
  have f : y % 2 * ((2 ^ n * 2 - 1 - y) % 2) = 0 := by
   rcases Ci y with k | k
   · rw [k, Cx]
   · rw [k, Dv]; omega
  rw [e, f, ih (y / 2) (by omega)]
theorem aOT (n : Nat) : ∀ x, 0 < x → x < 2 ^ n → x &&& (2 ^ n - x) = 2 ^ v2 x := by
 induction n with
 | zero => intro x h0 h; have : x = 0 := by simpa using h
           omega
 | succ n ih =>
  intro x h0 h;rw [Aq] at h ⊢;have p := Bf n;rw [and_split];rcases Ci x with k | k
  · have e : (2 ^ n * 2 - x) / 2 = 2 ^ n - x / 2 := by omega
    rw [e, k, Cx, ih (x / 2) (by omega) (by omega), v2_even h0 k, Aq];omega
  · have e : (2 ^ n * 2 - x) / 2 = 2 ^ n - 1 - x / 2 := by omega
    have f : (2 ^ n * 2 - x) % 2 = 1 := by omega
    rw [e, k, f, aJA n (x / 2) (by omega), v2_odd (by omega)]
def tzT : List Int := [0, 1, 28, 2, 29, 14, 24, 3, 30, 22, 20, 15, 25, 17, 4, 8, 31, 27, 13, 23, 21, 19, 16, 7, 26, 12, 18, 6, 11, 5, 10, 9]
theorem aMK : ∀ k : Nat, k < 32 → tzT.getD (2 ^ k * 125613361 % 4294967296 / 134217728) 0 = k := by decide +kernel
theorem v2_low {x r : Nat} (h : 0 < x) (hx : x < 4294967296) : v2 (x + 4294967296 * r) = v2 x := by
 suffices H : ∀ (j x r : Nat), 0 < x → x < 2 ^ j → v2 (x + 2 ^ j * r) = v2 x by
  exact H 32 x r h hx
 intro j;induction j with
 | zero => intro x r h hx; rw [Ct] at hx; omega
 | succ j ih =>
  intro x r h hx;rw [Aq] at hx ⊢;have e : (x + 2 ^ j * 2 * r) % 2 = x % 2 := by rw [Nat.mul_right_comm, Nat.add_mul_mod_self_right]
  rcases Ci x with k | k
  · have e2 : (x + 2 ^ j * 2 * r) / 2 = x / 2 + 2 ^ j * r := by rw [Nat.mul_right_comm, Nat.add_mul_div_right _ _ (by decide)]
    rw [v2_even (by omega) (by rw [e]; exact k), e2, ih (x / 2) r (by omega) (by omega), v2_even h k]
  · rw [v2_odd (by rw [e]; omega), v2_odd (by omega)]
theorem aNE {r : Nat} (h : 0 < r) (j : Nat) : v2 (2 ^ j * r) = j + v2 r := by
 induction j with
 | zero => simp
 | succ j ih =>
  have p := Bf j;have q : 0 < 2 ^ j * r := Dw p h;have e : 2 ^ (j + 1) * r = 2 * (2 ^ j * r) := by rw [Aq, Ax (2 ^ j) 2, Aw]
  rw [e, v2_even (by omega) (by omega), show 2 * (2 ^ j * r) / 2 = 2 ^ j * r by omega, ih]; omega
end
section
open Go Go.Proofs
attribute [local irreducible] Lb
theorem aSU {x : Int} (h0 : 0 < x) (h1 : x < 4294967296) : aA .and .u32 x (aA .sub .u32 0 x) = ((2 ^ v2 x.toNat : Nat) : Int) := by
 obtain ⟨n, rfl⟩ := Al (Am h0);have e : aA .sub .u32 0 (n : Int) = ((4294967296 - n : Nat) : Int) := by
  show IntKind.u32.wrap (0 - (n : Int)) = _;rw [wu32]; omega
 have lb := aOT 32 n (by omega) (by omega);have l2 : v2 n < 32 := sY (by omega) (by omega);have p2 : 2 ^ v2 n ≤ 2 ^ 31 := Ag (by decide) (by omega);show IntKind.u32.wrap ((BitVec.ofInt IntKind.u32.bits (n : Int) &&& BitVec.ofInt IntKind.u32.bits (aA .sub .u32 0 (n : Int))).toNat : Int) = _;rw [e];have b1 : (BitVec.ofInt IntKind.u32.bits (n : Int)).toNat = n := by
  show (BitVec.ofInt 32 (n : Int)).toNat = n;rw [BitVec.ofInt_natCast, BitVec.toNat_ofNat]; omega
 have b2 : (BitVec.ofInt IntKind.u32.bits ((4294967296 - n : Nat) : Int)).toNat = 4294967296 - n := by
  show (BitVec.ofInt 32 ((4294967296 - n : Nat) : Int)).toNat = _;rw [BitVec.ofInt_natCast, BitVec.toNat_ofNat]; omega
 rw [Ec, b1, b2, show (4294967296 : Nat) = 2 ^ 32 by rfl, lb, wu32, Ak];omega
theorem aMA {x : Int} (h0 : 0 < x) (h1 : x < 4294967296) (y : Int) (hy : y = aA .shr .u32 (aA .mul .u32 (aA .and .u32 x (aA .sub .u32 0 x)) 125613361) 27) :
 0 ≤ y ∧ y < 32 ∧ tzT.getD y.toNat 0 = v2 x.toNat ∧ v2 x.toNat < 32 := by
 have l2 : v2 x.toNat < 32 := sY (by omega) (by omega);rw [aSU h0 h1] at hy;have e : aA .mul .u32 ((2 ^ v2 x.toNat : Nat) : Int) 125613361 = ((2 ^ v2 x.toNat * 125613361 % 4294967296 : Nat) : Int) := by
  show IntKind.u32.wrap (((2 ^ v2 x.toNat : Nat) : Int) * 125613361) = _;rw [wu32]; omega
 have e2 : y = ((2 ^ v2 x.toNat * 125613361 % 4294967296 / 134217728 : Nat) : Int) := by
  rw [hy, e];show Int.fdiv _ (2 ^ (min (27 : Int).toNat 32)) = _;rw [show (2 : Int) ^ (min (27 : Int).toNat 32) = 134217728 by decide, Dn _ (by decide)];omega
 rw [e2];have t := aMK (v2 x.toNat) l2;refine ⟨by omega, by omega, ?_, l2⟩;rw [Ak]; exact t
theorem aSM (x : Int) (h0 : 0 < x) (h1 : x < 4294967296) : ∃ t : Int, t = v2 x.toNat ∧ aC Tryz.prog 231 [.int .u32 (.s x)] (.int .i64 (.s t)) := by
 refine ⟨_, rfl, ?_⟩;generalize hr : (v2 x.toNat : Int) = r;have idx := aMA h0 h1;have fin : ∀ y, tzT.getD y 0 = v2 x.toNat → IntKind.i64.wrap (tzT.getD y 0) = r := by
  intro y hy;have := (idx _ rfl).2.2.2;rw [hy, wi64_id (by omega) (by omega), hr]
 refine callsA_o Tryz.func231 fun E hE lp hl => ?_
 cbv;refine E_br hE ?_ ?_ <;> intro g <;> cbv
 · exfalso;subst hE;have := cA g;omega
 have ix := idx (E.bin .shr .u32 (E.bin .mul .u32 (E.bin .and .u32 x (E.bin .sub .u32 0 x)) 125613361) 27) (by subst hE; rfl);refine E_br hE ?_ ?_ <;> intro b1 <;> cbv
 · refine E_br hE ?_ ?_ <;> intro b2 <;> cbv
   · refine E_nm hE fun v hv => ?_; cbv
     rw [hv];have f := fin _ ix.2.2.1;subst hE;exact f
   · exfalso;subst hE;exact aW b2 ix.2.1
 · exfalso;subst hE;exact bQ b1 ix.1
theorem wL {m : List Int} (h : Lb m) {j : Nat} (hj : j < m.length) : (m.getD j 0 = 0 → lv (m.drop j) = 4294967296 * lv (m.drop (j + 1))) ∧
 (m.getD j 0 ≠ 0 → v2 (lv (m.drop j)) = v2 (m.getD j 0).toNat ∧ 0 < m.getD j 0) := by
 have e : m.drop j = m.getD j 0 :: m.drop (j + 1) := by
  rw [List.drop_eq_getElem_cons hj, List.getD, List.getElem?_eq_getElem hj]; rfl
 have g := h.getD j;rw [e];constructor
 · intro z; simp only [lv]; rw [z]; simp
 · intro z;simp only [lv];exact ⟨v2_low (by omega) (by omega), by omega⟩
theorem aFP (m : List Int) (hm_ : Lb m) (hl_ : m.length < 67108864) (h0 : 0 < lv m) : ∃ t : Int, t = v2 (lv m) ∧ aC Tryz.prog 213 [.sli .u32 m] (.int .i64 (.s t)) := by
 refine ⟨_, rfl, ?_⟩;generalize hr : (v2 (lv m) : Int) = r;obtain ⟨ms, em⟩ : ∃ ms : Int × Int → Nat, ∀ p, ms p = ((m.length : Int) - p.1).toNat := ⟨_, fun _ => rfl⟩
 obtain ⟨ok, eok⟩ : ∃ ok : Int × Int → Prop, ∀ p, ok p ↔ (0 ≤ p.1 ∧ p.1 ≤ m.length ∧ p.2 = 32 * p.1 ∧ 0 < lv (m.drop p.1.toNat) ∧ r = 32 * p.1 + v2 (lv (m.drop p.1.toNat))) := ⟨_, fun _ => Bs⟩
 have start : ok (0, 0) := (eok _).2 ⟨Bc _, Cv _, rfl, h0, by rw [← hr]; show _ = (32 : Int) * 0 + _; simp⟩;have bnd : ∀ i n, ok (i, n) → 0 ≤ i ∧ i < m.length := by
  intro i n h;obtain ⟨k1, k2, k3, k4, k5⟩ := (eok _).1 h;dsimp only at k1 k2 k3 k4 k5;refine ⟨k1, ?_⟩;by_cases z : i.toNat < m.length
  · omega
  · rw [List.drop_eq_nil_of_le (by omega)] at k4; exact absurd k4 (Nat.lt_irrefl 0)
 have next : ∀ i n, ok (i, n) → m.getD i.toNat 0 = 0 → ms (IntKind.i64.wrap (i + 1), IntKind.i64.wrap (n + 32)) < ms (i, n) ∧ ok (IntKind.i64.wrap (i + 1), IntKind.i64.wrap (n + 32)) := by
  intro i n h z;have b := bnd i n h;obtain ⟨k1, k2, k3, k4, k5⟩ := (eok _).1 h;dsimp only at k1 k2 k3 k4 k5;have st := (wL hm_ (j := i.toNat) (by omega)).1 z;rw [wi64_id (by omega) (by omega), wi64_id (by omega) (by omega)];have e : (i + 1).toNat = i.toNat + 1 := by omega
  refine ⟨by rw [em, em]; dsimp only; omega, (eok _).2 ⟨by dsimp only; omega, by dsimp only; omega, by dsimp only; omega, ?_, ?_⟩⟩
  · dsimp only; rw [e]; rw [st] at k4; omega
  · dsimp only;rw [e];rw [st] at k4 k5;have := aNE (r := lv (m.drop (i.toNat + 1))) (by omega) 32;rw [show (2 : Nat) ^ 32 = 4294967296 by rfl] at this;omega
 have stop : ∀ i n, ok (i, n) → m.getD i.toNat 0 ≠ 0 → 0 < m.getD i.toNat 0 ∧ m.getD i.toNat 0 < 4294967296 ∧ ∀ t : Int, t = v2 (m.getD i.toNat 0).toNat → IntKind.i64.wrap (n + t) = r := by
  intro i n h z;have b := bnd i n h;obtain ⟨k1, k2, k3, k4, k5⟩ := (eok _).1 h;dsimp only at k1 k2 k3 k4 k5;have st := (wL hm_ (j := i.toNat) (by omega)).2 z;have g := hm_.getD i.toNat;have l2 : v2 (m.getD i.toNat 0).toNat < 32 := sY (by omega) (by omega);refine ⟨st.2, g.2, fun t ht => ?_⟩;rw [st.1] at k5;rw [wi64_id (by omega) (by omega)]; omega
 clear hr h0;refine callsA_o Tryz.func213 fun E hE lp hl => ?_
 cbv;refine E_loop hE hG hm hl (fun p : Int × Int => (⟨[(3, .int .i64 (.s p.2)), (6, .sli .u32 m), (7, .int .i64 (.s (E.len m))), (8, .int .i64 (.s p.1))], []⟩ : St)) ms ok ⟨(0, 0), start, stLe rfl ?_⟩ ?_
 · (repeat' (first | exact bC | apply aV | exact aN | exact aM | exact aI | exact bI | exact aQ | exact (rfl : sle2 .s0 .s0)))
 rintro ⟨i, n⟩ hok;have bd := bnd i n hok;have nx := next i n hok
 have sp := stop i n hok;clear bnd next stop start hok
 cbv;refine E_br hE ?_ ?_ <;> intro g <;> cbv
 · refine E_br hE ?_ ?_ <;> intro b1 <;> cbv
   · refine E_br hE ?_ ?_ <;> intro b2 <;> cbv
     · refine E_nm hE fun v hv => ?_; cbv
       have hv : v = m.getD i.toNat 0 := by subst hE; exact hv
       rw [← hv] at nx sp;refine E_br hE ?_ ?_ <;> intro b3 <;> cbv
       · have z : v ≠ 0 := by subst hE; have q : decide (v ≠ 0) = true := (aH _ _).symm.trans b3; simpa using q
         have sp := sp z
         (refine E_cx hE (aSM v sp.1 sp.2.1) ?_; intro t ht; cbv)
         refine E_nm hE fun u hu => ?_; cbv
         rw [hu];have f := sp.2.2 t ht;subst hE;exact f
       · have z : v = 0 := by subst hE; have q : decide (v ≠ 0) = false := (aH _ _).symm.trans b3; simpa using q
         have nx := nx z;refine E_nm hE fun u hu => ?_; cbv
         have eu : u = IntKind.i64.wrap (n + 32) := by subst hE; exact hu
         refine ⟨(E.bin .add .i64 i 1, u), ?_, ?_, stLe rfl ?_⟩
         · rw [eu]; subst hE; exact nx.1
         · rw [eu]; subst hE; exact nx.2
         · (repeat' (first | exact bC | apply aV | exact aN | exact aM | exact aI | exact bI | exact aQ | exact (rfl : sle2 .s0 .s0)))
     · exfalso;subst hE;exact aW b2 bd.2
   · exfalso;subst hE;exact bQ b1 bd.1
 · exfalso;subst hE;exact aW g bd.2
end
section
open Go Go.Proofs
theorem Iv.fin {t r : Iv} (h : t = r) : t.empty = r.empty ∧ t.lo.kind = r.lo.kind ∧ t.lo.neg = r.lo.neg ∧ t.lo.m = r.lo.m ∧ t.lo.e = r.lo.e ∧ t.hi.kind = r.hi.kind ∧ t.hi.neg = r.hi.neg ∧ t.hi.m = r.hi.m ∧ t.hi.e = r.hi.e ∧ True := by
 subst h; exact ⟨rfl, rfl, rfl, rfl, rfl, rfl, rfl, rfl, rfl, trivial⟩
theorem aEY (a : Int) (b : Int) (h0 : -9223372036854775808 ≤ a) (h1 : a < 9223372036854775808) (h2 : -9223372036854775808 ≤ b) (h3 : b < 9223372036854775808) : ∃ t : Iv, t = Iv.iO a b ∧ aC Tryz.prog 27 [.int .i64 (.s a), .int .i64 (.s b)] (t.av) := by
 refine ⟨_, rfl, ?_⟩;generalize hr : Iv.iO a b = r;refine callsA_o Tryz.func27 fun E hE lp hl => ?_
 cbv;repeat' (first
   | (refine E_br hE ?_ ?_ <;> intro h <;> cbv)
   | (refine E_nm hE fun v hv => ?_; cbv)
   | (refine E_cx hE (c_Of _ ?_ ?_) ?_; all_goals (first | (intro t ht; cbv) | (subst hE; (try simp only [aB, aE, aH, aG, aF, aK, aL, aA, Ab, Aa, SI.val, SB.val, Num.eta, Iv.eta] at *); first | assumption | omega)))
   | (refine E_cx hE (c_ivMake ⟨_, _, _, _⟩ ⟨_, _, _, _⟩) ?_; intro t ht; cbv)
   | fail)
 all_goals (subst hE; subst hr)
 all_goals (try simp only [aB, aE, aH, aG, aF, aK, aL, aA, Ab, Aa, SI.val, SB.val, Num.eta, Iv.eta] at *)
 all_goals (try refine Iv.fin (t := ⟨_, ⟨_, _, _, _⟩, ⟨_, _, _, _⟩⟩) ?_)
 all_goals (subst_vars; rfl)
end
section
open Go Go.Proofs
attribute [local irreducible] Lb
theorem vR (e : Int) : ∃ t : Bool, t = (decide (-4194304 ≤ e) && decide (e ≤ 4194304)) ∧ aC Tryz.prog 212 [.int .i64 (.s e)] (.bool (.s t)) := by
 refine ⟨_, rfl, ?_⟩;generalize hr : (decide (-4194304 ≤ e) && decide (e ≤ 4194304)) = r;have z1 : -4194304 ≤ e → decide (e ≤ 4194304) = r := by intro h; rw [← hr, Au h]; rfl
 have z2 : ¬ -4194304 ≤ e → false = r := by intro h; rw [← hr, Az h]; rfl
 clear hr;refine callsA_o Tryz.func212 fun E hE lp hl => ?_
 cbv;refine E_br hE ?_ ?_ <;> intro g <;> cbv
 · subst hE;exact (aF _ _).trans (z1 (lQ g))
 · subst hE;exact z2 (kH g)
set_option maxHeartbeats 1000000 in
theorem aDG (neg : Bool) (m : List Int) (e : Int) (hm_ : Lb m) (hl_ : m.length < 67108864) (he0 : -9223372036854775808 ≤ e) (he1 : e < 9223372036854775808) :
 ∃ t : Bool × List Int × Int, t = dyL (dyMake neg (lv m) e) ∧ aC Tryz.prog 171 [.agg [.bool (.s neg), .sli .u32 m], .int .i64 (.s e)] (.agg [.bool (.s t.1), .sli .u32 t.2.1, .int .i64 (.s t.2.2)]) := by
 refine ⟨_, rfl, ?_⟩;generalize hr : dyL (dyMake neg (lv m) e) = r;have vb : 0 < lv m → v2 (lv m) < 32 * 67108864 := by
  intro h;have l := bP hm_;rw [show (4294967296 : Nat) = 2 ^ 32 by rfl, ← Cj] at l;have := sY h l;omega
 have bad0 : (lv m = 0 ∨ ¬ (-4194304 ≤ e ∧ e ≤ 4194304)) → (false, [], 0) = r := by
  intro h; rw [← hr]; unfold dyMake; rw [if_pos (by omega)]; rfl
 have bad1 : lv m ≠ 0 → (-4194304 ≤ e ∧ e ≤ 4194304) → 4194304 < e + v2 (lv m) → (false, [], 0) = r := by
  intro h g k; rw [← hr]; unfold dyMake; rw [if_neg (by omega), if_pos k]; rfl
 have good : lv m ≠ 0 → (-4194304 ≤ e ∧ e ≤ 4194304) → ¬ 4194304 < e + v2 (lv m) → (neg, lim (lv m / 2 ^ v2 (lv m)), e + v2 (lv m)) = r ∧ lv m / 2 ^ v2 (lv m) ≠ 0 := by
  intro h g k;refine ⟨by rw [← hr]; unfold dyMake; rw [if_neg (by omega), if_neg k]; rfl, ?_⟩;have := (v2_spec (lv m) (by omega)).2.1;intro z; rw [z] at this; cases this
 have ls : ∀ x, x = lim (lv m / 2 ^ ((v2 (lv m) : Int)).toNat) → Lb x ∧ x.length ≤ 268435456 := by
  intro x hx;rw [hx];refine ⟨lim_lb _, ?_⟩;have l := bP hm_;have d : lv m / 2 ^ ((v2 (lv m) : Int)).toNat ≤ lv m := Bo _ _;have := lim_length_le (n := lv m / 2 ^ ((v2 (lv m) : Int)).toNat) (k := m.length) (by omega);omega
 clear hr;obtain ⟨V, hV⟩ : ∃ V : Int, V = v2 (lv m) := ⟨_, rfl⟩
 have hVn : V.toNat = v2 (lv m) := by omega
 have vb : 0 < lv m → 0 ≤ V ∧ V < 32 * 67108864 := fun h => by have := vb h; omega
 rw [← hV] at bad1 good ls;refine callsA_o Tryz.func171 fun E hE lp hl => ?_
 cbv
 (refine E_cx hE (c_wSign neg m hm_ hl_) ?_; intro s hs; cbv)
 refine E_br hE ?_ ?_ <;> intro g <;> cbv
 · have z : lv m = 0 := by
    have g : s = 0 := by subst hE; exact cA g
    rw [hs] at g;by_cases h : lv m = 0
    · exact h
    · rw [if_neg h] at g; split at g <;> cases g
   rw [← bad0 (.inl z)]; exact ⟨rfl, rfl, rfl, trivial⟩
 have n0 : lv m ≠ 0 := by
  have g : ¬ s = 0 := by subst hE; exact eql_f g
  intro z; apply g; rw [hs, if_pos z]
 (refine E_cx hE (vR e) ?_; intro w hw; cbv)
 refine E_br hE ?_ ?_ <;> intro g2 <;> cbv
 · have z : ¬ (-4194304 ≤ e ∧ e ≤ 4194304) := by
    have g2 : w = false := by subst hE; cases w; rfl; exact absurd g2 (by decide)
    rw [hw] at g2;simp only [Bool.and_eq_false_iff, Aa] at g2;omega
   rw [← bad0 (.inr z)]; exact ⟨rfl, rfl, rfl, trivial⟩
 have r0 : -4194304 ≤ e ∧ e ≤ 4194304 := by
  have g2 : w = true := by subst hE; cases w; exact absurd g2 (by decide); rfl
  rw [hw] at g2;simp only [Aj, Ab] at g2;exact g2
 have vb := vb (by omega)
 (refine E_cx hE (aFP m hm_ hl_ ?_) ?_; all_goals (first | (intro b hb; cbv) | (omega)))
 (try (refine E_nm hE fun v hv => ?_; cbv))
 have ev : v = V := hv.trans (hb.trans hV.symm);have ea : E.bin .add .i64 e v = e + V := by
  rw [ev]; subst hE;show IntKind.i64.wrap (e + V) = _;exact wi64_in (by omega) (by omega)
 (refine E_cx hE (vR _) ?_; intro w2 hw2; cbv)
 have hw2 : w2 = (decide (-4194304 ≤ e + V) && decide (e + V ≤ 4194304)) := by rw [← ea]; exact hw2
 refine E_br hE ?_ ?_ <;> intro g3 <;> cbv
 · have z : 4194304 < e + V := by
    have g3 : w2 = false := by subst hE; cases w2; rfl; exact absurd g3 (by decide)
    rw [hw2] at g3;simp only [Bool.and_eq_false_iff, Aa] at g3;omega
   rw [← bad1 n0 r0 z]; exact ⟨rfl, rfl, rfl, trivial⟩
 have z : ¬ 4194304 < e + V := by
  have g3 : w2 = true := by subst hE; cases w2; exact absurd g3 (by decide); rfl
  rw [hw2] at g3;simp only [Aj, Ab] at g3;omega
 obtain ⟨gd, gn⟩ := good n0 r0 z
 (refine E_px hE (c_natShr m v hm_ hl_) ?_; intro x hx; cbv)
 have hx : x = lim (lv m / 2 ^ v.toNat) := hx;rw [ev] at hx;have xb := ls x hx
 (refine E_px hE (c_wMake neg x xb.1 xb.2) ?_; intro y hy; cbv)
 rw [hVn] at hx;have hy : y = (neg, lim (lv m / 2 ^ v2 (lv m))) := by
  have k : y = (neg && decide (lv x ≠ 0), lim (lv x)) := hy;rw [k, hx, aJ, Au gn, Dm]
 rw [← gd];exact ⟨by rw [hy], by rw [hy], ea, trivial⟩
theorem lim2 {m : Int} (h0 : 0 ≤ m) (h1 : m < 18446744073709551616) : Lb [m % 4294967296, m / 4294967296] ∧ lv [m % 4294967296, m / 4294967296] = m.toNat := ⟨yE h0 h1, yW h0⟩
set_option maxHeartbeats 1000000 in
theorem aNY (n : Num) (ho : n.ok) : ∃ t : (Bool × List Int × Int) × Bool, t = (dyL n.exact.1, n.exact.2) ∧ aC Tryz.prog 110 [n.av] (.tup [.agg [.bool (.s t.1.1), .sli .u32 t.1.2.1, .int .i64 (.s t.1.2.2)], .bool (.s t.2)]) := by
 refine ⟨_, rfl, ?_⟩;generalize hr : (dyL n.exact.1, n.exact.2) = r;have bad : (n.may = false ∨ n.kind = 2) → ((false, [], 0), false) = r := by intro h; rw [← hr]; unfold Num.exact; rw [if_pos h]; rfl
 have fin : ¬ (n.may = false ∨ n.kind = 2) → -1048576 ≤ n.e ∧ n.e ≤ 1048576 ∧ ∀ x : Bool × List Int, x = (n.neg && decide (n.m.toNat ≠ 0), lim n.m.toNat) → ∀ t, t = dyL (dyMake x.1 (lv x.2) n.e) → (t, true) = r := by
  intro h;have mm : n.may = true := by cases q : n.may; exact absurd (.inl q) h; rfl
  rcases Num.may3 mm ho with k | k | k
  · rw [k];refine ⟨by decide, by decide, fun x hx t ht => ?_⟩;rw [ht, hx, ← hr, k]; rfl
  · refine ⟨k.elo, k.ehi, fun x hx t ht => ?_⟩;have lo := k.lo;rw [ht, hx, ← hr];unfold Num.exact;rw [if_neg h, if_neg (by rw [k.kind]; decide), Au (by omega), Dm, aJ]
  · exfalso; apply h; right; rw [k]; rfl
 have L := lim2 ho.1 ho.2;have shr : aA .shr .u64 n.m 32 = n.m / 4294967296 := by
  show Int.fdiv n.m (2 ^ (min (32 : Int).toNat 64)) = _;rw [show (2 : Int) ^ (min (32 : Int).toNat 64) = 4294967296 by decide, Dn _ (by decide)]
 have c1 : IntKind.u32.wrap n.m = n.m % 4294967296 := wu32 _;have c2 : IntKind.u32.wrap (n.m / 4294967296) = n.m / 4294967296 := by rw [wu32]; have := ho.1; have := ho.2; omega
 clear hr;refine callsA_o Tryz.func110 fun E hE lp hl => ?_
 cbv
 (refine E_cx hE (xP ⟨_, _, _, _⟩) ?_; intro o ho_; cbv)
 have ho_ : o = n.may := ho_;refine E_br hE ?_ ?_ <;> intro g1 <;> cbv
 · rw [← bad (.inl (by rw [← ho_]; subst hE; cases o; rfl; exact absurd g1 (by decide)))]; exact ⟨⟨rfl, rfl, rfl, trivial⟩, rfl, trivial⟩
 have m1 : n.may = true := by rw [← ho_]; subst hE; cases o; exact absurd g1 (by decide); rfl
 refine E_br hE ?_ ?_ <;> intro g2 <;> cbv
 · rw [← bad (.inr (by subst hE; exact cA g2))]; exact ⟨⟨rfl, rfl, rfl, trivial⟩, rfl, trivial⟩
 have m2 : ¬ (n.may = false ∨ n.kind = 2) := by
  rintro (z | z)
  · rw [m1] at z; cases z
  · subst hE; exact eql_f g2 z
 obtain ⟨e0, e1, fin⟩ := fin m2;have el : [E.conv .u32 n.m, E.conv .u32 (E.bin .shr .u64 n.m 32)] = [n.m % 4294967296, n.m / 4294967296] := by
  subst hE;show [IntKind.u32.wrap n.m, IntKind.u32.wrap (aA .shr .u64 n.m 32)] = _;rw [shr, c1, c2]
 (refine E_px hE (c_wMake n.neg [E.conv .u32 n.m, E.conv .u32 (E.bin .shr .u64 n.m 32)] ?_ ?_) ?_; all_goals (first | (intro x hx; cbv) | (first | (rw [el]; exact L.1) | (rw [el]; show 2 ≤ 268435456; decide))))
 have hx : x = (n.neg && decide (n.m.toNat ≠ 0), lim n.m.toNat) := by
  have k : x = (n.neg && decide (lv [E.conv .u32 n.m, E.conv .u32 (E.bin .shr .u64 n.m 32)] ≠ 0), lim (lv [E.conv .u32 n.m, E.conv .u32 (E.bin .shr .u64 n.m 32)])) := hx;rw [el, L.2] at k; exact k
 have xb : Lb x.2 ∧ x.2.length < 67108864 := by
  rw [hx];refine ⟨lim_lb _, ?_⟩;have := aO L.1;rw [L.2] at this;exact Ah this (show 2 < 67108864 by decide)
 (refine E_px hE (aDG x.1 x.2 n.e xb.1 xb.2 ?_ ?_) ?_; all_goals (first | (intro t ht; cbv) | (first | exact De (by decide) e0 | exact Dk e1 (by decide))))
 rw [← fin x hx t ht];exact ⟨⟨rfl, rfl, rfl, trivial⟩, rfl, trivial⟩
def wMayB (neg : Bool) (m : List Int) : Bool := if m.length = 0 then !neg else decide (m.getD (m.length - 1) 0 ≠ 0)
theorem aRK (neg : Bool) (m : List Int) (hl_ : m.length < 4611686018427387904) : ∃ t : Bool, t = wMayB neg m ∧ aC Tryz.prog 236 [.agg [.bool (.s neg), .sli .u32 m]] (.bool (.s t)) := by
 refine ⟨_, rfl, ?_⟩;generalize hr : wMayB neg m = r;have z0 : (m.length : Int) = 0 → (!neg) = r := by intro h; rw [← hr]; unfold wMayB; rw [if_pos (by omega)]
 have z1 : ¬ (m.length : Int) = 0 → IntKind.i64.wrap ((m.length : Int) - 1) = (m.length : Int) - 1 ∧ 0 ≤ (m.length : Int) - 1 ∧ (m.length : Int) - 1 < m.length ∧ ∀ x : Bool, x = decide (m.getD ((m.length : Int) - 1).toNat 0 ≠ 0) → x = r := by
  intro h;refine ⟨wi64_in (by omega) (by omega), by omega, by omega, fun x hx => ?_⟩;rw [hx, ← hr]; unfold wMayB; rw [if_neg (by omega), show ((m.length : Int) - 1).toNat = m.length - 1 by omega]
 clear hr;refine callsA_o Tryz.func236 fun E hE lp hl => ?_
 cbv;refine E_br hE ?_ ?_ <;> intro g <;> cbv
 · subst hE; exact z0 (cA g)
 · have z1 := z1 (by subst hE; exact eql_f g);have es : E.bin .sub .i64 (E.len m) 1 = (m.length : Int) - 1 := by subst hE; exact z1.1
   refine E_br hE ?_ ?_ <;> intro b1 <;> cbv
   · refine E_br hE ?_ ?_ <;> intro b2 <;> cbv
     · refine z1.2.2.2 _ ?_;show E.cmp .neq (E.get m (E.bin .sub .i64 (E.len m) 1)) 0 = _;rw [es];subst hE;exact aH _ _
     · rw [es] at b2;subst hE;exact aW b2 z1.2.2.1
   · rw [es] at b1;subst hE;exact bQ b1 z1.2.1
def DyC (p : Bool × Nat × Int) : Prop := p = (false, 0, 0) ∨ (p.2.1 % 2 = 1 ∧ -4194304 ≤ p.2.2 ∧ p.2.2 ≤ 4194304)
theorem vD (neg : Bool) (k : Nat) (e : Int) : DyC (dyMake neg k e) := by
 unfold dyMake;split
 · exact .inl rfl
 · rename_i h;split
   · exact .inl rfl
   · refine .inr ⟨(v2_spec k (by omega)).2.1, by dsimp only; omega, by dsimp only; omega⟩
theorem aHV {x : Int} (h0 : 0 ≤ x) (h1 : x < 4294967296) : aA .and .u32 x 1 = x % 2 := by
 obtain ⟨n, rfl⟩ := Al h0;show IntKind.u32.wrap ((BitVec.ofInt IntKind.u32.bits (n : Int) &&& BitVec.ofInt IntKind.u32.bits 1).toNat : Int) = _;have b1 : (BitVec.ofInt IntKind.u32.bits (n : Int)).toNat = n := by
  show (BitVec.ofInt 32 (n : Int)).toNat = n;rw [BitVec.ofInt_natCast, BitVec.toNat_ofNat]; omega
 have b2 : (BitVec.ofInt IntKind.u32.bits 1).toNat = 1 := by decide
 rw [Ec, b1, b2, Nat.and_one_is_mod, wu32];omega
theorem aIH {k : Nat} (h : k ≠ 0) : (lim k).length ≠ 0 ∧ (lim k).getD ((lim k).length - 1) 0 ≠ 0 := by
 have ne : lim k ≠ [] := fun z => h (fH.1 z)
 exact ⟨fun z => ne (List.length_eq_zero_iff.1 z), (kT k).last ne⟩
theorem aIJ {k : Nat} (h : k % 2 = 1) : (lim k).getD 0 0 % 2 = 1 ∧ 0 < (lim k).length := by
 have n0 : k ≠ 0 := by intro z; rw [z] at h; cases h
 have L := lim_lb k;have V := aJ k;have N := (aIH n0).1
 match hq : lim k, L, V, N with
 | [], _, _, N => exact absurd rfl N
 | y :: r, L, V, _ =>
  have hy := L.head;simp only [lv] at V;refine ⟨?_, Nat.zero_lt_succ _⟩;show y % 2 = 1;omega
theorem aMF (p : Bool × Nat × Int) (hp : DyC p) (x : Bool × List Int × Int) (hx : x = dyL p) (hl_ : x.2.1.length < 4611686018427387904) : ∃ t : Bool, t = true ∧ aC Tryz.prog 234 [.agg [.bool (.s x.1), .sli .u32 x.2.1, .int .i64 (.s x.2.2)]] (.bool (.s t)) := by
 refine ⟨_, rfl, ?_⟩;have z0 : (x.2.1.length : Int) = 0 → x.1 = false ∧ x.2.2 = 0 := by
  intro h;rcases hp with hp | hp
  · rw [hx, hp]; exact ⟨rfl, rfl⟩
  · exfalso;have := (aIJ hp.1).2;rw [hx] at h;have h : ((lim p.2.1).length : Int) = 0 := h;omega
 have z1 : ¬ (x.2.1.length : Int) = 0 → wMayB x.1 x.2.1 = true ∧ x.2.1.getD 0 0 % 2 = 1 ∧ 0 ≤ x.2.1.getD 0 0 ∧ x.2.1.getD 0 0 < 4294967296 ∧ (0 : Int) < x.2.1.length ∧ -4194304 ≤ x.2.2 ∧ x.2.2 ≤ 4194304 := by
  intro h;rcases hp with hp | hp
  · exfalso; apply h; rw [hx, hp]; rfl
  · have n0 : p.2.1 ≠ 0 := by intro z; rw [z] at hp; cases hp.1
    have l1 := aIH n0;have l2 := aIJ hp.1;have l3 := (lim_lb p.2.1).getD 0;have e : x.2.1 = lim p.2.1 := by rw [hx]; rfl
    have e2 : x.2.2 = p.2.2 := by rw [hx]; rfl
    rw [e, e2];refine ⟨?_, l2.1, l3.1, l3.2, by omega, hp.2.1, hp.2.2⟩;unfold wMayB;rw [if_neg l1.1, Au l1.2]
 refine callsA_o Tryz.func234 fun E hE lp hl => ?_
 cbv;refine E_br hE ?_ ?_ <;> intro g <;> cbv
 · have z := z0 (by subst hE; exact cA g);have b : E.bnot x.1 = true := by rw [z.1]; subst hE; rfl
   refine E_br_t hE b ?_; cbv;show E.cmp .eql x.2.2 0 = true;rw [z.2]; subst hE; rfl
 have z := z1 (by subst hE; exact eql_f g)
 (refine E_cx hE (aRK x.1 x.2.1 hl_) ?_; intro w hw; cbv)
 have w1 : w = true := hw.trans z.1;refine E_br_t hE w1 ?_; cbv;refine E_br hE ?_ ?_ <;> intro b2 <;> cbv
 · have e : E.cmp .eql (E.bin .and .u32 (E.get x.2.1 0) 1) 1 = true := by
    subst hE;show decide (aA .and .u32 (x.2.1.getD 0 0) 1 = 1) = true;rw [aHV z.2.2.1 z.2.2.2.1, z.2.1]; rfl
   refine E_br_t hE e ?_; cbv
   (refine E_cx hE (vR _) ?_; intro v hv; cbv)
   rw [hv];show (decide (-4194304 ≤ x.2.2) && decide (x.2.2 ≤ 4194304)) = true;rw [Au z.2.2.2.2.2.1, Au z.2.2.2.2.2.2]; rfl
 · exfalso;subst hE;exact aW b2 z.2.2.2.2.1
theorem aBY (p : Bool × Nat × Int) (hp : DyC p) (x : Bool × List Int × Int) (hx : x = dyL p) (hl_ : x.2.1.length < 4611686018427387904) : ∃ t : Bool × List Int × Int, t = x ∧ aC Tryz.prog 220 [.agg [.bool (.s x.1), .sli .u32 x.2.1, .int .i64 (.s x.2.2)]] (.agg [.bool (.s t.1), .sli .u32 t.2.1, .int .i64 (.s t.2.2)]) := by
 refine ⟨_, rfl, ?_⟩;refine callsA_o Tryz.func220 fun E hE lp hl => ?_
 cbv
 (refine E_cx hE (aMF p hp x hx hl_) ?_; intro w hw; cbv)
 refine E_br_t hE hw ?_; cbv
theorem c_dyMove (p : Bool × Nat × Int) (hp : DyC p) (x : Bool × List Int × Int) (hx : x = dyL p) (hl_ : x.2.1.length < 67108864) (n : Int) (hn : -16777216 ≤ n) (hn2 : n ≤ 16777216) :
 ∃ t : Bool × List Int × Int, t = dyL (dyMake p.1 p.2.1 (p.2.2 + n)) ∧ aC Tryz.prog 183 [.agg [.bool (.s x.1), .sli .u32 x.2.1, .int .i64 (.s x.2.2)], .int .i64 (.s n)] (.agg [.bool (.s t.1), .sli .u32 t.2.1, .int .i64 (.s t.2.2)]) := by
 refine ⟨_, rfl, ?_⟩;generalize hr : dyL (dyMake p.1 p.2.1 (p.2.2 + n)) = r;have hl2 : x.2.1.length < 4611686018427387904 := by omega
 have rng : -4194304 ≤ p.2.2 ∧ p.2.2 ≤ 4194304 := by
  rcases hp with hp | hp
  · rw [hp]; exact ⟨by decide, by decide⟩
  · exact hp.2
 have hx1 : x.1 = p.1 := by rw [hx]; rfl
 have hx2 : x.2.1 = lim p.2.1 := by rw [hx]; rfl
 have hx3 : x.2.2 = p.2.2 := by rw [hx]; rfl
 have xb : Lb x.2.1 := by rw [hx2]; exact lim_lb _
 refine callsA_o Tryz.func183 fun E hE lp hl => ?_
 cbv
 (refine E_cx hE (aBY p hp x hx hl2) ?_; intro y hy; cbv)
 refine E_br hE ?_ ?_ <;> intro g <;> cbv
 · exfalso; subst hE; have := cU g; omega
 refine E_br hE ?_ ?_ <;> intro g2 <;> cbv
 · exfalso; subst hE; have := bF g2; omega
 have ea : E.bin .add .i64 y.2.2 n = p.2.2 + n := by
  rw [hy, hx3]; subst hE;show IntKind.i64.wrap (p.2.2 + n) = _;exact wi64_in (by omega) (by omega)
 have yb : Lb y.2.1 ∧ y.2.1.length < 67108864 := by rw [hy]; exact ⟨xb, hl_⟩
 (refine E_cx hE (aDG y.1 y.2.1 (E.bin .add .i64 y.2.2 n) yb.1 yb.2 ?_ ?_) ?_; all_goals (first | (intro t ht; cbv) | ((rw [ea]; omega))))
 have k : t = r := by
  have k : t = dyL (dyMake y.1 (lv y.2.1) (E.bin .add .i64 y.2.2 n)) := ht;rw [k, ea, hy, hx1, hx2, aJ, hr]
 rw [← k]; exact ⟨rfl, rfl, rfl, trivial⟩
theorem aAX {k L n : Nat} (h : (lim k).length ≤ L) : (lim (k * 2 ^ n)).length ≤ L + (n / 32 + 1) := by
 refine lim_length_le ?_;have a := bP (lim_lb k);rw [aJ] at a;have b : 2 ^ n ≤ 4294967296 ^ (n / 32 + 1) := by
  rw [show (4294967296 : Nat) = 2 ^ 32 by rfl, ← Cj];exact Ag (by decide) (by omega)
 have c : 4294967296 ^ (lim k).length ≤ 4294967296 ^ L := Ag (by decide) h;rw [Ap];exact Nat.mul_lt_mul_of_lt_of_le' (Av a c) b (Bf n)
theorem aAM (k : Nat) : (lim (k + 1)).length ≤ (lim k).length + 1 := by
 refine lim_length_le ?_;have a := bP (lim_lb k);rw [aJ] at a;rw [Aq];have p : 0 < 4294967296 ^ (lim k).length := Bg (by decide);omega
def dM (p : Bool × Nat × Int) : Int :=
 if 0 ≤ p.2.2 then (if p.1 then -((p.2.1 * 2 ^ p.2.2.toNat : Nat) : Int) else ((p.2.1 * 2 ^ p.2.2.toNat : Nat) : Int))
 else if p.1 then -((p.2.1 / 2 ^ (-p.2.2).toNat + 1 : Nat) : Int) else ((p.2.1 / 2 ^ (-p.2.2).toNat : Nat) : Int)
set_option maxHeartbeats 1000000 in
theorem yI (p : Bool × Nat × Int) (hp : DyC p) (x : Bool × List Int × Int) (hx : x = dyL p) (hl_ : x.2.1.length < 67108864) :
 ∃ t : Bool × List Int, t = whN (dM p) ∧ aC Tryz.prog 182 [.agg [.bool (.s x.1), .sli .u32 x.2.1, .int .i64 (.s x.2.2)]] (.agg [.bool (.s t.1), .sli .u32 t.2]) := by
 refine ⟨_, rfl, ?_⟩;generalize hr : whN (dM p) = r;have hl2 : x.2.1.length < 4611686018427387904 := by omega
 have rng : -4194304 ≤ p.2.2 ∧ p.2.2 ≤ 4194304 := by
  rcases hp with hp | hp
  · rw [hp]; exact ⟨by decide, by decide⟩
  · exact hp.2
 have hx1 : x.1 = p.1 := by rw [hx]; rfl
 have hx2 : x.2.1 = lim p.2.1 := by rw [hx]; rfl
 have hx3 : x.2.2 = p.2.2 := by rw [hx]; rfl
 have xb : Lb x.2.1 := by rw [hx2]; exact lim_lb _
 have one : Lb [(1 : Int)] ∧ lv [(1 : Int)] = 1 := ⟨Lb.cons (by decide) (by decide) Lb.nil, rfl⟩
 have ll : (lim p.2.1).length < 67108864 := by rw [← hx2]; exact hl_
 have up : 0 ≤ p.2.2 → ∀ u, u = (if p.2.2 < 1 then lim p.2.1 else if 16777216 < p.2.2 then [] else lim (p.2.1 * 2 ^ p.2.2.toNat)) → Lb u ∧ u.length ≤ 268435456 ∧ ∀ w : Bool × List Int, w = (p.1 && decide (lv u ≠ 0), lim (lv u)) → w = r := by
  intro h u hu;have hu : u = lim (p.2.1 * 2 ^ p.2.2.toNat) := by
   rw [hu];split
   · rw [show p.2.2.toNat = 0 by omega, Ct, By]
   · rw [if_neg (by omega)]
  refine ⟨by rw [hu]; exact lim_lb _, by rw [hu]; have := aAX (k := p.2.1) (L := 67108864) (n := p.2.2.toNat) (by omega); omega, fun w hw => ?_⟩;rw [hw, hu, aJ, cS, ← hr];unfold dM;rw [if_pos h]
 have dn : ¬ 0 ≤ p.2.2 → ∀ u, u = lim (p.2.1 / 2 ^ (-p.2.2).toNat) → Lb u ∧ u.length < 67108864 ∧ (p.1 = false → ∀ w : Bool × List Int, w = (p.1 && decide (lv u ≠ 0), lim (lv u)) → w = r) ∧
  (p.1 = true → ∀ v, v = lim (lv u + 1) → Lb v ∧ v.length ≤ 268435456 ∧ ∀ w : Bool × List Int, w = (p.1 && decide (lv v ≠ 0), lim (lv v)) → w = r) := by
  intro h u hu;have ul : (lim (p.2.1 / 2 ^ (-p.2.2).toNat)).length ≤ (lim p.2.1).length := dC (Bo _ _);refine ⟨by rw [hu]; exact lim_lb _, by rw [hu]; omega, fun g w hw => ?_, fun g v hv => ?_⟩
  · rw [hw, hu, aJ, cS, ← hr];unfold dM;rw [if_neg h, g]; rfl
  · rw [hu, aJ] at hv;have l2 := aAM (p.2.1 / 2 ^ (-p.2.2).toNat);refine ⟨by rw [hv]; exact lim_lb _, by rw [hv]; omega, fun w hw => ?_⟩;rw [hw, hv, aJ, cS, ← hr];unfold dM;rw [if_neg h, g]; rfl
 clear hr;refine callsA_o Tryz.func182 fun E hE lp hl => ?_
 cbv
 (refine E_cx hE (aBY p hp x hx hl2) ?_; intro y hy; cbv)
 refine E_br hE ?_ ?_ <;> intro g <;> cbv
 · have g : 0 ≤ p.2.2 := by rw [← hx3, ← hy]; subst hE; exact lQ g
   have yb : Lb y.2.1 ∧ y.2.1.length < 67108864 := by rw [hy]; exact ⟨xb, hl_⟩
   (refine E_px hE (jM y.2.1 y.2.2 yb.1 yb.2) ?_; intro u hu; cbv)
   have U := up g u (by rw [hu, hy, hx2, hx3, aJ])
   (refine E_px hE (c_wMake y.1 u U.1 U.2.1) ?_; intro w hw; cbv)
   rw [← U.2.2 w (by rw [hw, hy, hx1])]; exact ⟨rfl, rfl, trivial⟩
 · have g : ¬ 0 ≤ p.2.2 := by rw [← hx3, ← hy]; subst hE; exact kH g
   have yb : Lb y.2.1 ∧ y.2.1.length < 67108864 := by rw [hy]; exact ⟨xb, hl_⟩
   have en : E.bin .sub .i64 0 y.2.2 = -p.2.2 := by
    rw [hy, hx3]; subst hE;show IntKind.i64.wrap (0 - p.2.2) = _;rw [wi64_in (by omega) (by omega)]; omega
   (refine E_cx hE (c_natShr y.2.1 (E.bin .sub .i64 0 y.2.2) yb.1 yb.2) ?_; intro u hu; cbv)
   obtain ⟨u1, u2, u3, u4⟩ := dn g u (by rw [hu, en, hy, hx2, aJ]);have y1 : y.1 = p.1 := by rw [hy, hx1]
   have o1 : E.sub [1] 0 1 = [1] := by subst hE; rfl
   have ul : u.length < 268435456 := Nat.lt_trans u2 (by decide);have um : u.length ≤ 268435456 := Dz ul;refine E_br hE ?_ ?_ <;> intro g2 <;> cbv
   · (refine E_cx hE (aEK u _ u1 ?_ ul ?_) ?_; all_goals (first | (intro v hv; cbv) | ((first | (show Lb (E.sub [1] 0 1); rw [o1]; exact one.1) | (show (E.sub [1] 0 1).length < 268435456; rw [o1]; decide)))))
     have hv : v = lim (lv u + 1) := by
      have k : v = lim (lv u + lv (E.sub [1] 0 1)) := hv;rw [k, o1, one.2]
     have V := u4 (y1.symm.trans g2) v hv
     (refine E_cx hE (c_wMake y.1 v V.1 V.2.1) ?_; intro w hw; cbv)
     rw [← V.2.2 w (by rw [hw, y1])]; exact ⟨rfl, rfl, trivial⟩
   · (refine E_cx hE (c_wMake y.1 u u1 um) ?_; intro w hw; cbv)
     rw [← u3 (y1.symm.trans g2) w (by rw [hw, y1])]; exact ⟨rfl, rfl, trivial⟩
end
section
open Go
def Iv.goods : List Iv → List Iv
 | [] => []
 | x :: r => if x.fair.empty then goods r else x.fair :: goods r
def Iv.los (l : List Iv) : List Num := (Iv.goods l).map Iv.lo
def Iv.his (l : List Iv) : List Num := (Iv.goods l).map Iv.hi
def Iv.lN (l : List Iv) : Bool := l.all (fun x => !x.fair.empty)
theorem Iv.qJ : ∀ (l m : List Iv), Iv.goods (l ++ m) = Iv.goods l ++ Iv.goods m
 | [], m => rfl
 | x :: r, m => by
  simp only [List.cons_append, Iv.goods, Iv.qJ r m];split <;> rfl
theorem Iv.rX : ∀ (l : List Iv), (Iv.goods l).length ≤ l.length
 | [] => Ba _
 | x :: r => by
  have := Iv.rX r;simp only [Iv.goods];split <;> simp <;> omega
theorem Iv.aIS (l : List Iv) : (Iv.los l).length ≤ l.length := by simp [Iv.los, Iv.rX]
theorem Iv.aGM (l : List Iv) : (Iv.his l).length ≤ l.length := by simp [Iv.his, Iv.rX]
theorem xV {l : List Iv} {i : Int} (h0 : 0 ≤ i) (h1 : i < l.length) : l.take (i + 1).toNat = l.take i.toNat ++ [l.getD i.toNat Iv.none] := by
 have : i.toNat < l.length := by omega
 rw [show (i + 1).toNat = i.toNat + 1 by omega, List.take_add_one, List.getElem?_eq_getElem this];simp [List.getD, List.getElem?_eq_getElem this]
theorem Iv.dJ {l : List Iv} {i : Int} (h0 : 0 ≤ i) (h1 : i < l.length) : Iv.goods (l.take (i + 1).toNat) =
 if (l.getD i.toNat Iv.none).fair.empty then Iv.goods (l.take i.toNat) else Iv.goods (l.take i.toNat) ++ [(l.getD i.toNat Iv.none).fair] := by
 rw [xV h0 h1, Iv.qJ];simp only [Iv.goods];split <;> simp
theorem Iv.iP {l : List Iv} {i : Int} (h0 : 0 ≤ i) (h1 : i < l.length) : Iv.lN (l.take (i + 1).toNat) = (Iv.lN (l.take i.toNat) && !(l.getD i.toNat Iv.none).fair.empty) := by
 rw [xV h0 h1];simp [Iv.lN]
def Iv.hull (l : List Iv) : Iv := if (Iv.los l).length = 0 then Iv.none else Iv.make (Num.least (Iv.los l)) (Num.most (Iv.his l))
theorem tR (ρ : List Nat) (L : List Num) : mapB (mapB (rn1 ρ)) (L.map Num.cells) = L.map Num.cells := by
 rw [jQ, List.map_map];refine List.map_congr_left (fun x _ => ?_);rfl
theorem tV (k : Nat) (L : List Num) : allB (allB (in1 k)) (L.map Num.cells) = true := by
 rw [allB_eq, List.all_eq_true];intro r hr;obtain ⟨x, _, rfl⟩ := List.mem_map.1 hr;rfl
theorem Iv.aDA {l : List Iv} {i : Int} (h0 : 0 ≤ i) (h1 : i < l.length) (h : (l.getD i.toNat Iv.none).fair.empty = false) : Iv.los (l.take (i + 1).toNat) = Iv.los (l.take i.toNat) ++ [(l.getD i.toNat Iv.none).fair.lo] := by
 unfold Iv.los;rw [Iv.dJ h0 h1, if_neg (by rw [h]; decide)];simp
theorem Iv.aDH {l : List Iv} {i : Int} (h0 : 0 ≤ i) (h1 : i < l.length) (h : (l.getD i.toNat Iv.none).fair.empty = false) : Iv.his (l.take (i + 1).toNat) = Iv.his (l.take i.toNat) ++ [(l.getD i.toNat Iv.none).fair.hi] := by
 unfold Iv.his;rw [Iv.dJ h0 h1, if_neg (by rw [h]; decide)];simp
theorem iG (M : List Num) (x : Num) : ((M.map Num.cells).drop (0 : Int).toNat).take ((M.length : Int)).toNat ++ [x.cells] = (M ++ [x]).map Num.cells := by
 simp;rw [List.take_of_length_le (by simp)]
theorem aIG (L : List Num) : allB (allB AV.mf1) (L.map Num.cells) = true := by
 rw [allB_eq, List.all_eq_true];intro r hr;obtain ⟨x, _, rfl⟩ := List.mem_map.1 hr;rfl
theorem xR (M : List Num) (d : List AV) {i : Nat} (h : i < M.length) : (M.map Num.cells).getD ((0 : Int).toNat + i) d = (M.getD i Num.zero).cells := by
 rw [show (0 : Int).toNat + i = i by simp];simp [List.getD, List.getElem?_eq_getElem h]
theorem mR {x : Num} : sleL sle0 x.cells x.cells := ⟨⟨rfl, rfl⟩, rfl, ⟨rfl, rfl⟩, ⟨rfl, rfl⟩, trivial⟩
def Int.sm (n : Int) : Prop := -4611686018427387904 ≤ n ∧ n ≤ 4611686018427387904
theorem gE {n : Int} (h : Int.sm n) : (Num.ofInt n).may = true ∧ (Num.ofInt n).ok ∧ (Num.ofInt n).kind ≠ 2 ∧ (Num.ofInt n).fair = Num.ofInt n ∧ (Num.ofInt n).val = n * pw 0 := by
 unfold Int.sm at h;have hv := aIV (n := n) (by omega);by_cases h0 : n = 0
 · subst h0;exact ⟨by decide, Num.dA 0, by decide, by decide, hv⟩
 · obtain ⟨f, _, _⟩ := rO h0 (by omega);have hk := f.kind;exact ⟨f.may, f.ok, by omega, Num.aS f.may, hv⟩
def fixV (n : Num) : Int × Bool :=
 if n.fair.kind = 2 ∨ pw 0 * 2 ^ 30 ≤ n.fair.val ∨ n.fair.val ≤ -(pw 0 * 2 ^ 30) then (0, false) else (n.fair.val * 2 ^ 192 / pw 0, true)
theorem sM {k j : Nat} (hk : k % 2 = 1) (hj : 0 < j) : -(k : Int) / 2 ^ j = -((k / 2 ^ j + 1 : Nat) : Int) := by
 have p : (0 : Int) < 2 ^ j := Dq (by decide);have e : ((2 ^ j : Nat) : Int) = 2 ^ j := by rw [Da]; rfl
 have hne : k % 2 ^ j ≠ 0 := by
  intro z;obtain ⟨i, rfl⟩ : ∃ i, j = i + 1 := ⟨j - 1, by omega⟩
  have d := Ch k (2 ^ (i + 1));rw [z, Aq, Bn, Ax (2 ^ i) 2, Aw] at d;omega
 have d : (k : Int) = 2 ^ j * ((k / 2 ^ j : Nat) : Int) + ((k % 2 ^ j : Nat) : Int) := by
  rw [← e, ← Bp, ← Int.natCast_add, Ch]
 have m1 : ((k % 2 ^ j : Nat) : Int) < 2 ^ j := by rw [← e]; exact Int.ofNat_lt.2 (Cz _ (Bf j))
 have m0 : (0 : Int) < ((k % 2 ^ j : Nat) : Int) := by omega
 have key : -(k : Int) = (2 ^ j - ((k % 2 ^ j : Nat) : Int)) + 2 ^ j * (-((k / 2 ^ j + 1 : Nat) : Int)) := by
  rw [Int.mul_neg, Int.natCast_add, Dx];omega
 rw [key, Int.add_mul_ediv_left _ _ (by omega), Du (by omega) (by omega), Int.zero_add]
theorem aDK {p : Bool × Nat × Int} (h : p = (false, 0, 0) ∨ p.2.1 % 2 = 1) (lo : -8388608 ≤ p.2.2) : dM p = dyv p / pw 0 := by
 have p0 := bG 0;rcases h with h | h
 · rw [h]; simp [dM, dyv]
 · unfold dM;split
   · rename_i g;have e := eK (e := 0) (f := p.2.2) (by decide) g;rw [Int.zero_add] at e;have c : ((p.2.1 * 2 ^ p.2.2.toNat : Nat) : Int) * pw 0 = (p.2.1 : Int) * pw p.2.2 := by
      rw [e, Bp, Da, Bh, At (pw 0)]; rfl
     unfold dyv;split
     · rw [← c, ← Cd, Dg _ (by omega)]
     · rw [← c, Dg _ (by omega)]
   · rename_i g;have e := eK (e := p.2.2) (f := -p.2.2) lo (by omega);rw [show p.2.2 + -p.2.2 = 0 by omega] at e;have pe := bG p.2.2;unfold dyv;split
     · rw [e, ← Cd, At (-(p.2.1 : Int)), Ds _ _ pe, sM h (by omega)]
     · rw [e, At (p.2.1 : Int), Ds _ _ pe, Dp, Da]; rfl
theorem wX {p : Bool × Nat × Int} {t : Int} (h : Dy p t) : dM (dyMake p.1 p.2.1 (p.2.2 + 192)) = t * 2 ^ 192 / pw 0 := by
 have lo := h.lo;have hi := h.hi;rcases h.odd with k | k
 · have v := h.val;rw [k] at v ⊢;rw [fG, ← v];simp [dM, dyv]
 · have m : dyMake p.1 p.2.1 (p.2.2 + 192) = (p.1, p.2.1, p.2.2 + 192) := jJ k (by omega) (by omega);rw [m, aDK (p := (p.1, p.2.1, p.2.2 + 192)) (.inr k) (by show -8388608 ≤ p.2.2 + 192; omega), ← h.val];congr 1;have e := eK (e := p.2.2) (f := 192) (by omega) (by decide);unfold dyv;dsimp only;rw [e];split
   · rw [Cd, Bh]; rfl
   · rw [Bh]; rfl
theorem aOX {n : Num} (h : n.may = false) : fixV n = (0, true) := by
 unfold fixV;have e : n.fair = Num.zero := by unfold Num.fair; rw [if_neg (by rw [h]; decide)]
 have p := bG 0;have z := Num.val_zero;rw [e, z, if_neg]
 · simp
 · have q : (0 : Int) < pw 0 * 2 ^ 30 := Df p (by decide);rintro (k | k | k)
   · exact absurd k (by decide)
   · omega
   · omega
theorem wN : Int.sm 1073741824 ∧ Int.sm (-1073741824) := by unfold Int.sm; decide
theorem aHC {n : Num} (m : n.may = true) (o : n.ok) (h : n.kind = 2 ∨ ¬ n.cmp (Num.ofInt 1073741824) < 0 ∨ n.cmp (Num.ofInt (-1073741824)) ≤ 0) : fixV n = (0, false) := by
 have f1 := gE wN.1;have f2 := gE wN.2;rw [Num.zR o f1.2.1, Num.zY o f2.2.1, f1.2.2.2.1, f2.2.2.2.1, f1.2.2.2.2, f2.2.2.2.2] at h;unfold fixV;rw [if_pos];rw [Num.aS m] at h ⊢;rcases h with h | h | h
 · exact .inl h
 · right; left; have e : pw 0 * 2 ^ 30 = 1073741824 * pw 0 := At _ _;omega
 · right; right; have e : pw 0 * 2 ^ 30 = 1073741824 * pw 0 := At _ _;have e2 : -1073741824 * pw 0 = -(1073741824 * pw 0) := by rw [Cd]
   omega
theorem aSP {n : Num} (m : n.may = true) (o : n.ok) (h : ¬ (n.kind = 2 ∨ ¬ n.cmp (Num.ofInt 1073741824) < 0 ∨ n.cmp (Num.ofInt (-1073741824)) ≤ 0)) : fixV n = (n.val * 2 ^ 192 / pw 0, true) := by
 have f1 := gE wN.1;have f2 := gE wN.2;rw [Num.zR o f1.2.1, Num.zY o f2.2.1, f1.2.2.2.1, f2.2.2.2.1, f1.2.2.2.2, f2.2.2.2.2, Num.aS m] at h;unfold fixV;rw [Num.aS m, if_neg];rintro (k | k | k)
 · exact h (.inl k)
 · apply h; right; left; have e : pw 0 * 2 ^ 30 = 1073741824 * pw 0 := At _ _;omega
 · apply h; right; right; have e : pw 0 * 2 ^ 30 = 1073741824 * pw 0 := At _ _;have e2 : -1073741824 * pw 0 = -(1073741824 * pw 0) := by rw [Cd]
   omega
theorem aDN {n : Num} (F : n.Fin) (he : n.e < -256) : 0 < n.W ∧ n.W * 2 ^ 192 < pw 0 := by
 have lo := F.lo;have hi := F.hi;have elo := F.elo;have pe := bG n.e;have e := eK (e := n.e) (f := -n.e) (by omega) (by omega);rw [show n.e + -n.e = 0 by omega] at e;have big : (2 : Int) ^ 256 ≤ 2 ^ (-n.e).toNat := by
  have := Ag (n := 2) (by decide) (show 256 ≤ (-n.e).toNat by omega);have h2 : ((2 ^ 256 : Nat) : Int) ≤ ((2 ^ (-n.e).toNat : Nat) : Int) := Int.ofNat_le.2 this
  simpa [Da] using h2
 rw [F.W, e];refine ⟨Df (by omega) pe, ?_⟩;have q : n.m * 2 ^ 192 < 2 ^ (-n.e).toNat := by omega
 calc n.m * pw n.e * 2 ^ 192 = pw n.e * (n.m * 2 ^ 192) := by rw [At n.m, Bh]
  _ < pw n.e * 2 ^ (-n.e).toNat := Int.mul_lt_mul_of_pos_left q pe
theorem uS {n : Num} (F : n.Fin) (he : n.e < -256) : n.val * 2 ^ 192 / pw 0 = if n.neg then -1 else 0 := by
 obtain ⟨h1, h2⟩ := aDN F he;have h3 : 0 < n.W * 2 ^ 192 := Df h1 (by decide);have p := bG 0;unfold Num.val;split
 · rw [Cd];have key : -(n.W * 2 ^ 192) = (pw 0 - n.W * 2 ^ 192) + pw 0 * (-1) := by omega
   rw [key, Int.add_mul_ediv_left _ _ (by omega), Du (by omega) (by omega)]; rfl
 · exact Du (by omega) h2
theorem aSN {n : Num} (m : n.may = true) (o : n.ok) (k : n.kind ≠ 2) : dM (dyMake n.exact.1.1 n.exact.1.2.1 (n.exact.1.2.2 + 192)) = n.val * 2 ^ 192 / pw 0 := by
 have d := kK (x := n) o (by rw [Num.aS m]; exact k);rw [Num.aS m] at d;exact wX d
theorem aEE {p : Bool × Nat × Int} (h : DyC p) : dyMake p.1 p.2.1 p.2.2 = p := by
 rcases h with k | k
 · rw [k]; exact fG _ _
 · exact jJ k.1 k.2.1 k.2.2
end
section
open Go Go.Proofs
attribute [local irreducible] Lb whN
theorem oG (n k : Nat) (hk : k ≠ 0) : (n % k = 0 → -(n : Int) / k = -((n / k : Nat) : Int) ∧ -(n : Int) % k = 0) ∧ (n % k ≠ 0 → -(n : Int) / k = -((n / k : Nat) : Int) + -1 ∧ -(n : Int) % k = -((n % k : Nat) : Int) + k) := by
 have d := Ch n k;have l := Cz n (show 0 < k by omega);obtain ⟨q, hq⟩ : ∃ q, n / k = q := ⟨_, rfl⟩
 obtain ⟨r, hr⟩ : ∃ r, n % k = r := ⟨_, rfl⟩
 rw [hq, hr] at d ⊢;rw [hr] at l;have d2 : (k : Int) * q + r = n := by rw [← Bp]; omega
 constructor
 · intro h;rw [← d2, h];refine (Int.ediv_emod_unique (show (0 : Int) < k by omega)).2 ⟨?_, by omega, by omega⟩;rw [Int.mul_neg]; omega
 · intro h;rw [← d2];refine (Int.ediv_emod_unique (show (0 : Int) < k by omega)).2 ⟨?_, by omega, by omega⟩;rw [Dx, Int.mul_neg]; omega
set_option maxHeartbeats 1000000 in
theorem aNG (na : Bool) (a : List Int) (nb : Bool) (b : List Int) (hna : na = true) (hnb : nb = false) (ha : Lb a) (hb : Lb b) (hla : a.length ≤ 90000) (hlb : b.length ≤ 90000) (hb0 : lv b ≠ 0) :
 ∃ t : (Bool × List Int) × (Bool × List Int), t = (whN (-(lv a : Int) / lv b), whN (-(lv a : Int) % lv b)) ∧
  aC Tryz.prog 149 [.agg [.bool (.s na), .sli .u32 a], .agg [.bool (.s nb), .sli .u32 b]] (.tup [.agg [.bool (.s t.1.1), .sli .u32 t.1.2], .agg [.bool (.s t.2.1), .sli .u32 t.2.2], .bool (.s true)]) := by
 subst hna hnb;refine ⟨_, rfl, ?_⟩;generalize hr : (whN (-(lv a : Int) / lv b), whN (-(lv a : Int) % lv b)) = r;have M := oG (lv a) (lv b) hb0;have r0 : lv a % lv b = 0 → whN (-((lv a / lv b : Nat) : Int)) = r.1 ∧ whN 0 = r.2 := by intro z; rw [← hr, (M.1 z).1, (M.1 z).2]; exact ⟨rfl, rfl⟩
 have r1 : lv a % lv b ≠ 0 → whN (-((lv a / lv b : Nat) : Int) + -1) = r.1 ∧ whN (-((lv a % lv b : Nat) : Int) + lv b) = r.2 := by intro z; rw [← hr, (M.2 z).1, (M.2 z).2]; exact ⟨rfl, rfl⟩
 have qn : ∀ (t : Bool × List Int), t = (true && decide (lv a / lv b ≠ 0), lim (lv a / lv b)) → t = whN (-((lv a / lv b : Nat) : Int)) := by
  intro t h; rw [h, cS, if_pos rfl]
 have rn : ∀ (t : Bool × List Int), t = (true && decide (lv a % lv b ≠ 0), lim (lv a % lv b)) → t = whN (-((lv a % lv b : Nat) : Int)) := by
  intro t h; rw [h, cS, if_pos rfl]
 have b1 : b.length ≤ 268435456 := by omega
 have hla2 : a.length < 67108864 := by omega
 have hlb2 : b.length < 67108864 := by omega
 have hlb3 : b.length ≤ 100000 := by omega
 have l1 : (lim (lv a / lv b)).length ≤ 90000 := by have := dC (Bo (lv a) (lv b)); have := aO ha; omega
 have l3 : (lim (lv a % lv b)).length ≤ 90000 := by have := dC (Nat.mod_le (lv a) (lv b)); have := aO ha; omega
 have l2 : (whN (-1)).2.length ≤ 100000 := Ae (fR (k := 1) (by decide)) (by decide);have wb : wv false b = lv b := rfl;clear hr M;refine callsA_o Tryz.func149 fun E hE lp hl' => ?_
 cbv
 (refine E_cx hE (gM false b hb b1) ?_; intro z hz; cbv)
 have hz : z = 1 := by
  have k : z = (if lv b = 0 then 0 else if false = true then -1 else 1) := hz;rw [k, if_neg hb0]; rfl
 (try (refine E_nm hE fun z1 e1 => ?_; cbv))
 have hz1 : z1 = 1 := Eq.trans e1 hz;refine fD hE (show E.cmp .eql z1 0 = false by subst hE hz1; rfl) ?_; cbv
 (refine E_cx hE (aAI a b ha hb hla2 hlb2) ?_; intro d hd; cbv)
 have hd : d = (lim (lv a / lv b), lim (lv a % lv b), true) := by
  have k : d = (if lv b = 0 then ([], [], false) else (lim (lv a / lv b), lim (lv a % lv b), true)) := hd;rw [k, if_neg hb0]
 have d1 : d.1 = lim (lv a / lv b) := by rw [hd]
 have d2 : d.2.1 = lim (lv a % lv b) := by rw [hd]
 have db : Lb d.1 := by rw [d1]; exact lim_lb _
 have dc : Lb d.2.1 := by rw [d2]; exact lim_lb _
 have dl : d.1.length ≤ 268435456 := by rw [d1]; omega
 have dm : d.2.1.length ≤ 268435456 := by rw [d2]; omega
 (refine E_cx hE (c_r2Make _ d.1 db dl) ?_; intro x hx; cbv)
 (refine E_cx hE (c_r2Make _ d.2.1 dc dm) ?_; intro y hy; cbv)
 have ex := qn x (by have k : x = ((E.bnot (E.beq true false)) && decide (lv d.1 ≠ 0), lim (lv d.1)) := hx; rw [k, d1, aJ]; subst hE; rfl);have ey := rn y (by have k : y = (true && decide (lv d.2.1 ≠ 0), lim (lv d.2.1)) := hy; rw [k, d2, aJ]);have x2 : x.2 = lim (lv a / lv b) := by have k : x = ((E.bnot (E.beq true false)) && decide (lv d.1 ≠ 0), lim (lv d.1)) := hx; rw [k, d1, aJ]
 have y0 : y = (true && decide (lv a % lv b ≠ 0), lim (lv a % lv b)) := by have k : y = (true && decide (lv d.2.1 ≠ 0), lim (lv d.2.1)) := hy; rw [k, d2, aJ]
 have yb : Lb y.2 := by rw [y0]; exact lim_lb _
 have yk : y.2.length ≤ 90000 := by rw [y0]; exact l3
 have yl : y.2.length ≤ 268435456 := by omega
 have xb : Lb x.2 := by rw [x2]; exact lim_lb _
 have xl : x.2.length ≤ 100000 := by rw [x2]; omega
 have yl2 : y.2.length ≤ 100000 := by omega
 (refine E_cx hE (gM y.1 y.2 yb yl) ?_; intro s hs; cbv)
 have hs : s = (if lv a % lv b = 0 then 0 else -1) := by
  have k : s = (if lv y.2 = 0 then 0 else if y.1 = true then -1 else 1) := hs;rw [k, y0, aJ];by_cases z : lv a % lv b = 0
  · rw [if_pos z, if_pos z]
  · rw [if_neg z, if_neg z, if_pos (by simp [z])]
 refine E_br hE ?_ ?_ <;> intro g <;> cbv
 · have z : lv a % lv b ≠ 0 := by
    intro z;rw [if_pos z] at hs;subst hE hz1 hs;exact absurd g (by decide)
   obtain ⟨f1, f2⟩ := r1 z
   (refine E_px hE (c_r2From (-1) (by decide) (by decide)) ?_; intro u hu; cbv)
   have ub : Lb u.2 := by rw [hu]; exact whN_lb _
   have ul : u.2.length ≤ 100000 := by rw [hu]; exact l2
   (refine E_px hE (c_r2Add x.1 x.2 u.1 u.2 xb ub xl ul) ?_; intro v hv; cbv)
   (refine E_cx hE (c_r2Add y.1 y.2 false b yb hb yl2 hlb3) ?_; intro w hw; cbv)
   have ev : v = r.1 := by
    have k : v = ((wsum x.1 (lv x.2) u.1 (lv u.2)).1, lim (wsum x.1 (lv x.2) u.1 (lv u.2)).2) := hv;rw [k, eP, ex, hu, dZ, dZ, f1]
   have ew : w = r.2 := by
    have k : w = ((wsum y.1 (lv y.2) false (lv b)).1, lim (wsum y.1 (lv y.2) false (lv b)).2) := hw;rw [k, eP, ey, dZ, wb, f2]
   exact ⟨⟨congrArg Prod.fst ev, congrArg Prod.snd ev, trivial⟩, ⟨congrArg Prod.fst ew, congrArg Prod.snd ew, trivial⟩, trivial⟩
 · have z : lv a % lv b = 0 := by
    by_cases z : lv a % lv b = 0
    · exact z
    · rw [if_neg z] at hs;subst hE hz1 hs;exact absurd g (by decide)
   obtain ⟨f1, f2⟩ := r0 z;have ex2 : x = r.1 := ex.trans f1;have ey2 : y = r.2 := by rw [ey, z]; exact f2
   exact ⟨⟨congrArg Prod.fst ex2, congrArg Prod.snd ex2, trivial⟩, ⟨congrArg Prod.fst ey2, congrArg Prod.snd ey2, trivial⟩, trivial⟩
theorem aIO (na : Bool) (a : List Int) (nb : Bool) (b : List Int) (hnb : nb = false) (ha : Lb a) (hb : Lb b) (hla : a.length ≤ 90000) (hlb : b.length ≤ 90000) (hb0 : lv b ≠ 0) :
 ∃ t : (Bool × List Int) × (Bool × List Int), t = (whN (wv na a / (lv b : Int)), whN (wv na a % (lv b : Int))) ∧
  aC Tryz.prog 149 [.agg [.bool (.s na), .sli .u32 a], .agg [.bool (.s nb), .sli .u32 b]] (.tup [.agg [.bool (.s t.1.1), .sli .u32 t.1.2], .agg [.bool (.s t.2.1), .sli .u32 t.2.2], .bool (.s true)]) := by
 subst hnb;cases na
 · obtain ⟨t, ht, h⟩ := aCO false a false b rfl rfl ha hb (by omega) (by omega) hb0;exact ⟨t, ht, h⟩
 · obtain ⟨t, ht, h⟩ := aNG true a false b rfl rfl ha hb hla hlb hb0;exact ⟨t, ht, h⟩
theorem aDY {p : Bool × Nat × Int} (hp : DyC p) {x : Bool × List Int × Int} (hx : x = dyL p) : dyMake x.1 (lv x.2.1) x.2.2 = p ∧ Lb x.2.1 ∧ (-4194304 ≤ x.2.2 ∧ x.2.2 ≤ 4194304) := by
 have e : -4194304 ≤ p.2.2 ∧ p.2.2 ≤ 4194304 := by
  rcases hp with h | h
  · rw [h]; exact ⟨by decide, by decide⟩
  · exact h.2
 rw [hx];refine ⟨?_, lim_lb _, e⟩;show dyMake p.1 (lv (lim p.2.1)) p.2.2 = p;rw [aJ]; exact aEE hp
theorem aMO (p : Bool × Nat × Int) (hp : DyC p) (x : Bool × List Int × Int) (hx : x = dyL p) (xl : x.2.1.length ≤ 100000) (n : Int) (hn : -16777216 ≤ n) (hn2 : n ≤ 16777216) :
 ∃ t : Bool × List Int × Int, t = dyL (dyMake p.1 p.2.1 (p.2.2 + n)) ∧ aC Tryz.prog 185 [.agg [.bool (.s x.1), .sli .u32 x.2.1, .int .i64 (.s x.2.2)], .int .i64 (.s n)] (.agg [.bool (.s t.1), .sli .u32 t.2.1, .int .i64 (.s t.2.2)]) := by
 refine ⟨_, rfl, ?_⟩;generalize hr : dyL (dyMake p.1 p.2.1 (p.2.2 + n)) = r;obtain ⟨self, xb, xe0⟩ := aDY hp hx;have xe : -9223372036854775808 ≤ x.2.2 ∧ x.2.2 < 9223372036854775808 := by omega
 have xl : x.2.1.length ≤ 125000 := by omega
 have xp : x.2.2 = p.2.2 := by rw [hx]; rfl
 have fin : dyL (dyMake x.1 (lv x.2.1) (p.2.2 + n)) = r := by
  have e1 : x.1 = p.1 := by rw [hx]; rfl
  have e2 : lv x.2.1 = p.2.1 := by rw [hx]; exact aJ _
  rw [e1, e2, hr]
 have pe : -4194304 ≤ p.2.2 ∧ p.2.2 ≤ 4194304 := by rw [hx] at xe0; exact xe0
 have add : IntKind.i64.wrap (p.2.2 + n) = p.2.2 + n := wi64_in (by omega) (by omega);have ae : -9223372036854775808 ≤ p.2.2 + n ∧ p.2.2 + n < 9223372036854775808 := by omega
 refine callsA_o Tryz.func185 fun E hE lp hl' => ?_
 cbv
 (refine E_cx hE (dP x.1 x.2.1 x.2.2 xb xl xe) ?_; intro y hy; cbv)
 have y0 : y = x := by have k : y = dyL (dyMake x.1 (lv x.2.1) x.2.2) := hy; rw [k, self]; exact hx.symm
 clear hy;subst y0;refine fD hE (show E.cmp .gtr n 16777216 = false by subst hE; exact Az (by omega)) ?_; cbv;refine fD hE (show E.cmp .lss n (-16777216) = false by subst hE; exact Az (by omega)) ?_; cbv;have ea : E.bin .add .i64 y.2.2 n = p.2.2 + n := by rw [xp]; subst hE; exact add
 have ye : -9223372036854775808 ≤ E.bin .add .i64 y.2.2 n ∧ E.bin .add .i64 y.2.2 n < 9223372036854775808 := by rw [ea]; exact ae
 (refine E_cx hE (dP y.1 y.2.1 (E.bin .add .i64 y.2.2 n) xb xl ye) ?_; intro z hz; cbv)
 have k : z = r := by have k : z = dyL (dyMake y.1 (lv y.2.1) (E.bin .add .i64 y.2.2 n)) := hz; rw [k, ea, fin]
 rw [k]; exact ⟨rfl, rfl, rfl, trivial⟩
theorem aBQ {p : Bool × Nat × Int} (hp : DyC p) (h : ¬ 0 ≤ p.2.2) : wv p.1 (lim p.2.1) / ((2 ^ (-p.2.2).toNat : Nat) : Int) = dM p := by
 unfold dM wv;rw [if_neg h, aJ];have e : ((2 ^ (-p.2.2).toNat : Nat) : Int) = 2 ^ (-p.2.2).toNat := by rw [Da]; rfl
 split
 · rcases hp with k | k
   · rw [k] at h; exact absurd (by decide) h
   · rw [e, sM k.1 (by omega)]
 · rw [e, Dp, Da]; rfl
set_option maxHeartbeats 1000000 in
theorem aJE (p : Bool × Nat × Int) (hp : DyC p) (x : Bool × List Int × Int) (hx : x = dyL p) (xl0 : x.2.1.length ≤ 1000) (pe : -20000 ≤ p.2.2 ∧ p.2.2 ≤ 20000) :
 ∃ t : Bool × List Int, t = whN (dM p) ∧ aC Tryz.prog 184 [.agg [.bool (.s x.1), .sli .u32 x.2.1, .int .i64 (.s x.2.2)]] (.agg [.bool (.s t.1), .sli .u32 t.2]) := by
 refine ⟨_, rfl, ?_⟩;generalize hr : whN (dM p) = r;obtain ⟨self, xb, xe0⟩ := aDY hp hx;have xe : -9223372036854775808 ≤ x.2.2 ∧ x.2.2 < 9223372036854775808 := by omega
 have xl : x.2.1.length ≤ 125000 := by omega
 have pl_ : (lim p.2.1).length ≤ 1000 := by rw [hx] at xl0; exact xl0
 have plen : x.2.1.length < 33554432 := by omega
 have x1 : x.1 = p.1 := by rw [hx]; rfl
 have x2 : x.2.1 = lim p.2.1 := by rw [hx]; rfl
 have x3 : x.2.2 = p.2.2 := by rw [hx]; rfl
 have up : 0 ≤ p.2.2 → ∀ t : List Int, t = (if p.2.2 < 1 then lim (lv (lim p.2.1)) else if 16777216 < p.2.2 then [] else lim (lv (lim p.2.1) * 2 ^ p.2.2.toNat)) → Lb t ∧ t.length ≤ 268435456 ∧ ∀ u : Bool × List Int, u = (p.1 && decide (lv t ≠ 0), lim (lv t)) → u = r := by
  intro h t ht;have e : t = lim (p.2.1 * 2 ^ p.2.2.toNat) := by
   rw [ht, aJ];by_cases z : p.2.2 < 1
   · rw [if_pos z, show p.2.2.toNat = 0 by omega, Ct, By]
   · rw [if_neg z, if_neg (by omega)]
  refine ⟨by rw [e]; exact lim_lb _, ?_, fun u hu => ?_⟩
  · rw [e]; have := aAX (n := p.2.2.toNat) pl_; omega
  · rw [hu, e, aJ, cS, ← hr];unfold dM;rw [if_pos h]
 have dn : ¬ 0 ≤ p.2.2 → ∀ n : Int, n = -p.2.2 → ∀ t : List Int, t = (if n < 1 then lim (lv [(1 : Int)]) else if 16777216 < n then [] else lim (lv [(1 : Int)] * 2 ^ n.toNat)) → Lb t ∧ t.length ≤ 268435456 ∧
  ∀ u : Bool × List Int, u = (false && decide (lv t ≠ 0), lim (lv t)) → u.1 = false ∧ Lb u.2 ∧ u.2.length ≤ 90000 ∧ lv u.2 ≠ 0 ∧ whN (wv p.1 (lim p.2.1) / (lv u.2 : Int)) = r := by
  intro h n hn t ht;have e : t = lim (2 ^ (-p.2.2).toNat) := by
   rw [ht, if_neg (by omega), if_neg (by omega), hn];show lim (1 * 2 ^ (-p.2.2).toNat) = _;rw [Dv]
  have l : (lim (2 ^ (-p.2.2).toNat)).length ≤ 1001 := by
   have h2 : (lim 1).length ≤ 1 := lim_length_le (by decide);have h1 := aAX (n := (-p.2.2).toNat) h2;rw [Dv] at h1;omega
  refine ⟨by rw [e]; exact lim_lb _, by rw [e]; omega, fun u hu => ?_⟩;have u2 : u = (false, lim (2 ^ (-p.2.2).toNat)) := by rw [hu, e, aJ]; rfl
  rw [u2];dsimp only;rw [aJ, aBQ hp h];exact ⟨rfl, lim_lb _, by omega, by have := Bf (-p.2.2).toNat; omega, hr⟩
 have one : Lb [(1 : Int)] ∧ [(1 : Int)].length < 33554432 := ⟨Lb.cons (by decide) (by decide) Lb.nil, by decide⟩
 have pl2 : x.2.1.length ≤ 90000 := by omega
 rw [← x1, ← x2, ← x3] at up dn;have neg : -p.2.2 = IntKind.i64.wrap (-p.2.2) := by rw [wi64_in (by omega) (by omega)]
 refine callsA_o Tryz.func184 fun E hE lp hl' => ?_
 cbv
 (refine E_cx hE (dP x.1 x.2.1 x.2.2 xb xl xe) ?_; intro y hy; cbv)
 have y0 : y = x := by have k : y = dyL (dyMake x.1 (lv x.2.1) x.2.2) := hy; rw [k, self]; exact hx.symm
 clear hy;subst y0;refine E_br hE ?_ ?_ <;> intro g <;> cbv
 · have g : 0 ≤ y.2.2 := by subst hE; exact Bt g
   (refine E_px hE (lW y.2.1 y.2.2 xb plen) ?_; intro t ht; cbv)
   obtain ⟨t1, t2, t3⟩ := up g t ht
   (refine E_px hE (c_r2Make y.1 t t1 t2) ?_; intro u hu; cbv)
   have k := t3 u hu;rw [k]; exact ⟨rfl, rfl, trivial⟩
 · have g : ¬ 0 ≤ y.2.2 := by subst hE; exact Ce g
   have es : E.sub [1] 0 1 = [1] := by subst hE; rfl
   have en : E.bin .sub .i64 0 y.2.2 = -y.2.2 := by subst hE; show IntKind.i64.wrap (0 - y.2.2) = _; rw [x3, Int.zero_sub, ← neg]
   (refine E_cx hE (lW (E.sub [1] 0 1) (E.bin .sub .i64 0 y.2.2) ?_ ?_) ?_; all_goals (first | (intro t ht; cbv) | ((rw [es]; first | exact one.1 | exact one.2))))
   have ht : t = _ := ht;rw [es] at ht;obtain ⟨t1, t2, t3⟩ := dn g _ en t ht
   (refine E_cx hE (c_r2Make false t t1 t2) ?_; intro u hu; cbv)
   obtain ⟨u1, u2, u3, u4, u5⟩ := t3 u hu
   (refine E_cx hE (aIO y.1 y.2.1 u.1 u.2 u1 xb u2 pl2 u3 u4) ?_; intro v hv; cbv)
   have k : v.1 = r := by
    have k : v = (whN (wv y.1 y.2.1 / (lv u.2 : Int)), whN (wv y.1 y.2.1 % (lv u.2 : Int))) := hv;rw [k]; exact u5
   exact ⟨congrArg Prod.fst k, congrArg Prod.snd k, trivial⟩
end
end Go.Proofs.YtmlcglmbjjmijaaGreatDoor.Ev
