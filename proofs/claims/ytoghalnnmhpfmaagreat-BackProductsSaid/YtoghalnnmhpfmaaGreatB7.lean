/- Texts of the proof, joined: R22 R26 R27 C31 Pu26 Pu28a Pu28 Pu29 Pu30 Pu31 Pu32 Pu33 Pu35 Pu36 Br13 R28 C24a C25 Pu37 C26a C32 Br14 R29 R30 C33 -/
import Derived.Test.YtoghalnnmhpfmaaGreatB6
set_option linter.unusedVariables false
set_option linter.unusedSimpArgs false

/- Contracts of the reference: products and quotients of intervals. Printed by gen.py. -/
namespace Go.Proofs.YtoghalnnmhpfmaaGreat.Ev
open Go Go.Proofs
set_option linter.unusedVariables false
set_option linter.unusedSimpArgs false

theorem slc_of {L : List (List AV)} {d : List AV} {l : List Num} {n : Int} (hn : n = l.length) (h : L = l.map Num.cells) : sle2 (.slc 4 (.l n) (fun i => L.getD ((0 : Int).toNat + i) d)) (.slc 4 (.s n) (fun i => Num.cells (l.getD i Num.zero))) := by
  have r : ∀ {x : Num}, sleL sle0 x.cells x.cells := ⟨⟨rfl, rfl⟩, rfl, ⟨rfl, rfl⟩, ⟨rfl, rfl⟩, trivial⟩
  refine ⟨rfl, rfl, fun i hi => ?_⟩
  have hi' : i < l.length := by
    have : i < n.toNat := hi
    omega
  have e : L.getD ((0 : Int).toNat + i) d = (l.getD i Num.zero).cells := by
    rw [h, show (0 : Int).toNat + i = i by simp]
    simp [List.getD, List.getElem?_eq_getElem hi']
  show sleL sle0 (L.getD ((0 : Int).toNat + i) d) _
  rw [e]; exact r
theorem corners_oks {F : Num → Num → Bool → Num} {a b : Iv} {u : Bool} (h : ∀ x y, x.ok → y.ok → (F x y u).ok) (fa : a.lo.ok ∧ a.hi.ok) (fb : b.lo.ok ∧ b.hi.ok) : ∀ x ∈ [F a.lo b.lo u, F a.lo b.hi u, F a.hi b.lo u, F a.hi b.hi u], x.ok := by
  intro x hx
  simp only [List.mem_cons, List.not_mem_nil, or_false] at hx
  rcases hx with rfl | rfl | rfl | rfl
  · exact h _ _ fa.1 fb.1
  · exact h _ _ fa.1 fb.2
  · exact h _ _ fa.2 fb.1
  · exact h _ _ fa.2 fb.2

set_option maxRecDepth 20000 in
theorem c_r9Mul (x y : Iv) (x1 : x.lo.ok) (x2 : x.hi.ok) (y1 : y.lo.ok) (y2 : y.hi.ok) : ∃ t : Iv, t = Iv.mul x y ∧ CallsA Tryz.prog 70 [x.av, y.av] t.av := by
  rw [← Iv.rmul_eq]
  refine ⟨_, rfl, ?_⟩
  generalize hr : Iv.rmul x y = r
  have emp : (x.fair.empty || y.fair.empty) = true → r = Iv.none := by intro h; rw [← hr]; unfold Iv.rmul; rw [if_pos h]
  have cor : ¬ (x.fair.empty || y.fair.empty) = true → r = Iv.corners Num.mul x.fair y.fair := by intro h; rw [← hr]; unfold Iv.rmul; rw [if_neg h]
  have fx := Iv.fair_oks x1 x2
  have fy := Iv.fair_oks y1 y2
  clear hr
  refine callsA_of hG hm Tryz.func70 (by kernel_rfl) ?_
  intro E hE lp hl'
  cbv
  (apply E_callX hE (c_r8Fair ⟨_, ⟨_, _, _, _⟩, ⟨_, _, _, _⟩⟩ ?_ ?_); (case hf => rfl); (case hc => (cbv <;> trivial)); (case hle => exact u_up); all_goals (first | (intro a ha; cbv) | (first | exact x1 | exact x2)))
  (apply E_callX hE (c_r8Fair ⟨_, ⟨_, _, _, _⟩, ⟨_, _, _, _⟩⟩ ?_ ?_); (case hf => rfl); (case hc => (cbv <;> trivial)); (case hle => exact u_up); all_goals (first | (intro b hb; cbv) | (first | exact y1 | exact y2)))
  replace ha : a = x.fair := ha
  replace hb : b = y.fair := hb
  rw [← ha] at emp cor fx
  rw [← hb] at emp cor fy
  clear ha hb
  refine E_br hE (fun g1 => ?_) (fun g1 => ?_) <;> cbv
  · (apply E_callX hE (c_r8None); (case hf => rfl); (case hc => (cbv <;> trivial)); (case hle => exact u_up); all_goals (first | (intro t ht; cbv) | (assumption)))
    have T : t = r := by rw [emp (by rw [g1]; rfl)]; exact ht
    rw [T]; exact ⟨rfl, rfl, rfl, rfl, rfl, rfl, rfl, rfl, rfl, trivial⟩
  refine E_br hE (fun g2 => ?_) (fun g2 => ?_) <;> cbv
  · (apply E_callX hE (c_r8None); (case hf => rfl); (case hc => (cbv <;> trivial)); (case hle => exact u_up); all_goals (first | (intro t ht; cbv) | (assumption)))
    have T : t = r := by rw [emp (by rw [g1, g2]; rfl)]; exact ht
    rw [T]; exact ⟨rfl, rfl, rfl, rfl, rfl, rfl, rfl, rfl, rfl, trivial⟩
  have C := cor (by rw [g1, g2]; decide)
  clear emp cor
  refine E_rounds hE hG hm hl' 5 ?_
  cbv
  (apply E_pcallX hE (k_r6Mul ⟨_, _, _, _⟩ ⟨_, _, _, _⟩ false ?_ ?_); (case hm => rfl); (case hle => exact u_up); all_goals (first | (intro s1 es1; cbv) | (first | exact fx.1 | exact fx.2 | exact fy.1 | exact fy.2)))
  (apply E_pcallX hE (k_r6Mul ⟨_, _, _, _⟩ ⟨_, _, _, _⟩ true ?_ ?_); (case hm => rfl); (case hle => exact u_up); all_goals (first | (intro t1 et1; cbv) | (first | exact fx.1 | exact fx.2 | exact fy.1 | exact fy.2)))
  (apply E_pcallX hE (k_r6Mul ⟨_, _, _, _⟩ ⟨_, _, _, _⟩ false ?_ ?_); (case hm => rfl); (case hle => exact u_up); all_goals (first | (intro s2 es2; cbv) | (first | exact fx.1 | exact fx.2 | exact fy.1 | exact fy.2)))
  (apply E_pcallX hE (k_r6Mul ⟨_, _, _, _⟩ ⟨_, _, _, _⟩ true ?_ ?_); (case hm => rfl); (case hle => exact u_up); all_goals (first | (intro t2 et2; cbv) | (first | exact fx.1 | exact fx.2 | exact fy.1 | exact fy.2)))
  (apply E_pcallX hE (k_r6Mul ⟨_, _, _, _⟩ ⟨_, _, _, _⟩ false ?_ ?_); (case hm => rfl); (case hle => exact u_up); all_goals (first | (intro s3 es3; cbv) | (first | exact fx.1 | exact fx.2 | exact fy.1 | exact fy.2)))
  (apply E_pcallX hE (k_r6Mul ⟨_, _, _, _⟩ ⟨_, _, _, _⟩ true ?_ ?_); (case hm => rfl); (case hle => exact u_up); all_goals (first | (intro t3 et3; cbv) | (first | exact fx.1 | exact fx.2 | exact fy.1 | exact fy.2)))
  (apply E_pcallX hE (k_r6Mul ⟨_, _, _, _⟩ ⟨_, _, _, _⟩ false ?_ ?_); (case hm => rfl); (case hle => exact u_up); all_goals (first | (intro s4 es4; cbv) | (first | exact fx.1 | exact fx.2 | exact fy.1 | exact fy.2)))
  (apply E_pcallX hE (k_r6Mul ⟨_, _, _, _⟩ ⟨_, _, _, _⟩ true ?_ ?_); (case hm => rfl); (case hle => exact u_up); all_goals (first | (intro t4 et4; cbv) | (first | exact fx.1 | exact fx.2 | exact fy.1 | exact fy.2)))
  have S : [s1, s2, s3, s4] = [Num.mul a.lo b.lo false, Num.mul a.lo b.hi false, Num.mul a.hi b.lo false, Num.mul a.hi b.hi false] := by rw [es1, es2, es3, es4]
  have U : [t1, t2, t3, t4] = [Num.mul a.lo b.lo true, Num.mul a.lo b.hi true, Num.mul a.hi b.lo true, Num.mul a.hi b.hi true] := by rw [et1, et2, et3, et4]
  have os : ∀ x ∈ [s1, s2, s3, s4], x.ok := by rw [S]; exact corners_oks (F := Num.mul) (fun x y hx hy => Num.mul_ok hx hy _) fx fy
  have ot : ∀ x ∈ [t1, t2, t3, t4], x.ok := by rw [U]; exact corners_oks (F := Num.mul) (fun x y hx hy => Num.mul_ok hx hy _) fx fy
  clear es1 es2 es3 es4 et1 et2 et3 et4
  (apply E_callX hE (c_rLeast [s1, s2, s3, s4] 4 rfl (by decide) os); (case hf => rfl); (case hc => (subst hE; cbv <;> trivial)); (case hle => exact (by subst hE; exact ⟨slc_of (l := [s1, s2, s3, s4]) rfl rfl, trivial⟩)); all_goals (first | (intro lo elo; cbv) | (assumption)))
  (apply E_callX hE (c_rMost [t1, t2, t3, t4] 4 rfl (by decide) ot); (case hf => rfl); (case hc => (subst hE; cbv <;> trivial)); (case hle => exact (by subst hE; exact ⟨slc_of (l := [t1, t2, t3, t4]) rfl rfl, trivial⟩)); all_goals (first | (intro hi ehi; cbv) | (assumption)))
  have lok : lo.ok := by rw [elo]; exact (Num.least_spec _ os).2.1
  have hok : hi.ok := by rw [ehi]; exact (Num.most_spec _ ot).2.1
  (apply E_callX hE (c_r8Make ⟨_, _, _, _⟩ ⟨_, _, _, _⟩ ?_ ?_); (case hf => rfl); (case hc => (cbv <;> trivial)); (case hle => exact u_up); all_goals (first | (intro t ht; cbv) | (first | exact lok | exact hok)))
  have T : t = r := by
    rw [C]
    unfold Iv.corners
    rw [← S, ← U, ← elo, ← ehi]; exact ht
  rw [T]; exact ⟨rfl, rfl, rfl, rfl, rfl, rfl, rfl, rfl, rfl, trivial⟩

set_option maxRecDepth 20000 in
theorem c_r9whole (a b : Iv) (fx : a.lo.ok ∧ a.hi.ok) (fy : b.lo.ok ∧ b.hi.ok) : ∃ t : Iv, t = Iv.corners Num.div a b ∧ CallsA Tryz.prog 137 [a.av, b.av] t.av := by
  refine ⟨_, rfl, ?_⟩
  generalize hr : Iv.corners Num.div a b = r
  have C := hr.symm
  clear hr
  refine callsA_of hG hm Tryz.func137 (by kernel_rfl) ?_
  intro E hE lp hl'
  cbv
  refine E_rounds hE hG hm hl' 5 ?_
  cbv
  (apply E_pcallX hE (c_r7Div ⟨_, _, _, _⟩ ⟨_, _, _, _⟩ false ?_ ?_); (case hm => rfl); (case hle => exact u_up); all_goals (first | (intro s1 es1; cbv) | (first | exact fx.1 | exact fx.2 | exact fy.1 | exact fy.2)))
  (apply E_pcallX hE (c_r7Div ⟨_, _, _, _⟩ ⟨_, _, _, _⟩ true ?_ ?_); (case hm => rfl); (case hle => exact u_up); all_goals (first | (intro t1 et1; cbv) | (first | exact fx.1 | exact fx.2 | exact fy.1 | exact fy.2)))
  (apply E_pcallX hE (c_r7Div ⟨_, _, _, _⟩ ⟨_, _, _, _⟩ false ?_ ?_); (case hm => rfl); (case hle => exact u_up); all_goals (first | (intro s2 es2; cbv) | (first | exact fx.1 | exact fx.2 | exact fy.1 | exact fy.2)))
  (apply E_pcallX hE (c_r7Div ⟨_, _, _, _⟩ ⟨_, _, _, _⟩ true ?_ ?_); (case hm => rfl); (case hle => exact u_up); all_goals (first | (intro t2 et2; cbv) | (first | exact fx.1 | exact fx.2 | exact fy.1 | exact fy.2)))
  (apply E_pcallX hE (c_r7Div ⟨_, _, _, _⟩ ⟨_, _, _, _⟩ false ?_ ?_); (case hm => rfl); (case hle => exact u_up); all_goals (first | (intro s3 es3; cbv) | (first | exact fx.1 | exact fx.2 | exact fy.1 | exact fy.2)))
  (apply E_pcallX hE (c_r7Div ⟨_, _, _, _⟩ ⟨_, _, _, _⟩ true ?_ ?_); (case hm => rfl); (case hle => exact u_up); all_goals (first | (intro t3 et3; cbv) | (first | exact fx.1 | exact fx.2 | exact fy.1 | exact fy.2)))
  (apply E_pcallX hE (c_r7Div ⟨_, _, _, _⟩ ⟨_, _, _, _⟩ false ?_ ?_); (case hm => rfl); (case hle => exact u_up); all_goals (first | (intro s4 es4; cbv) | (first | exact fx.1 | exact fx.2 | exact fy.1 | exact fy.2)))
  (apply E_pcallX hE (c_r7Div ⟨_, _, _, _⟩ ⟨_, _, _, _⟩ true ?_ ?_); (case hm => rfl); (case hle => exact u_up); all_goals (first | (intro t4 et4; cbv) | (first | exact fx.1 | exact fx.2 | exact fy.1 | exact fy.2)))
  have S : [s1, s2, s3, s4] = [Num.div a.lo b.lo false, Num.div a.lo b.hi false, Num.div a.hi b.lo false, Num.div a.hi b.hi false] := by rw [es1, es2, es3, es4]
  have U : [t1, t2, t3, t4] = [Num.div a.lo b.lo true, Num.div a.lo b.hi true, Num.div a.hi b.lo true, Num.div a.hi b.hi true] := by rw [et1, et2, et3, et4]
  have os : ∀ x ∈ [s1, s2, s3, s4], x.ok := by rw [S]; exact corners_oks (F := Num.div) (fun x y hx hy => Num.div_ok hx hy _) fx fy
  have ot : ∀ x ∈ [t1, t2, t3, t4], x.ok := by rw [U]; exact corners_oks (F := Num.div) (fun x y hx hy => Num.div_ok hx hy _) fx fy
  clear es1 es2 es3 es4 et1 et2 et3 et4
  (apply E_callX hE (c_rLeast [s1, s2, s3, s4] 4 rfl (by decide) os); (case hf => rfl); (case hc => (subst hE; cbv <;> trivial)); (case hle => exact (by subst hE; exact ⟨slc_of (l := [s1, s2, s3, s4]) rfl rfl, trivial⟩)); all_goals (first | (intro lo elo; cbv) | (assumption)))
  (apply E_callX hE (c_rMost [t1, t2, t3, t4] 4 rfl (by decide) ot); (case hf => rfl); (case hc => (subst hE; cbv <;> trivial)); (case hle => exact (by subst hE; exact ⟨slc_of (l := [t1, t2, t3, t4]) rfl rfl, trivial⟩)); all_goals (first | (intro hi ehi; cbv) | (assumption)))
  have lok : lo.ok := by rw [elo]; exact (Num.least_spec _ os).2.1
  have hok : hi.ok := by rw [ehi]; exact (Num.most_spec _ ot).2.1
  (apply E_callX hE (c_r8Make ⟨_, _, _, _⟩ ⟨_, _, _, _⟩ ?_ ?_); (case hf => rfl); (case hc => (cbv <;> trivial)); (case hle => exact u_up); all_goals (first | (intro t ht; cbv) | (first | exact lok | exact hok)))
  have T : t = r := by
    rw [C]
    unfold Iv.corners
    rw [← S, ← U, ← elo, ← ehi]; exact ht
  rw [T]; exact ⟨rfl, rfl, rfl, rfl, rfl, rfl, rfl, rfl, rfl, trivial⟩

theorem half_t {n e : Num} (h : n.sign = e.sign) : Iv.half n e = Iv.make (Num.div n e false) (Num.inf false) := by unfold Iv.half; rw [if_pos h]
theorem half_f {n e : Num} (h : ¬ n.sign = e.sign) : Iv.half n e = Iv.make (Num.inf true) (Num.div n e true) := by unfold Iv.half; rw [if_neg h]
theorem ivEq_of {E : Env} (hE : E = realE Tryz.prog) (b p : Iv) : E.band (E.beq b.empty p.empty) (E.band (E.cmp .eql b.lo.kind p.lo.kind) (E.band (E.beq b.lo.neg p.lo.neg) (E.band (E.cmp .eql b.lo.m p.lo.m) (E.band (E.cmp .eql b.lo.e p.lo.e) (E.band (E.cmp .eql b.hi.kind p.hi.kind) (E.band (E.beq b.hi.neg p.hi.neg) (E.band (E.cmp .eql b.hi.m p.hi.m) (E.cmp .eql b.hi.e p.hi.e)))))))) = decide (b = p) := by
  subst hE
  rw [Bool.eq_iff_iff]
  simp only [realE, cmp_eql, Bool.and_eq_true, decide_eq_true_eq, Iv.eq_iff, Num.eq_iff, beq_iff_eq]
  constructor
  · rintro ⟨h0, h1, h2, h3, h4, h5, h6, h7, h8⟩; exact ⟨h0, ⟨h1, h2, h3, h4⟩, h5, h6, h7, h8⟩
  · rintro ⟨h0, ⟨h1, h2, h3, h4⟩, h5, h6, h7, h8⟩; exact ⟨h0, h1, h2, h3, h4, h5, h6, h7, h8⟩
theorem c_r9Div (x y : Iv) (x1 : x.lo.ok) (x2 : x.hi.ok) (y1 : y.lo.ok) (y2 : y.hi.ok) : ∃ t : Iv, t = Iv.div x y ∧ CallsA Tryz.prog 106 [x.av, y.av] t.av := by
  rw [← Iv.rdivs_eq x1 x2 y1 y2]
  refine ⟨_, rfl, ?_⟩
  generalize hr : Iv.rdivs x y = r
  have D := Iv.rdivs_f hr
  have fa := Iv.fair_oks x1 x2
  have fb := Iv.fair_oks y1 y2
  clear hr
  refine callsA_of hG hm Tryz.func106 (by kernel_rfl) ?_
  intro E hE lp hl'
  cbv
  (apply E_callX hE (c_r8Fair ⟨_, ⟨_, _, _, _⟩, ⟨_, _, _, _⟩⟩ ?_ ?_); (case hf => rfl); (case hc => (cbv <;> trivial)); (case hle => exact u_up); all_goals (first | (intro a ha; cbv) | (first | exact x1 | exact x2)))
  (apply E_callX hE (c_r8Fair ⟨_, ⟨_, _, _, _⟩, ⟨_, _, _, _⟩⟩ ?_ ?_); (case hf => rfl); (case hc => (cbv <;> trivial)); (case hle => exact u_up); all_goals (first | (intro b hb; cbv) | (first | exact y1 | exact y2)))
  replace ha : a = x.fair := ha
  replace hb : b = y.fair := hb
  rw [← ha] at D fa
  rw [← hb] at D fb
  clear ha hb
  refine E_br hE (fun g1 => ?_) (fun g1 => ?_) <;> cbv
  · (apply E_callX hE (c_r8None); (case hf => rfl); (case hc => (cbv <;> trivial)); (case hle => exact u_up); all_goals (first | (intro t ht; cbv) | (assumption)))
    have T : t = r := by rw [D.emp (by rw [g1]; rfl)]; exact ht
    rw [T]; exact ⟨rfl, rfl, rfl, rfl, rfl, rfl, rfl, rfl, rfl, trivial⟩
  refine E_br hE (fun g2 => ?_) (fun g2 => ?_) <;> cbv
  · (apply E_callX hE (c_r8None); (case hf => rfl); (case hc => (cbv <;> trivial)); (case hle => exact u_up); all_goals (first | (intro t ht; cbv) | (assumption)))
    have T : t = r := by rw [D.emp (by rw [g1, g2]; rfl)]; exact ht
    rw [T]; exact ⟨rfl, rfl, rfl, rfl, rfl, rfl, rfl, rfl, rfl, trivial⟩
  have ne : (a.empty || b.empty) = false := by rw [g1, g2]; rfl
  (apply E_pcallX hE (c_r8Point ⟨0, false, 0, 0⟩ ?_); (case hm => rfl); (case hle => exact u_up); all_goals (first | (intro p hp; cbv) | (exact Num.zero_ok)))
  replace hp : p = Iv.point Num.zero := hp
  have EQ := ivEq_of hE b p
  refine E_br hE (fun g3 => ?_) (fun g3 => ?_) <;> cbv
  · have bp : b = Iv.point Num.zero := (of_decide_eq_true (EQ.symm.trans g3)).trans hp
    clear EQ g3
    (apply E_callX hE (c_r8None); (case hf => rfl); (case hc => (cbv <;> trivial)); (case hle => exact u_up); all_goals (first | (intro t ht; cbv) | (assumption)))
    have T : t = r := by rw [D.ptz bp]; exact ht
    rw [T]; exact ⟨rfl, rfl, rfl, rfl, rfl, rfl, rfl, rfl, rfl, trivial⟩
  have nb : b ≠ Iv.point Num.zero := fun k => (of_decide_eq_false (EQ.symm.trans g3)) (k.trans hp.symm)
  clear EQ g3
  (apply E_callX hE (c_r8Has ⟨_, ⟨_, _, _, _⟩, ⟨_, _, _, _⟩⟩ ⟨0, false, 0, 0⟩ ?_ ?_ ?_); (case hf => rfl); (case hc => (cbv <;> trivial)); (case hle => exact u_up); all_goals (first | (intro z hz; cbv) | (first | exact Num.zero_ok | exact fb.1 | exact fb.2)))
  replace hz : z = Iv.has b Num.zero := hz
  refine E_br hE (fun g4 => ?_) (fun g4 => ?_) <;> cbv
  · have zf : Iv.has b Num.zero = false := by rw [← hz]; subst hE; have k : (!z) = true := g4; simpa using k
    (apply E_callX hE (c_r9whole ⟨_, ⟨_, _, _, _⟩, ⟨_, _, _, _⟩⟩ ⟨_, ⟨_, _, _, _⟩, ⟨_, _, _, _⟩⟩ ?_ ?_); (case hf => rfl); (case hc => (cbv <;> trivial)); (case hle => exact u_up); all_goals (first | (intro t ht; cbv) | (first | exact fa | exact fb)))
    have T : t = r := by rw [D.who ne nb zf]; exact ht
    rw [T]; exact ⟨rfl, rfl, rfl, rfl, rfl, rfl, rfl, rfl, rfl, trivial⟩
  have zt : Iv.has b Num.zero = true := by rw [← hz]; subst hE; have k : (!z) = false := g4; simpa using k
  clear hz g4
  (apply E_callX hE (c_rSign ⟨_, _, _, _⟩); (case hf => rfl); (case hc => (cbv <;> trivial)); (case hle => exact u_up); all_goals (first | (intro l0 hl0; cbv) | (assumption)))
  refine E_nm hE (fun l1 hl1 => ?_)
  have hl : l1 = b.lo.sign := hl1.trans hl0
  cbv
  (apply E_callX hE (c_rSign ⟨_, _, _, _⟩); (case hf => rfl); (case hc => (cbv <;> trivial)); (case hle => exact u_up); all_goals (first | (intro h0 hh0; cbv) | (assumption)))
  refine E_nm hE (fun h1 hh1 => ?_)
  have hh : h1 = b.hi.sign := hh1.trans hh0
  cbv
  (apply E_callX hE (c_r8Has ⟨_, ⟨_, _, _, _⟩, ⟨_, _, _, _⟩⟩ ⟨0, false, 0, 0⟩ ?_ ?_ ?_); (case hf => rfl); (case hc => (cbv <;> trivial)); (case hle => exact u_up); all_goals (first | (intro i hi; cbv) | (first | exact Num.zero_ok | exact fa.1 | exact fa.2)))
  replace hi : i = Iv.has a Num.zero := hi
  refine E_br hE (fun g5 => ?_) (fun g5 => ?_) <;> cbv
  · (apply E_callX hE (c_r8All); (case hf => rfl); (case hc => (cbv <;> trivial)); (case hle => exact u_up); all_goals (first | (intro t ht; cbv) | (assumption)))
    have T : t = r := by rw [D.all ne nb zt (.inl (by rw [← hi]; exact g5))]; exact ht
    rw [T]; exact ⟨rfl, rfl, rfl, rfl, rfl, rfl, rfl, rfl, rfl, trivial⟩
  have ni : ¬ Iv.has a Num.zero = true := by rw [← hi, g5]; decide
  clear hi g5
  refine E_br hE (fun g6 => ?_) (fun g6 => ?_) <;> cbv
  · refine E_br hE (fun g7 => ?_) (fun g7 => ?_) <;> cbv
    · (apply E_callX hE (c_r8All); (case hf => rfl); (case hc => (cbv <;> trivial)); (case hle => exact u_up); all_goals (first | (intro t ht; cbv) | (assumption)))
      have T : t = r := by rw [D.all ne nb zt (.inr ⟨by rw [← hl]; subst hE; exact lss_t g6, by rw [← hh]; subst hE; exact gtr_t g7⟩)]; exact ht
      rw [T]; exact ⟨rfl, rfl, rfl, rfl, rfl, rfl, rfl, rfl, rfl, trivial⟩
    have hn : ¬ (Iv.has a Num.zero = true ∨ (b.lo.sign < 0 ∧ 0 < b.hi.sign)) := fun k => k.elim ni (fun q => (by rw [← hh]; subst hE; exact gtr_f g7 : ¬ 0 < b.hi.sign) q.2)
    have H := D.hal ne nb zt hn
    clear D hn
    refine E_br hE (fun g8 => ?_) (fun g8 => ?_) <;> cbv
    · have hq0 :  b.hi.sign = 0 := by rw [← hh]; subst hE; exact eql_t g8
      (apply E_callX hE (c_rSign ⟨_, _, _, _⟩); (case hf => rfl); (case hc => (cbv <;> trivial)); (case hle => exact u_up); all_goals (first | (intro s0 hs0; cbv) | (assumption)))
      replace hs0 : s0 = a.lo.sign := hs0
      refine E_br hE (fun g10 => ?_) (fun g10 => ?_) <;> cbv
      · have hs1 :  a.lo.sign < 0 := by rw [← hs0]; subst hE; exact lss_t g10
        rw [if_pos hs1, if_pos hq0] at H
        (apply E_pcallX hE (c_rSign ⟨_, _, _, _⟩); (case hm => rfl); (case hle => exact u_up); all_goals (first | (intro sn hsn; cbv) | (assumption)))
        (apply E_pcallX hE (c_rSign ⟨_, _, _, _⟩); (case hm => rfl); (case hle => exact u_up); all_goals (first | (intro se hse; cbv) | (assumption)))
        replace hsn : sn = a.hi.sign := hsn
        replace hse : se = b.lo.sign := hse
        refine E_br hE (fun g9 => ?_) (fun g9 => ?_) <;> cbv
        · have HH := H.trans (half_t (by rw [← hsn, ← hse]; subst hE; exact eql_t g9))
          clear H
          (apply E_callX hE (c_r7Div ⟨_, _, _, _⟩ ⟨_, _, _, _⟩ false ?_ ?_); (case hf => rfl); (case hc => (cbv <;> trivial)); (case hle => exact u_up); all_goals (first | (intro q hq; cbv) | (first | exact fa.1 | exact fa.2 | exact fb.1 | exact fb.2)))
          (apply E_callX hE (c_rInf _); (case hf => rfl); (case hc => (cbv <;> trivial)); (case hle => exact u_up); all_goals (first | (intro f hf; cbv) | (assumption)))
          have qo : q.ok := by rw [show q = Num.div a.hi b.lo false from hq]; exact Num.div_ok (by first | exact fa.1 | exact fa.2 | exact fb.1 | exact fb.2) (by first | exact fa.1 | exact fa.2 | exact fb.1 | exact fb.2) _
          have fo : f.ok := by rw [show f = Num.inf false from hf]; exact Num.inf_ok _
          (apply E_callX hE (c_r8Make ⟨_, _, _, _⟩ ⟨_, _, _, _⟩ ?_ ?_); (case hf => rfl); (case hc => (cbv <;> trivial)); (case hle => exact u_up); all_goals (first | (intro t ht; cbv) | (first | exact qo | exact fo)))
          have T : t = r := by rw [HH, ← show q = Num.div a.hi b.lo false from hq, ← show f = Num.inf false from hf]; exact ht
          rw [T]; exact ⟨rfl, rfl, rfl, rfl, rfl, rfl, rfl, rfl, rfl, trivial⟩
        · have HH := H.trans (half_f (by rw [← hsn, ← hse]; subst hE; exact eql_f g9))
          clear H
          (apply E_pcallX hE (c_rInf _); (case hm => rfl); (case hle => exact u_up); all_goals (first | (intro f hf; cbv) | (assumption)))
          (apply E_pcallX hE (c_r7Div ⟨_, _, _, _⟩ ⟨_, _, _, _⟩ true ?_ ?_); (case hm => rfl); (case hle => exact u_up); all_goals (first | (intro q hq; cbv) | (first | exact fa.1 | exact fa.2 | exact fb.1 | exact fb.2)))
          have qo : q.ok := by rw [show q = Num.div a.hi b.lo true from hq]; exact Num.div_ok (by first | exact fa.1 | exact fa.2 | exact fb.1 | exact fb.2) (by first | exact fa.1 | exact fa.2 | exact fb.1 | exact fb.2) _
          have fo : f.ok := by rw [show f = Num.inf true from hf]; exact Num.inf_ok _
          (apply E_pcallX hE (c_r8Make ⟨_, _, _, _⟩ ⟨_, _, _, _⟩ ?_ ?_); (case hm => rfl); (case hle => exact u_up); all_goals (first | (intro t ht; cbv) | (first | exact qo | exact fo)))
          have T : t = r := by rw [HH, ← show q = Num.div a.hi b.lo true from hq, ← show f = Num.inf true from hf]; exact ht
          rw [T]; exact ⟨rfl, rfl, rfl, rfl, rfl, rfl, rfl, rfl, rfl, trivial⟩
      · have hs1 : ¬ a.lo.sign < 0 := by rw [← hs0]; subst hE; exact lss_f g10
        rw [if_neg hs1, if_pos hq0] at H
        (apply E_pcallX hE (c_rSign ⟨_, _, _, _⟩); (case hm => rfl); (case hle => exact u_up); all_goals (first | (intro sn hsn; cbv) | (assumption)))
        (apply E_pcallX hE (c_rSign ⟨_, _, _, _⟩); (case hm => rfl); (case hle => exact u_up); all_goals (first | (intro se hse; cbv) | (assumption)))
        replace hsn : sn = a.lo.sign := hsn
        replace hse : se = b.lo.sign := hse
        refine E_br hE (fun g9 => ?_) (fun g9 => ?_) <;> cbv
        · have HH := H.trans (half_t (by rw [← hsn, ← hse]; subst hE; exact eql_t g9))
          clear H
          (apply E_callX hE (c_r7Div ⟨_, _, _, _⟩ ⟨_, _, _, _⟩ false ?_ ?_); (case hf => rfl); (case hc => (cbv <;> trivial)); (case hle => exact u_up); all_goals (first | (intro q hq; cbv) | (first | exact fa.1 | exact fa.2 | exact fb.1 | exact fb.2)))
          (apply E_callX hE (c_rInf _); (case hf => rfl); (case hc => (cbv <;> trivial)); (case hle => exact u_up); all_goals (first | (intro f hf; cbv) | (assumption)))
          have qo : q.ok := by rw [show q = Num.div a.lo b.lo false from hq]; exact Num.div_ok (by first | exact fa.1 | exact fa.2 | exact fb.1 | exact fb.2) (by first | exact fa.1 | exact fa.2 | exact fb.1 | exact fb.2) _
          have fo : f.ok := by rw [show f = Num.inf false from hf]; exact Num.inf_ok _
          (apply E_callX hE (c_r8Make ⟨_, _, _, _⟩ ⟨_, _, _, _⟩ ?_ ?_); (case hf => rfl); (case hc => (cbv <;> trivial)); (case hle => exact u_up); all_goals (first | (intro t ht; cbv) | (first | exact qo | exact fo)))
          have T : t = r := by rw [HH, ← show q = Num.div a.lo b.lo false from hq, ← show f = Num.inf false from hf]; exact ht
          rw [T]; exact ⟨rfl, rfl, rfl, rfl, rfl, rfl, rfl, rfl, rfl, trivial⟩
        · have HH := H.trans (half_f (by rw [← hsn, ← hse]; subst hE; exact eql_f g9))
          clear H
          (apply E_pcallX hE (c_rInf _); (case hm => rfl); (case hle => exact u_up); all_goals (first | (intro f hf; cbv) | (assumption)))
          (apply E_pcallX hE (c_r7Div ⟨_, _, _, _⟩ ⟨_, _, _, _⟩ true ?_ ?_); (case hm => rfl); (case hle => exact u_up); all_goals (first | (intro q hq; cbv) | (first | exact fa.1 | exact fa.2 | exact fb.1 | exact fb.2)))
          have qo : q.ok := by rw [show q = Num.div a.lo b.lo true from hq]; exact Num.div_ok (by first | exact fa.1 | exact fa.2 | exact fb.1 | exact fb.2) (by first | exact fa.1 | exact fa.2 | exact fb.1 | exact fb.2) _
          have fo : f.ok := by rw [show f = Num.inf true from hf]; exact Num.inf_ok _
          (apply E_pcallX hE (c_r8Make ⟨_, _, _, _⟩ ⟨_, _, _, _⟩ ?_ ?_); (case hm => rfl); (case hle => exact u_up); all_goals (first | (intro t ht; cbv) | (first | exact qo | exact fo)))
          have T : t = r := by rw [HH, ← show q = Num.div a.lo b.lo true from hq, ← show f = Num.inf true from hf]; exact ht
          rw [T]; exact ⟨rfl, rfl, rfl, rfl, rfl, rfl, rfl, rfl, rfl, trivial⟩
    · have hq0 : ¬ b.hi.sign = 0 := by rw [← hh]; subst hE; exact eql_f g8
      (apply E_callX hE (c_rSign ⟨_, _, _, _⟩); (case hf => rfl); (case hc => (cbv <;> trivial)); (case hle => exact u_up); all_goals (first | (intro s0 hs0; cbv) | (assumption)))
      replace hs0 : s0 = a.lo.sign := hs0
      refine E_br hE (fun g10 => ?_) (fun g10 => ?_) <;> cbv
      · have hs1 :  a.lo.sign < 0 := by rw [← hs0]; subst hE; exact lss_t g10
        rw [if_pos hs1, if_neg hq0] at H
        (apply E_pcallX hE (c_rSign ⟨_, _, _, _⟩); (case hm => rfl); (case hle => exact u_up); all_goals (first | (intro sn hsn; cbv) | (assumption)))
        (apply E_pcallX hE (c_rSign ⟨_, _, _, _⟩); (case hm => rfl); (case hle => exact u_up); all_goals (first | (intro se hse; cbv) | (assumption)))
        replace hsn : sn = a.hi.sign := hsn
        replace hse : se = b.hi.sign := hse
        refine E_br hE (fun g9 => ?_) (fun g9 => ?_) <;> cbv
        · have HH := H.trans (half_t (by rw [← hsn, ← hse]; subst hE; exact eql_t g9))
          clear H
          (apply E_callX hE (c_r7Div ⟨_, _, _, _⟩ ⟨_, _, _, _⟩ false ?_ ?_); (case hf => rfl); (case hc => (cbv <;> trivial)); (case hle => exact u_up); all_goals (first | (intro q hq; cbv) | (first | exact fa.1 | exact fa.2 | exact fb.1 | exact fb.2)))
          (apply E_callX hE (c_rInf _); (case hf => rfl); (case hc => (cbv <;> trivial)); (case hle => exact u_up); all_goals (first | (intro f hf; cbv) | (assumption)))
          have qo : q.ok := by rw [show q = Num.div a.hi b.hi false from hq]; exact Num.div_ok (by first | exact fa.1 | exact fa.2 | exact fb.1 | exact fb.2) (by first | exact fa.1 | exact fa.2 | exact fb.1 | exact fb.2) _
          have fo : f.ok := by rw [show f = Num.inf false from hf]; exact Num.inf_ok _
          (apply E_callX hE (c_r8Make ⟨_, _, _, _⟩ ⟨_, _, _, _⟩ ?_ ?_); (case hf => rfl); (case hc => (cbv <;> trivial)); (case hle => exact u_up); all_goals (first | (intro t ht; cbv) | (first | exact qo | exact fo)))
          have T : t = r := by rw [HH, ← show q = Num.div a.hi b.hi false from hq, ← show f = Num.inf false from hf]; exact ht
          rw [T]; exact ⟨rfl, rfl, rfl, rfl, rfl, rfl, rfl, rfl, rfl, trivial⟩
        · have HH := H.trans (half_f (by rw [← hsn, ← hse]; subst hE; exact eql_f g9))
          clear H
          (apply E_pcallX hE (c_rInf _); (case hm => rfl); (case hle => exact u_up); all_goals (first | (intro f hf; cbv) | (assumption)))
          (apply E_pcallX hE (c_r7Div ⟨_, _, _, _⟩ ⟨_, _, _, _⟩ true ?_ ?_); (case hm => rfl); (case hle => exact u_up); all_goals (first | (intro q hq; cbv) | (first | exact fa.1 | exact fa.2 | exact fb.1 | exact fb.2)))
          have qo : q.ok := by rw [show q = Num.div a.hi b.hi true from hq]; exact Num.div_ok (by first | exact fa.1 | exact fa.2 | exact fb.1 | exact fb.2) (by first | exact fa.1 | exact fa.2 | exact fb.1 | exact fb.2) _
          have fo : f.ok := by rw [show f = Num.inf true from hf]; exact Num.inf_ok _
          (apply E_pcallX hE (c_r8Make ⟨_, _, _, _⟩ ⟨_, _, _, _⟩ ?_ ?_); (case hm => rfl); (case hle => exact u_up); all_goals (first | (intro t ht; cbv) | (first | exact qo | exact fo)))
          have T : t = r := by rw [HH, ← show q = Num.div a.hi b.hi true from hq, ← show f = Num.inf true from hf]; exact ht
          rw [T]; exact ⟨rfl, rfl, rfl, rfl, rfl, rfl, rfl, rfl, rfl, trivial⟩
      · have hs1 : ¬ a.lo.sign < 0 := by rw [← hs0]; subst hE; exact lss_f g10
        rw [if_neg hs1, if_neg hq0] at H
        (apply E_pcallX hE (c_rSign ⟨_, _, _, _⟩); (case hm => rfl); (case hle => exact u_up); all_goals (first | (intro sn hsn; cbv) | (assumption)))
        (apply E_pcallX hE (c_rSign ⟨_, _, _, _⟩); (case hm => rfl); (case hle => exact u_up); all_goals (first | (intro se hse; cbv) | (assumption)))
        replace hsn : sn = a.lo.sign := hsn
        replace hse : se = b.hi.sign := hse
        refine E_br hE (fun g9 => ?_) (fun g9 => ?_) <;> cbv
        · have HH := H.trans (half_t (by rw [← hsn, ← hse]; subst hE; exact eql_t g9))
          clear H
          (apply E_callX hE (c_r7Div ⟨_, _, _, _⟩ ⟨_, _, _, _⟩ false ?_ ?_); (case hf => rfl); (case hc => (cbv <;> trivial)); (case hle => exact u_up); all_goals (first | (intro q hq; cbv) | (first | exact fa.1 | exact fa.2 | exact fb.1 | exact fb.2)))
          (apply E_callX hE (c_rInf _); (case hf => rfl); (case hc => (cbv <;> trivial)); (case hle => exact u_up); all_goals (first | (intro f hf; cbv) | (assumption)))
          have qo : q.ok := by rw [show q = Num.div a.lo b.hi false from hq]; exact Num.div_ok (by first | exact fa.1 | exact fa.2 | exact fb.1 | exact fb.2) (by first | exact fa.1 | exact fa.2 | exact fb.1 | exact fb.2) _
          have fo : f.ok := by rw [show f = Num.inf false from hf]; exact Num.inf_ok _
          (apply E_callX hE (c_r8Make ⟨_, _, _, _⟩ ⟨_, _, _, _⟩ ?_ ?_); (case hf => rfl); (case hc => (cbv <;> trivial)); (case hle => exact u_up); all_goals (first | (intro t ht; cbv) | (first | exact qo | exact fo)))
          have T : t = r := by rw [HH, ← show q = Num.div a.lo b.hi false from hq, ← show f = Num.inf false from hf]; exact ht
          rw [T]; exact ⟨rfl, rfl, rfl, rfl, rfl, rfl, rfl, rfl, rfl, trivial⟩
        · have HH := H.trans (half_f (by rw [← hsn, ← hse]; subst hE; exact eql_f g9))
          clear H
          (apply E_pcallX hE (c_rInf _); (case hm => rfl); (case hle => exact u_up); all_goals (first | (intro f hf; cbv) | (assumption)))
          (apply E_pcallX hE (c_r7Div ⟨_, _, _, _⟩ ⟨_, _, _, _⟩ true ?_ ?_); (case hm => rfl); (case hle => exact u_up); all_goals (first | (intro q hq; cbv) | (first | exact fa.1 | exact fa.2 | exact fb.1 | exact fb.2)))
          have qo : q.ok := by rw [show q = Num.div a.lo b.hi true from hq]; exact Num.div_ok (by first | exact fa.1 | exact fa.2 | exact fb.1 | exact fb.2) (by first | exact fa.1 | exact fa.2 | exact fb.1 | exact fb.2) _
          have fo : f.ok := by rw [show f = Num.inf true from hf]; exact Num.inf_ok _
          (apply E_pcallX hE (c_r8Make ⟨_, _, _, _⟩ ⟨_, _, _, _⟩ ?_ ?_); (case hm => rfl); (case hle => exact u_up); all_goals (first | (intro t ht; cbv) | (first | exact qo | exact fo)))
          have T : t = r := by rw [HH, ← show q = Num.div a.lo b.hi true from hq, ← show f = Num.inf true from hf]; exact ht
          rw [T]; exact ⟨rfl, rfl, rfl, rfl, rfl, rfl, rfl, rfl, rfl, trivial⟩
  have hn : ¬ (Iv.has a Num.zero = true ∨ (b.lo.sign < 0 ∧ 0 < b.hi.sign)) := fun k => k.elim ni (fun q => (by rw [← hl]; subst hE; exact lss_f g6 : ¬ b.lo.sign < 0) q.1)
  have H := D.hal ne nb zt hn
  clear D hn
  refine E_br hE (fun g8 => ?_) (fun g8 => ?_) <;> cbv
  · have hq0 :  b.hi.sign = 0 := by rw [← hh]; subst hE; exact eql_t g8
    (apply E_callX hE (c_rSign ⟨_, _, _, _⟩); (case hf => rfl); (case hc => (cbv <;> trivial)); (case hle => exact u_up); all_goals (first | (intro s0 hs0; cbv) | (assumption)))
    replace hs0 : s0 = a.lo.sign := hs0
    refine E_br hE (fun g10 => ?_) (fun g10 => ?_) <;> cbv
    · have hs1 :  a.lo.sign < 0 := by rw [← hs0]; subst hE; exact lss_t g10
      rw [if_pos hs1, if_pos hq0] at H
      (apply E_pcallX hE (c_rSign ⟨_, _, _, _⟩); (case hm => rfl); (case hle => exact u_up); all_goals (first | (intro sn hsn; cbv) | (assumption)))
      (apply E_pcallX hE (c_rSign ⟨_, _, _, _⟩); (case hm => rfl); (case hle => exact u_up); all_goals (first | (intro se hse; cbv) | (assumption)))
      replace hsn : sn = a.hi.sign := hsn
      replace hse : se = b.lo.sign := hse
      refine E_br hE (fun g9 => ?_) (fun g9 => ?_) <;> cbv
      · have HH := H.trans (half_t (by rw [← hsn, ← hse]; subst hE; exact eql_t g9))
        clear H
        (apply E_callX hE (c_r7Div ⟨_, _, _, _⟩ ⟨_, _, _, _⟩ false ?_ ?_); (case hf => rfl); (case hc => (cbv <;> trivial)); (case hle => exact u_up); all_goals (first | (intro q hq; cbv) | (first | exact fa.1 | exact fa.2 | exact fb.1 | exact fb.2)))
        (apply E_callX hE (c_rInf _); (case hf => rfl); (case hc => (cbv <;> trivial)); (case hle => exact u_up); all_goals (first | (intro f hf; cbv) | (assumption)))
        have qo : q.ok := by rw [show q = Num.div a.hi b.lo false from hq]; exact Num.div_ok (by first | exact fa.1 | exact fa.2 | exact fb.1 | exact fb.2) (by first | exact fa.1 | exact fa.2 | exact fb.1 | exact fb.2) _
        have fo : f.ok := by rw [show f = Num.inf false from hf]; exact Num.inf_ok _
        (apply E_callX hE (c_r8Make ⟨_, _, _, _⟩ ⟨_, _, _, _⟩ ?_ ?_); (case hf => rfl); (case hc => (cbv <;> trivial)); (case hle => exact u_up); all_goals (first | (intro t ht; cbv) | (first | exact qo | exact fo)))
        have T : t = r := by rw [HH, ← show q = Num.div a.hi b.lo false from hq, ← show f = Num.inf false from hf]; exact ht
        rw [T]; exact ⟨rfl, rfl, rfl, rfl, rfl, rfl, rfl, rfl, rfl, trivial⟩
      · have HH := H.trans (half_f (by rw [← hsn, ← hse]; subst hE; exact eql_f g9))
        clear H
        (apply E_pcallX hE (c_rInf _); (case hm => rfl); (case hle => exact u_up); all_goals (first | (intro f hf; cbv) | (assumption)))
        (apply E_pcallX hE (c_r7Div ⟨_, _, _, _⟩ ⟨_, _, _, _⟩ true ?_ ?_); (case hm => rfl); (case hle => exact u_up); all_goals (first | (intro q hq; cbv) | (first | exact fa.1 | exact fa.2 | exact fb.1 | exact fb.2)))
        have qo : q.ok := by rw [show q = Num.div a.hi b.lo true from hq]; exact Num.div_ok (by first | exact fa.1 | exact fa.2 | exact fb.1 | exact fb.2) (by first | exact fa.1 | exact fa.2 | exact fb.1 | exact fb.2) _
        have fo : f.ok := by rw [show f = Num.inf true from hf]; exact Num.inf_ok _
        (apply E_pcallX hE (c_r8Make ⟨_, _, _, _⟩ ⟨_, _, _, _⟩ ?_ ?_); (case hm => rfl); (case hle => exact u_up); all_goals (first | (intro t ht; cbv) | (first | exact qo | exact fo)))
        have T : t = r := by rw [HH, ← show q = Num.div a.hi b.lo true from hq, ← show f = Num.inf true from hf]; exact ht
        rw [T]; exact ⟨rfl, rfl, rfl, rfl, rfl, rfl, rfl, rfl, rfl, trivial⟩
    · have hs1 : ¬ a.lo.sign < 0 := by rw [← hs0]; subst hE; exact lss_f g10
      rw [if_neg hs1, if_pos hq0] at H
      (apply E_pcallX hE (c_rSign ⟨_, _, _, _⟩); (case hm => rfl); (case hle => exact u_up); all_goals (first | (intro sn hsn; cbv) | (assumption)))
      (apply E_pcallX hE (c_rSign ⟨_, _, _, _⟩); (case hm => rfl); (case hle => exact u_up); all_goals (first | (intro se hse; cbv) | (assumption)))
      replace hsn : sn = a.lo.sign := hsn
      replace hse : se = b.lo.sign := hse
      refine E_br hE (fun g9 => ?_) (fun g9 => ?_) <;> cbv
      · have HH := H.trans (half_t (by rw [← hsn, ← hse]; subst hE; exact eql_t g9))
        clear H
        (apply E_callX hE (c_r7Div ⟨_, _, _, _⟩ ⟨_, _, _, _⟩ false ?_ ?_); (case hf => rfl); (case hc => (cbv <;> trivial)); (case hle => exact u_up); all_goals (first | (intro q hq; cbv) | (first | exact fa.1 | exact fa.2 | exact fb.1 | exact fb.2)))
        (apply E_callX hE (c_rInf _); (case hf => rfl); (case hc => (cbv <;> trivial)); (case hle => exact u_up); all_goals (first | (intro f hf; cbv) | (assumption)))
        have qo : q.ok := by rw [show q = Num.div a.lo b.lo false from hq]; exact Num.div_ok (by first | exact fa.1 | exact fa.2 | exact fb.1 | exact fb.2) (by first | exact fa.1 | exact fa.2 | exact fb.1 | exact fb.2) _
        have fo : f.ok := by rw [show f = Num.inf false from hf]; exact Num.inf_ok _
        (apply E_callX hE (c_r8Make ⟨_, _, _, _⟩ ⟨_, _, _, _⟩ ?_ ?_); (case hf => rfl); (case hc => (cbv <;> trivial)); (case hle => exact u_up); all_goals (first | (intro t ht; cbv) | (first | exact qo | exact fo)))
        have T : t = r := by rw [HH, ← show q = Num.div a.lo b.lo false from hq, ← show f = Num.inf false from hf]; exact ht
        rw [T]; exact ⟨rfl, rfl, rfl, rfl, rfl, rfl, rfl, rfl, rfl, trivial⟩
      · have HH := H.trans (half_f (by rw [← hsn, ← hse]; subst hE; exact eql_f g9))
        clear H
        (apply E_pcallX hE (c_rInf _); (case hm => rfl); (case hle => exact u_up); all_goals (first | (intro f hf; cbv) | (assumption)))
        (apply E_pcallX hE (c_r7Div ⟨_, _, _, _⟩ ⟨_, _, _, _⟩ true ?_ ?_); (case hm => rfl); (case hle => exact u_up); all_goals (first | (intro q hq; cbv) | (first | exact fa.1 | exact fa.2 | exact fb.1 | exact fb.2)))
        have qo : q.ok := by rw [show q = Num.div a.lo b.lo true from hq]; exact Num.div_ok (by first | exact fa.1 | exact fa.2 | exact fb.1 | exact fb.2) (by first | exact fa.1 | exact fa.2 | exact fb.1 | exact fb.2) _
        have fo : f.ok := by rw [show f = Num.inf true from hf]; exact Num.inf_ok _
        (apply E_pcallX hE (c_r8Make ⟨_, _, _, _⟩ ⟨_, _, _, _⟩ ?_ ?_); (case hm => rfl); (case hle => exact u_up); all_goals (first | (intro t ht; cbv) | (first | exact qo | exact fo)))
        have T : t = r := by rw [HH, ← show q = Num.div a.lo b.lo true from hq, ← show f = Num.inf true from hf]; exact ht
        rw [T]; exact ⟨rfl, rfl, rfl, rfl, rfl, rfl, rfl, rfl, rfl, trivial⟩
  · have hq0 : ¬ b.hi.sign = 0 := by rw [← hh]; subst hE; exact eql_f g8
    (apply E_callX hE (c_rSign ⟨_, _, _, _⟩); (case hf => rfl); (case hc => (cbv <;> trivial)); (case hle => exact u_up); all_goals (first | (intro s0 hs0; cbv) | (assumption)))
    replace hs0 : s0 = a.lo.sign := hs0
    refine E_br hE (fun g10 => ?_) (fun g10 => ?_) <;> cbv
    · have hs1 :  a.lo.sign < 0 := by rw [← hs0]; subst hE; exact lss_t g10
      rw [if_pos hs1, if_neg hq0] at H
      (apply E_pcallX hE (c_rSign ⟨_, _, _, _⟩); (case hm => rfl); (case hle => exact u_up); all_goals (first | (intro sn hsn; cbv) | (assumption)))
      (apply E_pcallX hE (c_rSign ⟨_, _, _, _⟩); (case hm => rfl); (case hle => exact u_up); all_goals (first | (intro se hse; cbv) | (assumption)))
      replace hsn : sn = a.hi.sign := hsn
      replace hse : se = b.hi.sign := hse
      refine E_br hE (fun g9 => ?_) (fun g9 => ?_) <;> cbv
      · have HH := H.trans (half_t (by rw [← hsn, ← hse]; subst hE; exact eql_t g9))
        clear H
        (apply E_callX hE (c_r7Div ⟨_, _, _, _⟩ ⟨_, _, _, _⟩ false ?_ ?_); (case hf => rfl); (case hc => (cbv <;> trivial)); (case hle => exact u_up); all_goals (first | (intro q hq; cbv) | (first | exact fa.1 | exact fa.2 | exact fb.1 | exact fb.2)))
        (apply E_callX hE (c_rInf _); (case hf => rfl); (case hc => (cbv <;> trivial)); (case hle => exact u_up); all_goals (first | (intro f hf; cbv) | (assumption)))
        have qo : q.ok := by rw [show q = Num.div a.hi b.hi false from hq]; exact Num.div_ok (by first | exact fa.1 | exact fa.2 | exact fb.1 | exact fb.2) (by first | exact fa.1 | exact fa.2 | exact fb.1 | exact fb.2) _
        have fo : f.ok := by rw [show f = Num.inf false from hf]; exact Num.inf_ok _
        (apply E_callX hE (c_r8Make ⟨_, _, _, _⟩ ⟨_, _, _, _⟩ ?_ ?_); (case hf => rfl); (case hc => (cbv <;> trivial)); (case hle => exact u_up); all_goals (first | (intro t ht; cbv) | (first | exact qo | exact fo)))
        have T : t = r := by rw [HH, ← show q = Num.div a.hi b.hi false from hq, ← show f = Num.inf false from hf]; exact ht
        rw [T]; exact ⟨rfl, rfl, rfl, rfl, rfl, rfl, rfl, rfl, rfl, trivial⟩
      · have HH := H.trans (half_f (by rw [← hsn, ← hse]; subst hE; exact eql_f g9))
        clear H
        (apply E_pcallX hE (c_rInf _); (case hm => rfl); (case hle => exact u_up); all_goals (first | (intro f hf; cbv) | (assumption)))
        (apply E_pcallX hE (c_r7Div ⟨_, _, _, _⟩ ⟨_, _, _, _⟩ true ?_ ?_); (case hm => rfl); (case hle => exact u_up); all_goals (first | (intro q hq; cbv) | (first | exact fa.1 | exact fa.2 | exact fb.1 | exact fb.2)))
        have qo : q.ok := by rw [show q = Num.div a.hi b.hi true from hq]; exact Num.div_ok (by first | exact fa.1 | exact fa.2 | exact fb.1 | exact fb.2) (by first | exact fa.1 | exact fa.2 | exact fb.1 | exact fb.2) _
        have fo : f.ok := by rw [show f = Num.inf true from hf]; exact Num.inf_ok _
        (apply E_pcallX hE (c_r8Make ⟨_, _, _, _⟩ ⟨_, _, _, _⟩ ?_ ?_); (case hm => rfl); (case hle => exact u_up); all_goals (first | (intro t ht; cbv) | (first | exact qo | exact fo)))
        have T : t = r := by rw [HH, ← show q = Num.div a.hi b.hi true from hq, ← show f = Num.inf true from hf]; exact ht
        rw [T]; exact ⟨rfl, rfl, rfl, rfl, rfl, rfl, rfl, rfl, rfl, trivial⟩
    · have hs1 : ¬ a.lo.sign < 0 := by rw [← hs0]; subst hE; exact lss_f g10
      rw [if_neg hs1, if_neg hq0] at H
      (apply E_pcallX hE (c_rSign ⟨_, _, _, _⟩); (case hm => rfl); (case hle => exact u_up); all_goals (first | (intro sn hsn; cbv) | (assumption)))
      (apply E_pcallX hE (c_rSign ⟨_, _, _, _⟩); (case hm => rfl); (case hle => exact u_up); all_goals (first | (intro se hse; cbv) | (assumption)))
      replace hsn : sn = a.lo.sign := hsn
      replace hse : se = b.hi.sign := hse
      refine E_br hE (fun g9 => ?_) (fun g9 => ?_) <;> cbv
      · have HH := H.trans (half_t (by rw [← hsn, ← hse]; subst hE; exact eql_t g9))
        clear H
        (apply E_callX hE (c_r7Div ⟨_, _, _, _⟩ ⟨_, _, _, _⟩ false ?_ ?_); (case hf => rfl); (case hc => (cbv <;> trivial)); (case hle => exact u_up); all_goals (first | (intro q hq; cbv) | (first | exact fa.1 | exact fa.2 | exact fb.1 | exact fb.2)))
        (apply E_callX hE (c_rInf _); (case hf => rfl); (case hc => (cbv <;> trivial)); (case hle => exact u_up); all_goals (first | (intro f hf; cbv) | (assumption)))
        have qo : q.ok := by rw [show q = Num.div a.lo b.hi false from hq]; exact Num.div_ok (by first | exact fa.1 | exact fa.2 | exact fb.1 | exact fb.2) (by first | exact fa.1 | exact fa.2 | exact fb.1 | exact fb.2) _
        have fo : f.ok := by rw [show f = Num.inf false from hf]; exact Num.inf_ok _
        (apply E_callX hE (c_r8Make ⟨_, _, _, _⟩ ⟨_, _, _, _⟩ ?_ ?_); (case hf => rfl); (case hc => (cbv <;> trivial)); (case hle => exact u_up); all_goals (first | (intro t ht; cbv) | (first | exact qo | exact fo)))
        have T : t = r := by rw [HH, ← show q = Num.div a.lo b.hi false from hq, ← show f = Num.inf false from hf]; exact ht
        rw [T]; exact ⟨rfl, rfl, rfl, rfl, rfl, rfl, rfl, rfl, rfl, trivial⟩
      · have HH := H.trans (half_f (by rw [← hsn, ← hse]; subst hE; exact eql_f g9))
        clear H
        (apply E_pcallX hE (c_rInf _); (case hm => rfl); (case hle => exact u_up); all_goals (first | (intro f hf; cbv) | (assumption)))
        (apply E_pcallX hE (c_r7Div ⟨_, _, _, _⟩ ⟨_, _, _, _⟩ true ?_ ?_); (case hm => rfl); (case hle => exact u_up); all_goals (first | (intro q hq; cbv) | (first | exact fa.1 | exact fa.2 | exact fb.1 | exact fb.2)))
        have qo : q.ok := by rw [show q = Num.div a.lo b.hi true from hq]; exact Num.div_ok (by first | exact fa.1 | exact fa.2 | exact fb.1 | exact fb.2) (by first | exact fa.1 | exact fa.2 | exact fb.1 | exact fb.2) _
        have fo : f.ok := by rw [show f = Num.inf true from hf]; exact Num.inf_ok _
        (apply E_pcallX hE (c_r8Make ⟨_, _, _, _⟩ ⟨_, _, _, _⟩ ?_ ?_); (case hm => rfl); (case hle => exact u_up); all_goals (first | (intro t ht; cbv) | (first | exact qo | exact fo)))
        have T : t = r := by rw [HH, ← show q = Num.div a.lo b.hi true from hq, ← show f = Num.inf true from hf]; exact ht
        rw [T]; exact ⟨rfl, rfl, rfl, rfl, rfl, rfl, rfl, rfl, rfl, trivial⟩

end Go.Proofs.YtoghalnnmhpfmaaGreat.Ev

/- Contracts of the reference: the sum, the opposite and the difference of two intervals. Printed by gen.py. -/
namespace Go.Proofs.YtoghalnnmhpfmaaGreat.Ev
open Go Go.Proofs
set_option linter.unusedVariables false
set_option linter.unusedSimpArgs false

/-- ends that are not too far from nought, if any -/
def Iv.near (x : Iv) : Prop := x.lo.near ∧ x.hi.near
end Go.Proofs.YtoghalnnmhpfmaaGreat.Ev

/- Contracts of the reference: what two intervals have, their hull; how far from nought, squares, roots. Printed by gen.py. -/
namespace Go.Proofs.YtoghalnnmhpfmaaGreat.Ev
open Go Go.Proofs
set_option linter.unusedVariables false
set_option linter.unusedSimpArgs false

theorem slcN2 {a b : Num} {z : Num} : sle2 (.slc 4 (.l 2) (fun i => getRow [a.cells, b.cells] (Int.ofNat i))) (.slc 4 (.s 2) (fun i => Num.cells ([a, b].getD i z))) := by
  have r : ∀ {x : Num}, sleL sle0 x.cells x.cells := ⟨⟨rfl, rfl⟩, rfl, ⟨rfl, rfl⟩, ⟨rfl, rfl⟩, trivial⟩
  refine ⟨rfl, rfl, fun i hi => ?_⟩
  match i, hi with
  | 0, _ => exact r
  | 1, _ => exact r
  | i + 2, hi => exact absurd hi (by simp [SI.val])
theorem all_ok2 {a b : Num} (h : a.ok) (k : b.ok) : ∀ x ∈ [a, b], x.ok := by
  intro n hn
  simp only [List.mem_cons, List.not_mem_nil, or_false] at hn
  rcases hn with rfl | rfl
  · exact h
  · exact k
theorem c_r8Two (x y : Iv) (fx : x.lo.ok ∧ x.hi.ok) (fy : y.lo.ok ∧ y.hi.ok) : ∃ t : Iv, t = Iv.meet [x, y] ∧ CallsA Tryz.prog 35 [x.av, y.av] t.av := by
  rw [← Iv.rmeet_eq]
  refine ⟨_, rfl, ?_⟩
  generalize hr : Iv.rmeet x y = r
  have emp : (x.fair.empty || y.fair.empty) = true → r = Iv.none := by intro h; rw [← hr]; unfold Iv.rmeet; rw [if_pos h]
  have mak : ¬ (x.fair.empty || y.fair.empty) = true → r = Iv.make (Num.most [x.fair.lo, y.fair.lo]) (Num.least [x.fair.hi, y.fair.hi]) := by intro h; rw [← hr]; unfold Iv.rmeet; rw [if_neg h]
  have fa := Iv.fair_oks fx.1 fx.2
  have fb := Iv.fair_oks fy.1 fy.2
  clear hr
  refine callsA_of hG hm Tryz.func35 (by kernel_rfl) ?_
  intro E hE lp hl'
  cbv
  (apply E_callX hE (c_r8Fair ⟨_, ⟨_, _, _, _⟩, ⟨_, _, _, _⟩⟩ ?_ ?_); (case hf => rfl); (case hc => (cbv <;> trivial)); (case hle => exact u_up); all_goals (first | (intro a ha; cbv) | (first | exact fx.1 | exact fx.2)))
  (apply E_callX hE (c_r8Fair ⟨_, ⟨_, _, _, _⟩, ⟨_, _, _, _⟩⟩ ?_ ?_); (case hf => rfl); (case hc => (cbv <;> trivial)); (case hle => exact u_up); all_goals (first | (intro b hb; cbv) | (first | exact fy.1 | exact fy.2)))
  replace ha : a = x.fair := ha
  replace hb : b = y.fair := hb
  rw [← ha] at emp mak fa
  rw [← hb] at emp mak fb
  clear ha hb
  refine E_br hE (fun g1 => ?_) (fun g1 => ?_) <;> cbv
  · (apply E_callX hE (c_r8None); (case hf => rfl); (case hc => (cbv <;> trivial)); (case hle => exact u_up); all_goals (first | (intro t ht; cbv) | (assumption)))
    have T : t = r := by rw [emp (by rw [g1]; rfl)]; exact ht
    rw [T]; exact ⟨rfl, rfl, rfl, rfl, rfl, rfl, rfl, rfl, rfl, trivial⟩
  refine E_br hE (fun g2 => ?_) (fun g2 => ?_) <;> cbv
  · (apply E_callX hE (c_r8None); (case hf => rfl); (case hc => (cbv <;> trivial)); (case hle => exact u_up); all_goals (first | (intro t ht; cbv) | (assumption)))
    have T : t = r := by rw [emp (by rw [g1, g2]; rfl)]; exact ht
    rw [T]; exact ⟨rfl, rfl, rfl, rfl, rfl, rfl, rfl, rfl, rfl, trivial⟩
  have M := mak (by rw [g1, g2]; decide)
  clear emp mak
  have ol := all_ok2 fa.1 fb.1
  have oh := all_ok2 fa.2 fb.2
  (apply E_pcallX hE (c_rMost [a.lo, b.lo] 2 rfl (by decide) ol); (case hm => rfl); (case hle => exact ⟨slcN2, trivial⟩); all_goals (first | (intro p hp; cbv) | (assumption)))
  (apply E_pcallX hE (c_rLeast [a.hi, b.hi] 2 rfl (by decide) oh); (case hm => rfl); (case hle => exact ⟨slcN2, trivial⟩); all_goals (first | (intro q hq; cbv) | (assumption)))
  have po : p.ok := by rw [hp]; exact (Num.most_spec [a.lo, b.lo] ol).2.1
  have qo : q.ok := by rw [hq]; exact (Num.least_spec [a.hi, b.hi] oh).2.1
  (apply E_pcallX hE (c_r8Make ⟨_, _, _, _⟩ ⟨_, _, _, _⟩ ?_ ?_); (case hm => rfl); (case hle => exact u_up); all_goals (first | (intro t ht; cbv) | (first | exact po | exact qo)))
  have T : t = r := by rw [M, ← hp, ← hq]; exact ht
  rw [T]; exact ⟨rfl, rfl, rfl, rfl, rfl, rfl, rfl, rfl, rfl, trivial⟩

end Go.Proofs.YtoghalnnmhpfmaaGreat.Ev

/- Contracts: the law of roots. Printed by gen.py. -/
namespace Go.Proofs.YtoghalnnmhpfmaaGreat.Ev
open Go Go.Proofs
set_option linter.unusedVariables false
set_option linter.unusedSimpArgs false

end Go.Proofs.YtoghalnnmhpfmaaGreat.Ev

/- How far from nought an interval is lies within the root of its square: plain Lean. -/
namespace Go.Proofs.YtoghalnnmhpfmaaGreat.Ev
open Go

end Go.Proofs.YtoghalnnmhpfmaaGreat.Ev

/- Sums grow with their operands: plain Lean. -/
namespace Go.Proofs.YtoghalnnmhpfmaaGreat.Ev
open Go

theorem Num.add_may {a b : Num} (oa : a.ok) (ob : b.ok) (up : Bool) : (Num.add a b up).may = true := by
  by_cases ka : a.fair.kind = 2
  · rw [Num.add_inf up ka]; split
    · exact Num.inf_may _
    · exact a.fair_may
  · by_cases kb : b.fair.kind = 2
    · rw [Num.add_inf2 oa ob up kb]; split
      · exact Num.inf_may _
      · exact b.fair_may
    · exact (add_best oa ob ka kb up).may
/-- a number is finite, or one of the two others -/
theorem Num.three {a : Num} (oa : a.ok) : (a.fair.kind ≠ 2 ∧ -pw 1048640 < a.fair.val ∧ a.fair.val < pw 1048640) ∨ (a.fair = Num.inf false) ∨ (a.fair = Num.inf true) := by
  by_cases k : a.fair.kind = 2
  · have e := Num.fair_inf oa k
    cases h : a.fair.neg with
    | false => rw [h] at e; exact .inr (.inl e)
    | true => rw [h] at e; exact .inr (.inr e)
  · exact .inl ⟨k, (Num.fin_val a.fair_may (Num.fair_ok oa)).1 k⟩
end Go.Proofs.YtoghalnnmhpfmaaGreat.Ev

/- Sums and products grow with their operands: what they rest on. -/

/- Products grow with their operands: plain Lean. -/
namespace Go.Proofs.YtoghalnnmhpfmaaGreat.Ev
open Go

end Go.Proofs.YtoghalnnmhpfmaaGreat.Ev

/- Quotients grow with what is divided, and shrink with the divisor: plain Lean. -/
namespace Go.Proofs.YtoghalnnmhpfmaaGreat.Ev
open Go

theorem Num.div_inf_r {a b : Num} (up : Bool) (h : b.fair.kind = 2) : Num.div a b up = Num.zero := by
  unfold Num.div
  rw [if_neg (by rw [h]; decide), if_pos (.inr h)]
theorem Num.div_inf_l {a b : Num} (up : Bool) (ha : a.fair.kind = 2) (h0 : b.fair.kind ≠ 0) (h2 : b.fair.kind ≠ 2) : Num.div a b up = Num.inf (a.fair.neg != b.fair.neg) := by
  unfold Num.div
  rw [if_neg h0, if_neg (by rintro (k | k); (rw [ha] at k; exact absurd k (by decide)); exact h2 k), if_pos ha]
theorem Num.kind1 {a : Num} (oa : a.ok) (h0 : a.fair.kind ≠ 0) (h2 : a.fair.kind ≠ 2) : a.fair.kind = 1 := (Num.fair_fin oa h0 h2).kind

theorem Num.div_may {a b : Num} (oa : a.ok) (ob : b.ok) (up : Bool) : (Num.div a b up).may = true := by
  by_cases h0 : b.fair.kind = 0
  · unfold Num.div; rw [if_pos h0]; exact Num.inf_may _
  · by_cases h2 : b.fair.kind = 2
    · rw [Num.div_inf_r up h2]; exact Num.zero_may
    · by_cases ha : a.fair.kind = 2
      · rw [Num.div_inf_l up ha h0 h2]; exact Num.inf_may _
      · exact (div_best oa ob ha (Num.kind1 ob h0 h2) up).may

end Go.Proofs.YtoghalnnmhpfmaaGreat.Ev

/- Sums and products of parts are parts: plain Lean. -/
namespace Go.Proofs.YtoghalnnmhpfmaaGreat.Ev
open Go

/-- a is a part of c -/
structure Iv.Part (a c : Iv) : Prop where
  ra : a.Real
  rc : c.Real
  lo : c.lo.val ≤ a.lo.val
  hi : a.hi.val ≤ c.hi.val
theorem Iv.fair_empty (a : Iv) : a.fair.empty = a.bad := by
  unfold Iv.fair Iv.bad
  cases h : a.may <;> simp [Iv.none]
theorem Iv.within_part {a c : Iv} (ha : a.lo.ok ∧ a.hi.ok) (hc : c.lo.ok ∧ c.hi.ok) (h : a.within c = true) : a.bad = true ∨ Iv.Part a c := by
  cases hb : a.bad with
  | true => exact .inl rfl
  | false =>
    right
    have ra := Iv.real_of_good hb ha.1 ha.2
    unfold Iv.within at h
    rw [Iv.fair_empty, Iv.fair_empty, hb] at h
    simp only [Bool.false_or, Bool.and_eq_true, decide_eq_true_eq, Bool.not_eq_true'] at h
    obtain ⟨⟨h1, h2⟩, h3⟩ := h
    have rc := Iv.real_of_good h1 hc.1 hc.2
    rw [ra.fair, rc.fair] at h2 h3
    have e1 := (Num.cmp_le hc.1 ha.1).1 h2
    have e2 := (Num.cmp_le ha.2 hc.2).1 h3
    rw [Num.may_fair rc.lom, Num.may_fair ra.lom] at e1
    rw [Num.may_fair ra.him, Num.may_fair rc.him] at e2
    exact ⟨ra, rc, e1, e2⟩
theorem Iv.Part.lo' {a c : Iv} (P : Iv.Part a c) : c.lo.fair.val ≤ a.lo.fair.val := by rw [Num.may_fair P.rc.lom, Num.may_fair P.ra.lom]; exact P.lo
theorem Iv.Part.hi' {a c : Iv} (P : Iv.Part a c) : a.hi.fair.val ≤ c.hi.fair.val := by rw [Num.may_fair P.rc.him, Num.may_fair P.ra.him]; exact P.hi
theorem Iv.Part.within {a c : Iv} (P : Iv.Part a c) : a.within c = true := Iv.real_within P.ra P.rc P.lo P.hi

theorem Iv.Part.neg {a c : Iv} (P : Iv.Part a c) : Iv.Part (Iv.neg a) (Iv.neg c) := by
  rw [Iv.neg_real P.ra, Iv.neg_real P.rc]
  refine ⟨P.ra.neg, P.rc.neg, ?_, ?_⟩
  · show c.hi.opp.val ≤ a.hi.opp.val
    rw [Num.opp_val, Num.opp_val]; have := P.hi'; omega
  · show a.lo.opp.val ≤ c.lo.opp.val
    rw [Num.opp_val, Num.opp_val]; have := P.lo'; omega
/-- the ends of a part lie between the ends of the whole -/
theorem Iv.Part.ends {a c : Iv} (P : Iv.Part a c) {x : Num} (h : x = a.lo ∨ x = a.hi) : x.ok ∧ x.may = true ∧ c.lo.fair.val ≤ x.fair.val ∧ x.fair.val ≤ c.hi.fair.val := by
  have h1 := P.lo
  have h2 := P.hi
  have h3 := P.ra.le
  rw [Num.may_fair P.rc.lom, Num.may_fair P.rc.him]
  rcases h with rfl | rfl
  · refine ⟨P.ra.loo, P.ra.lom, ?_, ?_⟩ <;> rw [Num.may_fair P.ra.lom] <;> omega
  · refine ⟨P.ra.hio, P.ra.him, ?_, ?_⟩ <;> rw [Num.may_fair P.ra.him] <;> omega

end Go.Proofs.YtoghalnnmhpfmaaGreat.Ev

/- Squares and roots of parts are parts: plain Lean. -/
namespace Go.Proofs.YtoghalnnmhpfmaaGreat.Ev
open Go

end Go.Proofs.YtoghalnnmhpfmaaGreat.Ev

/- Quotients of parts are parts: plain Lean. -/
namespace Go.Proofs.YtoghalnnmhpfmaaGreat.Ev
open Go

theorem Iv.bad_or_real {a : Iv} (h : a.lo.ok ∧ a.hi.ok) : a.bad = true ∨ a.Real := by
  cases e : a.bad with
  | true => exact .inl rfl
  | false => exact .inr (Iv.real_of_good e h.1 h.2)

end Go.Proofs.YtoghalnnmhpfmaaGreat.Ev

/- What two intervals have together, and their hull, by values: plain Lean. -/
namespace Go.Proofs.YtoghalnnmhpfmaaGreat.Ev
open Go

/-- empty, or a part -/
def Iv.In (a c : Iv) : Prop := a.bad = true ∨ Iv.Part a c
theorem Iv.In.within {a c : Iv} (h : Iv.In a c) : a.within c = true := by
  rcases h with h | h
  · unfold Iv.within; rw [Iv.fair_empty, h]; rfl
  · exact h.within
theorem Iv.In.trans {a b c : Iv} (h : Iv.In a b) (g : Iv.In b c) : Iv.In a c := by
  rcases h with h | h
  · exact .inl h
  · rcases g with g | g
    · rw [h.rc.good] at g; cases g
    · have := h.lo
      have := h.hi
      have := g.lo
      have := g.hi
      exact .inr ⟨h.ra, g.rc, by omega, by omega⟩
theorem Iv.In.none {c : Iv} : Iv.In Iv.none c := .inl Iv.none_bad
theorem Iv.Real.self {a : Iv} (r : a.Real) : Iv.Part a a := ⟨r, r, Int.le_refl _, Int.le_refl _⟩
theorem Iv.goods_two {x y : Iv} (rx : x.Real) (ry : y.Real) : Iv.goods [x, y] = [x, y] := by
  simp only [Iv.goods, rx.fair, ry.fair, rx.some, ry.some]
  rw [if_neg (by decide), if_neg (by decide)]
theorem Iv.most_two {a b : Num} (ma : a.may = true) (mb : b.may = true) (oa : a.ok) (ob : b.ok) : (Num.most [a, b]).may = true ∧ (Num.most [a, b]).ok ∧ a.val ≤ (Num.most [a, b]).val ∧ b.val ≤ (Num.most [a, b]).val ∧ (Num.most [a, b] = a ∨ Num.most [a, b] = b) := by
  have s := Num.most_spec [a, b] (by simp; exact ⟨oa, ob⟩)
  have k1 := s.2.2.1 a (by simp)
  have k2 := s.2.2.1 b (by simp)
  rw [Num.may_fair ma] at k1
  rw [Num.may_fair mb] at k2
  refine ⟨s.1, s.2.1, k1, k2, ?_⟩
  rcases s.2.2.2 with e | ⟨x, hx, e⟩
  · left
    refine Num.val_inj s.1 ma s.2.1 oa ?_
    have := (Num.val_le ma oa).1
    rw [e, Num.val_inf] at k1 ⊢; simp at k1 ⊢; omega
  · simp only [List.mem_cons, List.not_mem_nil, or_false] at hx
    rcases hx with rfl | rfl
    · left; rw [e, Num.may_fair ma]
    · right; rw [e, Num.may_fair mb]
theorem Iv.least_two {a b : Num} (ma : a.may = true) (mb : b.may = true) (oa : a.ok) (ob : b.ok) : (Num.least [a, b]).may = true ∧ (Num.least [a, b]).ok ∧ (Num.least [a, b]).val ≤ a.val ∧ (Num.least [a, b]).val ≤ b.val ∧ (Num.least [a, b] = a ∨ Num.least [a, b] = b) := by
  have s := Num.least_spec [a, b] (by simp; exact ⟨oa, ob⟩)
  have k1 := s.2.2.1 a (by simp)
  have k2 := s.2.2.1 b (by simp)
  rw [Num.may_fair ma] at k1
  rw [Num.may_fair mb] at k2
  refine ⟨s.1, s.2.1, k1, k2, ?_⟩
  rcases s.2.2.2 with e | ⟨x, hx, e⟩
  · left
    refine Num.val_inj s.1 ma s.2.1 oa ?_
    have := (Num.val_le ma oa).2
    rw [e, Num.val_inf] at k1 ⊢; simp at k1 ⊢; omega
  · simp only [List.mem_cons, List.not_mem_nil, or_false] at hx
    rcases hx with rfl | rfl
    · left; rw [e, Num.may_fair ma]
    · right; rw [e, Num.may_fair mb]
theorem Iv.meet_real {x y : Iv} (rx : x.Real) (ry : y.Real) : Iv.meet [x, y] = Iv.make (Num.most [x.lo, y.lo]) (Num.least [x.hi, y.hi]) := by
  have ag : Iv.allGood [x, y] = true := by
    simp only [Iv.allGood, List.all_cons, List.all_nil, Iv.fair_empty, rx.good, ry.good]; decide
  unfold Iv.meet Iv.los Iv.his
  rw [if_pos ag, Iv.goods_two rx ry]; rfl
theorem Iv.meet_one {x : Iv} (h : x.lo.ok ∧ x.hi.ok) : Iv.meet [x] = x.fair := by
  rcases Iv.bad_or_real h with b | r
  · have ag : Iv.allGood [x] = false := by
      simp only [Iv.allGood, List.all_cons, List.all_nil, Iv.fair_empty, b]; decide
    unfold Iv.meet
    rw [if_neg (by rw [ag]; decide)]
    unfold Iv.bad at b
    unfold Iv.fair
    cases hm : x.may with
    | false => rfl
    | true =>
      rw [hm] at b
      simp at b
      rw [if_pos rfl]; exact (Iv.empty_may hm b).symm
  · have ag : Iv.allGood [x] = true := by
      simp only [Iv.allGood, List.all_cons, List.all_nil, Iv.fair_empty, r.good]; decide
    have g : Iv.goods [x] = [x] := by simp only [Iv.goods, r.fair, r.some]; rw [if_neg (by decide)]
    have e1 : Num.most [x.lo] = x.lo := by
      have s := Num.most_spec [x.lo] (by simp; exact r.loo)
      have k1 := s.2.2.1 x.lo (by simp)
      rw [Num.may_fair r.lom] at k1
      refine Num.val_inj s.1 r.lom s.2.1 r.loo ?_
      rcases s.2.2.2 with e | ⟨z, hz, e⟩
      · have := (Num.val_le r.lom r.loo).1
        rw [e, Num.val_inf] at k1 ⊢; simp at k1 ⊢; omega
      · simp at hz; subst hz; rw [e, Num.may_fair r.lom]
    have e2 : Num.least [x.hi] = x.hi := by
      have s := Num.least_spec [x.hi] (by simp; exact r.hio)
      have k1 := s.2.2.1 x.hi (by simp)
      rw [Num.may_fair r.him] at k1
      refine Num.val_inj s.1 r.him s.2.1 r.hio ?_
      rcases s.2.2.2 with e | ⟨z, hz, e⟩
      · have := (Num.val_le r.him r.hio).2
        rw [e, Num.val_inf] at k1 ⊢; simp at k1 ⊢; omega
      · simp at hz; subst hz; rw [e, Num.may_fair r.him]
    have : Iv.meet [x] = Iv.make (Num.most [x.lo]) (Num.least [x.hi]) := by
      unfold Iv.meet Iv.los Iv.his
      rw [if_pos ag, g]; rfl
    rw [this, e1, e2, r.fair, Iv.make_real (by rw [Num.may_fair r.lom, Num.may_fair r.him]; exact ⟨rfl, r.lom, r.him, r.loo, r.hio, r.le, r.lt, r.gt⟩), Num.may_fair r.lom, Num.may_fair r.him]
    have := r.some
    cases x; simp_all
theorem Iv.meet_one_real {x : Iv} (r : x.Real) : Iv.meet [x] = x := by rw [Iv.meet_one ⟨r.loo, r.hio⟩, r.fair]
end Go.Proofs.YtoghalnnmhpfmaaGreat.Ev

/- What is left of operands, as functions of values; what is left is within what was there, and of an empty result nothing is left: plain Lean. -/
namespace Go.Proofs.YtoghalnnmhpfmaaGreat.Ev
open Go

/-- an interval, and whether it has nought -/
structure Opd where
  iv : Iv
  nought : Bool
def Opd.of (x : Iv) : Opd := ⟨Iv.meet [x], Iv.has x Num.zero⟩
def Opd.part (x z y : Opd) : Opd := if (z.nought && y.nought) = true then x else Opd.of (Iv.meet [x.iv, Iv.div z.iv y.iv])
def bkPlus (z x y : Iv) : Iv × Iv := (Iv.meet [x, Iv.sub z y], Iv.meet [y, Iv.sub z (Iv.meet [x, Iv.sub z y])])
def bkTimes (z x y : Iv) : Iv × Iv :=
  if (Opd.of z).iv.empty = true then (Iv.none, Iv.none)
  else ((Opd.part (Opd.of x) (Opd.of z) (Opd.of y)).iv, (Opd.part (Opd.of y) (Opd.of z) (Opd.part (Opd.of x) (Opd.of z) (Opd.of y))).iv)
/-- the divisor, but for the point nought -/
def Opd.by (y : Iv) : Opd := if (Opd.of y).iv = Iv.point Num.zero then Opd.of Iv.none else Opd.of y
def Opd.top (z x y : Iv) : Opd := Opd.of (Iv.meet [x, Iv.mul (Opd.of z).iv (Opd.by y).iv])
def bkOver (z x y : Iv) : Iv × Iv :=
  if (Opd.of z).iv.empty = true then (Iv.none, Iv.none)
  else ((Opd.top z x y).iv, (Opd.part (Opd.by y) (Opd.top z x y) (Opd.of z)).iv)
def bkSqr (z x : Iv) : Iv := Iv.hull [Iv.meet [x, Iv.root z], Iv.meet [x, Iv.neg (Iv.root z)]]
abbrev Iv.fit (x : Iv) : Prop := x.lo.ok ∧ x.hi.ok
theorem Iv.meet2_ok {x y : Iv} (hx : x.fit) (hy : y.fit) : (Iv.meet [x, y]).fit := Iv.meet_ok (all2 hx hy)
theorem Iv.meet1_ok {x : Iv} (hx : x.fit) : (Iv.meet [x]).fit := Iv.meet_ok (all1 hx)
theorem Iv.sub_fit {x y : Iv} (hx : x.fit) (hy : y.fit) : (Iv.sub x y).fit := Iv.sub_ok hx hy
theorem Iv.div_fit {x y : Iv} (hx : x.fit) (hy : y.fit) : (Iv.div x y).fit := Iv.div_ok hx hy
theorem Iv.mul_fit {x y : Iv} (hx : x.fit) (hy : y.fit) : (Iv.mul x y).fit := Iv.mul_ok hx.1 hx.2 hy.1 hy.2
theorem Iv.none_fit : Iv.none.fit := ⟨Num.zero_ok, Num.zero_ok⟩
theorem Opd.of_fit {x : Iv} (h : x.fit) : (Opd.of x).iv.fit := Iv.meet1_ok h
theorem Opd.part_fit {x z y : Opd} (hx : x.iv.fit) (hz : z.iv.fit) (hy : y.iv.fit) : (Opd.part x z y).iv.fit := by
  unfold Opd.part
  split
  · exact hx
  · exact Opd.of_fit (Iv.meet2_ok hx (Iv.div_fit hz hy))
theorem Opd.by_fit {y : Iv} (h : y.fit) : (Opd.by y).iv.fit := by
  unfold Opd.by
  split
  · exact Opd.of_fit Iv.none_fit
  · exact Opd.of_fit h
theorem Opd.top_fit {z x y : Iv} (hz : z.fit) (hx : x.fit) (hy : y.fit) : (Opd.top z x y).iv.fit := Opd.of_fit (Iv.meet2_ok hx (Iv.mul_fit (Opd.of_fit hz) (Opd.by_fit hy)))
end Go.Proofs.YtoghalnnmhpfmaaGreat.Ev

/- The reference's ways back are the program's: plain Lean. -/
namespace Go.Proofs.YtoghalnnmhpfmaaGreat.Ev
open Go

theorem Iv.fair_twice (x : Iv) : x.fair.fair = x.fair := by
  cases h : x.may
  · have e : x.fair = Iv.none := by unfold Iv.fair; rw [if_neg (by rw [h]; decide)]
    rw [e]; decide
  · have e : x.fair = x := by unfold Iv.fair; rw [if_pos h]
    rw [e, e]
theorem Num.least_self {a : Num} (m : a.may = true) (o : a.ok) : Num.least [a] = a := by
  by_cases k : a = Num.inf false
  · subst k; decide
  · exact Num.least_one m o k
theorem Num.most_self {a : Num} (m : a.may = true) (o : a.ok) : Num.most [a] = a := by
  by_cases k : a = Num.inf true
  · subst k; decide
  · exact Num.most_one m o k
theorem Iv.meet_self {x : Iv} (hx : x.fit) : Iv.meet [x] = x.fair := by
  unfold Iv.meet
  cases ex : x.fair.empty
  · have R := Iv.fair_real ex hx.1 hx.2
    have e := Iv.make_self R
    have f := Iv.fair_good ex
    simp [Iv.allGood, Iv.los, Iv.his, Iv.goods, ex]
    rw [f, Num.most_self R.lom R.loo, Num.least_self R.him R.hio, e]
  · simp [Iv.allGood, ex]
    exact (Iv.none_of ex).symm
theorem Iv.make_fair (lo hi : Num) : (Iv.make lo hi).fair = Iv.make lo hi := by rw [Iv.make_eq]; exact Iv.fair_twice _
theorem Iv.none_fair : Iv.none.fair = Iv.none := by decide
theorem Iv.meet_fair (l : List Iv) : (Iv.meet l).fair = Iv.meet l := by
  unfold Iv.meet
  split
  · exact Iv.make_fair _ _
  · exact Iv.none_fair
theorem Iv.meet2_fair (x y : Iv) : Iv.meet [x.fair, y] = Iv.meet [x, y] := by
  rw [← Iv.rmeet_eq, ← Iv.rmeet_eq]; unfold Iv.rmeet; rw [Iv.fair_twice]
theorem Iv.has_fairs (x : Iv) (n : Num) : Iv.has x.fair n = Iv.has x n := by unfold Iv.has Iv.within; rw [Iv.fair_twice]
theorem Iv.div_fair {x y : Iv} (hx : x.fit) (hy : y.fit) : Iv.div x.fair y.fair = Iv.div x y := by
  have fx := Iv.fair_oks hx.1 hx.2
  have fy := Iv.fair_oks hy.1 hy.2
  rw [← Iv.rdivs_eq hx.1 hx.2 hy.1 hy.2, ← Iv.rdivs_eq fx.1 fx.2 fy.1 fy.2]
  unfold Iv.rdivs; rw [Iv.fair_twice, Iv.fair_twice]
theorem Iv.div_fair1 {x y : Iv} (hx : x.fit) (hy : y.fit) : Iv.div x.fair y = Iv.div x y := by
  have fx := Iv.fair_oks hx.1 hx.2
  rw [← Iv.rdivs_eq hx.1 hx.2 hy.1 hy.2, ← Iv.rdivs_eq fx.1 fx.2 hy.1 hy.2]
  unfold Iv.rdivs; rw [Iv.fair_twice]
theorem Iv.div_fair2 {x y : Iv} (hx : x.fit) (hy : y.fit) : Iv.div x y.fair = Iv.div x y := by
  have fy := Iv.fair_oks hy.1 hy.2
  rw [← Iv.rdivs_eq hx.1 hx.2 hy.1 hy.2, ← Iv.rdivs_eq hx.1 hx.2 fy.1 fy.2]
  unfold Iv.rdivs; rw [Iv.fair_twice]
/-- a part, by values -/
def Iv.rpart (x z y : Iv) : Iv := if (Iv.has z Num.zero && Iv.has y Num.zero) = true then x.fair else Iv.meet [x, Iv.div z y]
theorem Opd.of_iv {x : Iv} (hx : x.fit) : (Opd.of x).iv = x.fair := Iv.meet_self hx
theorem Opd.of_fair {x : Iv} (hx : x.fit) : Opd.of x.fair = Opd.of x := by
  unfold Opd.of
  rw [Iv.meet_self (Iv.fair_oks hx.1 hx.2), Iv.meet_self hx, Iv.fair_twice, Iv.has_fairs]
theorem Opd.part_of {x z y : Iv} (hx : x.fit) (hz : z.fit) (hy : y.fit) : Opd.part (Opd.of x) (Opd.of z) (Opd.of y) = Opd.of (Iv.rpart x z y) := by
  unfold Opd.part Iv.rpart
  rw [Opd.of_iv hx, Opd.of_iv hz, Opd.of_iv hy]
  show (if (Iv.has z Num.zero && Iv.has y Num.zero) = true then Opd.of x else Opd.of (Iv.meet [x.fair, Iv.div z.fair y.fair])) = _
  split
  · exact (Opd.of_fair hx).symm
  · rw [Iv.meet2_fair, Iv.div_fair hz hy]
theorem Iv.rpart_fair (x z y : Iv) : (Iv.rpart x z y).fair = Iv.rpart x z y := by
  unfold Iv.rpart
  split
  · exact Iv.fair_twice _
  · exact Iv.meet_fair _
theorem Iv.rpart_fit {x z y : Iv} (hx : x.fit) (hz : z.fit) (hy : y.fit) : (Iv.rpart x z y).fit := by
  unfold Iv.rpart
  split
  · exact Iv.fair_oks hx.1 hx.2
  · exact Iv.meet2_ok hx (Iv.div_fit hz hy)
theorem Iv.rpart_z {x z y : Iv} (hz : z.fit) (hy : y.fit) : Iv.rpart x z.fair y = Iv.rpart x z y := by
  unfold Iv.rpart; rw [Iv.has_fairs, Iv.div_fair1 hz hy]
theorem Iv.rpart_y {x z y : Iv} (hz : z.fit) (hy : y.fit) : Iv.rpart x z y.fair = Iv.rpart x z y := by
  unfold Iv.rpart; rw [Iv.has_fairs, Iv.div_fair2 hz hy]
theorem times_is {z x y : Iv} (hz : z.fit) (hx : x.fit) (hy : y.fit) : bkTimes z x y = if z.fair.empty = true then (z.fair, z.fair) else (Iv.rpart x z.fair y, Iv.rpart y z.fair (Iv.rpart x z.fair y)) := by
  unfold bkTimes
  rw [Opd.of_iv hz]
  split
  · rename_i h; rw [Iv.none_of h]
  · have p := Opd.part_of hx hz hy
    have f := Iv.rpart_fit hx hz hy
    rw [p, Opd.part_of hy hz f, Opd.of_iv f, Opd.of_iv (Iv.rpart_fit hy hz f), Iv.rpart_fair, Iv.rpart_fair, Iv.rpart_z hz hy, Iv.rpart_z hz f]
/-- the divisor, but for the point nought -/
def Iv.rby (y : Iv) : Iv := if y.fair = Iv.point Num.zero then Iv.none else y.fair
theorem Iv.rby_fit {y : Iv} (hy : y.fit) : (Iv.rby y).fit := by
  unfold Iv.rby
  split
  · exact Iv.none_fit
  · exact Iv.fair_oks hy.1 hy.2
theorem Iv.rby_fair (y : Iv) : (Iv.rby y).fair = Iv.rby y := by
  unfold Iv.rby
  split
  · exact Iv.none_fair
  · exact Iv.fair_twice _
theorem Opd.by_of {y : Iv} (hy : y.fit) : Opd.by y = Opd.of (Iv.rby y) := by
  unfold Opd.by Iv.rby
  rw [Opd.of_iv hy]
  split
  · rfl
  · exact (Opd.of_fair hy).symm
theorem over_is {z x y : Iv} (hz : z.fit) (hx : x.fit) (hy : y.fit) : bkOver z x y = if z.fair.empty = true then (z.fair, z.fair) else
    (Iv.meet [x, Iv.mul z.fair (Iv.rby y)], Iv.rpart (Iv.rby y) (Iv.meet [x, Iv.mul z.fair (Iv.rby y)]) z.fair) := by
  unfold bkOver
  rw [Opd.of_iv hz]
  split
  · rename_i h; rw [Iv.none_of h]
  · have d := Iv.rby_fit hy
    have m := Iv.meet2_ok hx (Iv.mul_fit (Iv.fair_oks hz.1 hz.2 : z.fair.fit) d)
    unfold Opd.top
    rw [Opd.by_of hy, Opd.of_iv hz, Opd.of_iv d, Iv.rby_fair, Opd.part_of d m hz, Opd.of_iv m, Opd.of_iv (Iv.rpart_fit d m hz), Iv.rpart_fair, Iv.meet_fair, Iv.rpart_y m hz]
end Go.Proofs.YtoghalnnmhpfmaaGreat.Ev

/- Contracts of the reference: what is left of operands, but for sums. Printed by gen.py. -/
namespace Go.Proofs.YtoghalnnmhpfmaaGreat.Ev
open Go Go.Proofs
set_option linter.unusedVariables false
set_option linter.unusedSimpArgs false

theorem c_r10part (x : Iv) (hx : x.fit) (z : Iv) (hz : z.fit) (y : Iv) (hy : y.fit) : ∃ t : Iv, t = Iv.rpart x z y ∧ CallsA Tryz.prog 66 [x.av, z.av, y.av] t.av := by
  refine ⟨_, rfl, ?_⟩
  generalize hr : Iv.rpart x z y = r
  have e1 : (Iv.has z Num.zero && Iv.has y Num.zero) = true → r = x.fair := by intro h; rw [← hr]; unfold Iv.rpart; rw [if_pos h]
  have e2 : ¬ (Iv.has z Num.zero && Iv.has y Num.zero) = true → r = Iv.meet [x, Iv.div z y] := by intro h; rw [← hr]; unfold Iv.rpart; rw [if_neg h]
  have f1 : (Iv.div z y).fit := Iv.div_fit hz hy
  clear hr
  refine callsA_of hG hm Tryz.func66 (by kernel_rfl) ?_
  intro E hE lp hl'
  cbv
  (apply E_callX hE (c_r8Has ⟨_, ⟨_, _, _, _⟩, ⟨_, _, _, _⟩⟩ ⟨0, false, 0, 0⟩ ?_ ?_ ?_); (case hf => rfl); (case hc => (cbv <;> trivial)); (case hle => exact u_up); all_goals (first | (intro a ha; cbv) | (first | exact Num.zero_ok | exact hz.1 | exact hz.2)))
  (apply E_callX hE (c_r8Has ⟨_, ⟨_, _, _, _⟩, ⟨_, _, _, _⟩⟩ ⟨0, false, 0, 0⟩ ?_ ?_ ?_); (case hf => rfl); (case hc => (cbv <;> trivial)); (case hle => exact u_up); all_goals (first | (intro b hb; cbv) | (first | exact Num.zero_ok | exact hy.1 | exact hy.2)))
  replace ha : a = Iv.has z Num.zero := ha
  replace hb : b = Iv.has y Num.zero := hb
  rw [← ha, ← hb] at e1 e2
  clear ha hb

  refine E_br hE (fun g1 => ?_) (fun g1 => ?_) <;> cbv
  · refine E_br hE (fun g2 => ?_) (fun g2 => ?_) <;> cbv
    · have M := e1 (by rw [g1, g2]; rfl)
      (apply E_callX hE (c_r8Fair ⟨_, ⟨_, _, _, _⟩, ⟨_, _, _, _⟩⟩ ?_ ?_); (case hf => rfl); (case hc => (cbv <;> trivial)); (case hle => exact u_up); all_goals (first | (intro t ht; cbv) | (first | exact hx.1 | exact hx.2)))
      have T : t = r := by rw [M]; exact ht
      rw [T]; exact ⟨rfl, rfl, rfl, rfl, rfl, rfl, rfl, rfl, rfl, trivial⟩
    · have M := e2 (by rw [g1, g2]; decide)
      (apply E_pcallX hE (c_r9Div ⟨_, ⟨_, _, _, _⟩, ⟨_, _, _, _⟩⟩ ⟨_, ⟨_, _, _, _⟩, ⟨_, _, _, _⟩⟩ ?_ ?_ ?_ ?_); (case hm => rfl); (case hle => exact u_up); all_goals (first | (intro d hd; cbv) | (first | exact hz.1 | exact hz.2 | exact hy.1 | exact hy.2)))
      replace hd : d = Iv.div z y := hd
      rw [← hd] at f1 M
      (apply E_pcallX hE (c_r8Two ⟨_, ⟨_, _, _, _⟩, ⟨_, _, _, _⟩⟩ ⟨_, ⟨_, _, _, _⟩, ⟨_, _, _, _⟩⟩ ?_ ?_); (case hm => rfl); (case hle => exact u_up); all_goals (first | (intro t ht; cbv) | (first | exact hx | exact f1)))
      have T : t = r := by rw [M]; exact ht
      rw [T]; exact ⟨rfl, rfl, rfl, rfl, rfl, rfl, rfl, rfl, rfl, trivial⟩
  · have M := e2 (by rw [g1]; simp)
    (apply E_pcallX hE (c_r9Div ⟨_, ⟨_, _, _, _⟩, ⟨_, _, _, _⟩⟩ ⟨_, ⟨_, _, _, _⟩, ⟨_, _, _, _⟩⟩ ?_ ?_ ?_ ?_); (case hm => rfl); (case hle => exact u_up); all_goals (first | (intro d hd; cbv) | (first | exact hz.1 | exact hz.2 | exact hy.1 | exact hy.2)))
    replace hd : d = Iv.div z y := hd
    rw [← hd] at f1 M
    (apply E_pcallX hE (c_r8Two ⟨_, ⟨_, _, _, _⟩, ⟨_, _, _, _⟩⟩ ⟨_, ⟨_, _, _, _⟩, ⟨_, _, _, _⟩⟩ ?_ ?_); (case hm => rfl); (case hle => exact u_up); all_goals (first | (intro t ht; cbv) | (first | exact hx | exact f1)))
    have T : t = r := by rw [M]; exact ht
    rw [T]; exact ⟨rfl, rfl, rfl, rfl, rfl, rfl, rfl, rfl, rfl, trivial⟩

theorem c_r10Times (z : Iv) (hz : z.fit) (x : Iv) (hx : x.fit) (y : Iv) (hy : y.fit) : ∃ t : Iv × Iv, t = bkTimes z x y ∧ CallsA Tryz.prog 27 [z.av, x.av, y.av] (.tup [t.1.av, t.2.av]) := by
  refine ⟨_, rfl, ?_⟩
  generalize hr : bkTimes z x y = r
  rw [times_is hz hx hy] at hr
  have e1 : z.fair.empty = true → r = (z.fair, z.fair) := by intro h; rw [← hr, if_pos h]
  have e2 : ¬ z.fair.empty = true → r = (Iv.rpart x z.fair y, Iv.rpart y z.fair (Iv.rpart x z.fair y)) := by intro h; rw [← hr, if_neg h]
  have fz : z.fair.fit := Iv.fair_oks hz.1 hz.2
  have fp : (Iv.rpart x z.fair y).fit := Iv.rpart_fit hx fz hy
  clear hr
  refine callsA_of hG hm Tryz.func27 (by kernel_rfl) ?_
  intro E hE lp hl'
  cbv
  (apply E_callX hE (c_r8Fair ⟨_, ⟨_, _, _, _⟩, ⟨_, _, _, _⟩⟩ ?_ ?_); (case hf => rfl); (case hc => (cbv <;> trivial)); (case hle => exact u_up); all_goals (first | (intro c hc; cbv) | (first | exact hz.1 | exact hz.2)))
  replace hc : c = z.fair := hc
  rw [← hc] at e1 e2 fz fp
  clear hc
  refine E_br hE (fun g1 => ?_) (fun g1 => ?_) <;> cbv
  · rw [e1 g1]; exact ⟨⟨rfl, rfl, rfl, rfl, rfl, rfl, rfl, rfl, rfl, trivial⟩, ⟨rfl, rfl, rfl, rfl, rfl, rfl, rfl, rfl, rfl, trivial⟩, trivial⟩
  have M := e2 (by rw [g1]; decide)
  clear e1 e2
  (apply E_callX hE (c_r10part ⟨_, ⟨_, _, _, _⟩, ⟨_, _, _, _⟩⟩ ?_ ⟨_, ⟨_, _, _, _⟩, ⟨_, _, _, _⟩⟩ ?_ ⟨_, ⟨_, _, _, _⟩, ⟨_, _, _, _⟩⟩ ?_); (case hf => rfl); (case hc => (cbv <;> trivial)); (case hle => exact u_up); all_goals (first | (intro a ha; cbv) | (first | exact hx | exact fz | exact hy)))
  replace ha : a = Iv.rpart x c y := ha
  rw [← ha] at M fp
  (apply E_pcallX hE (c_r10part ⟨_, ⟨_, _, _, _⟩, ⟨_, _, _, _⟩⟩ ?_ ⟨_, ⟨_, _, _, _⟩, ⟨_, _, _, _⟩⟩ ?_ ⟨_, ⟨_, _, _, _⟩, ⟨_, _, _, _⟩⟩ ?_); (case hm => rfl); (case hle => exact u_up); all_goals (first | (intro b hb; cbv) | (first | exact hy | exact fz | exact fp)))
  replace hb : b = Iv.rpart y c a := hb
  rw [← hb] at M
  rw [M]; exact ⟨⟨rfl, rfl, rfl, rfl, rfl, rfl, rfl, rfl, rfl, trivial⟩, ⟨rfl, rfl, rfl, rfl, rfl, rfl, rfl, rfl, rfl, trivial⟩, trivial⟩

theorem c_r10Over (z : Iv) (hz : z.fit) (x : Iv) (hx : x.fit) (y : Iv) (hy : y.fit) : ∃ t : Iv × Iv, t = bkOver z x y ∧ CallsA Tryz.prog 29 [z.av, x.av, y.av] (.tup [t.1.av, t.2.av]) := by
  refine ⟨_, rfl, ?_⟩
  generalize hr : bkOver z x y = r
  rw [over_is hz hx hy] at hr
  have e1 : z.fair.empty = true → r = (z.fair, z.fair) := by intro h; rw [← hr, if_pos h]
  have e2 : ¬ z.fair.empty = true → ∀ d, d = Iv.rby y → r = (Iv.meet [x, Iv.mul z.fair d], Iv.rpart d (Iv.meet [x, Iv.mul z.fair d]) z.fair) := by intro h d hd; rw [← hr, if_neg h, hd]
  have by1 : y.fair = Iv.point Num.zero → Iv.rby y = Iv.none := by intro h; unfold Iv.rby; rw [if_pos h]
  have by2 : ¬ y.fair = Iv.point Num.zero → Iv.rby y = y.fair := by intro h; unfold Iv.rby; rw [if_neg h]
  have fz : z.fair.fit := Iv.fair_oks hz.1 hz.2
  have fd := Iv.rby_fit hy
  have fy : y.fair.fit := Iv.fair_oks hy.1 hy.2
  clear hr
  refine callsA_of hG hm Tryz.func29 (by kernel_rfl) ?_
  intro E hE lp hl'
  cbv
  (apply E_callX hE (c_r8Fair ⟨_, ⟨_, _, _, _⟩, ⟨_, _, _, _⟩⟩ ?_ ?_); (case hf => rfl); (case hc => (cbv <;> trivial)); (case hle => exact u_up); all_goals (first | (intro c hc; cbv) | (first | exact hz.1 | exact hz.2)))
  replace hc : c = z.fair := hc
  rw [← hc] at e1 e2 fz
  clear hc
  refine E_br hE (fun g1 => ?_) (fun g1 => ?_) <;> cbv
  · rw [e1 g1]; exact ⟨⟨rfl, rfl, rfl, rfl, rfl, rfl, rfl, rfl, rfl, trivial⟩, ⟨rfl, rfl, rfl, rfl, rfl, rfl, rfl, rfl, rfl, trivial⟩, trivial⟩
  have M := e2 (by rw [g1]; decide)
  clear e1 e2
  (apply E_callX hE (c_r8Fair ⟨_, ⟨_, _, _, _⟩, ⟨_, _, _, _⟩⟩ ?_ ?_); (case hf => rfl); (case hc => (cbv <;> trivial)); (case hle => exact u_up); all_goals (first | (intro d hd; cbv) | (first | exact hy.1 | exact hy.2)))
  replace hd : d = y.fair := hd
  rw [← hd] at by1 by2 fy
  clear hd
  (apply E_pcallX hE (c_r8Point ⟨0, false, 0, 0⟩ ?_); (case hm => rfl); (case hle => exact u_up); all_goals (first | (intro p hp; cbv) | (exact Num.zero_ok)))
  replace hp : p = Iv.point Num.zero := hp
  have EQ := ivEq_of hE d p

  refine E_br hE (fun g3 => ?_) (fun g3 => ?_) <;> cbv
  · have bp : d = Iv.point Num.zero := (of_decide_eq_true (EQ.symm.trans g3)).trans hp
    clear EQ g3
    (apply E_callX hE (c_r8None); (case hf => rfl); (case hc => (cbv <;> trivial)); (case hle => exact u_up); all_goals (first | (intro e he; cbv) | (assumption)))
    have M := M e ((by1 bp).trans (show e = Iv.none from he).symm).symm
    rw [by1 bp, ← show e = Iv.none from he] at fd
    have fm : (Iv.mul c e).fit := Iv.mul_fit fz fd
    have fa : (Iv.meet [x, Iv.mul c e]).fit := Iv.meet2_ok hx fm
    (apply E_pcallX hE (c_r9Mul ⟨_, ⟨_, _, _, _⟩, ⟨_, _, _, _⟩⟩ ⟨_, ⟨_, _, _, _⟩, ⟨_, _, _, _⟩⟩ ?_ ?_ ?_ ?_); (case hm => rfl); (case hle => exact u_up); all_goals (first | (intro m hm_; cbv) | (first | exact fz.1 | exact fz.2 | exact fd.1 | exact fd.2)))
    replace hm_ : m = Iv.mul c e := hm_
    rw [← hm_] at fm fa M
    (apply E_pcallX hE (c_r8Two ⟨_, ⟨_, _, _, _⟩, ⟨_, _, _, _⟩⟩ ⟨_, ⟨_, _, _, _⟩, ⟨_, _, _, _⟩⟩ ?_ ?_); (case hm => rfl); (case hle => exact u_up); all_goals (first | (intro a ha; cbv) | (first | exact hx | exact fm)))
    replace ha : a = Iv.meet [x, m] := ha
    rw [← ha] at fa M
    (apply E_pcallX hE (c_r10part ⟨_, ⟨_, _, _, _⟩, ⟨_, _, _, _⟩⟩ ?_ ⟨_, ⟨_, _, _, _⟩, ⟨_, _, _, _⟩⟩ ?_ ⟨_, ⟨_, _, _, _⟩, ⟨_, _, _, _⟩⟩ ?_); (case hm => rfl); (case hle => exact u_up); all_goals (first | (intro b hb; cbv) | (first | exact fd | exact fa | exact fz)))
    replace hb : b = Iv.rpart e a c := hb
    rw [← hb] at M
    rw [M]; exact ⟨⟨rfl, rfl, rfl, rfl, rfl, rfl, rfl, rfl, rfl, trivial⟩, ⟨rfl, rfl, rfl, rfl, rfl, rfl, rfl, rfl, rfl, trivial⟩, trivial⟩
  · have nb : ¬ d = Iv.point Num.zero := fun k => (of_decide_eq_false (EQ.symm.trans g3)) (k.trans hp.symm)
    clear EQ g3
    have M := M d (by2 nb).symm
    rw [by2 nb] at fd
    have fm : (Iv.mul c d).fit := Iv.mul_fit fz fd
    have fa : (Iv.meet [x, Iv.mul c d]).fit := Iv.meet2_ok hx fm
    (apply E_pcallX hE (c_r9Mul ⟨_, ⟨_, _, _, _⟩, ⟨_, _, _, _⟩⟩ ⟨_, ⟨_, _, _, _⟩, ⟨_, _, _, _⟩⟩ ?_ ?_ ?_ ?_); (case hm => rfl); (case hle => exact u_up); all_goals (first | (intro m hm_; cbv) | (first | exact fz.1 | exact fz.2 | exact fd.1 | exact fd.2)))
    replace hm_ : m = Iv.mul c d := hm_
    rw [← hm_] at fm fa M
    (apply E_pcallX hE (c_r8Two ⟨_, ⟨_, _, _, _⟩, ⟨_, _, _, _⟩⟩ ⟨_, ⟨_, _, _, _⟩, ⟨_, _, _, _⟩⟩ ?_ ?_); (case hm => rfl); (case hle => exact u_up); all_goals (first | (intro a ha; cbv) | (first | exact hx | exact fm)))
    replace ha : a = Iv.meet [x, m] := ha
    rw [← ha] at fa M
    (apply E_pcallX hE (c_r10part ⟨_, ⟨_, _, _, _⟩, ⟨_, _, _, _⟩⟩ ?_ ⟨_, ⟨_, _, _, _⟩, ⟨_, _, _, _⟩⟩ ?_ ⟨_, ⟨_, _, _, _⟩, ⟨_, _, _, _⟩⟩ ?_); (case hm => rfl); (case hle => exact u_up); all_goals (first | (intro b hb; cbv) | (first | exact fd | exact fa | exact fz)))
    replace hb : b = Iv.rpart d a c := hb
    rw [← hb] at M
    rw [M]; exact ⟨⟨rfl, rfl, rfl, rfl, rfl, rfl, rfl, rfl, rfl, trivial⟩, ⟨rfl, rfl, rfl, rfl, rfl, rfl, rfl, rfl, rfl, trivial⟩, trivial⟩

end Go.Proofs.YtoghalnnmhpfmaaGreat.Ev

/- What the laws of rules and of parts ask for; two intervals cell by cell. -/
namespace Go.Proofs.YtoghalnnmhpfmaaGreat.Ev
open Go Go.Proofs
set_option linter.unusedVariables false
set_option linter.unusedSimpArgs false
theorem iv_chain {x y : Iv} (e : x = y) : ((x.empty == y.empty && (decide (x.lo.kind = y.lo.kind) && (x.lo.neg == y.lo.neg && (decide (x.lo.m = y.lo.m) && (decide (x.lo.e = y.lo.e) &&
    (decide (x.hi.kind = y.hi.kind) && (x.hi.neg == y.hi.neg && (decide (x.hi.m = y.hi.m) && decide (x.hi.e = y.hi.e))))))))) : Bool) = true := by subst e; simp
end Go.Proofs.YtoghalnnmhpfmaaGreat.Ev

/- Contracts: what is left of operands. Printed by gen.py out of C25.spec. -/
namespace Go.Proofs.YtoghalnnmhpfmaaGreat.Ev
open Go Go.Proofs
set_option linter.unusedVariables false
set_option linter.unusedSimpArgs false
def Opd.av (x : Opd) : AV := .agg [.bool (.s x.iv.empty), .int .i64 (.s x.iv.lo.kind), .bool (.s x.iv.lo.neg), .int .u64 (.s x.iv.lo.m), .int .i64 (.s x.iv.lo.e),
  .int .i64 (.s x.iv.hi.kind), .bool (.s x.iv.hi.neg), .int .u64 (.s x.iv.hi.m), .int .i64 (.s x.iv.hi.e), .bool (.s x.nought)]
theorem slcG1 {a z : Iv} : sle2 (.slc 9 (.l 1) (fun i => getRow [a.cells] (Int.ofNat i))) (.slc 9 (.s 1) (fun i => Iv.cells ([a].getD i z))) := by
  refine ⟨rfl, rfl, fun i hi => ?_⟩
  match i, hi with
  | 0, _ => exact iv_cells_self
  | i + 1, hi => exact absurd hi (by simp [SI.val])
theorem iv_chain_iff {x y : Iv} : ((x.empty == y.empty && (decide (x.lo.kind = y.lo.kind) && (x.lo.neg == y.lo.neg && (decide (x.lo.m = y.lo.m) && (decide (x.lo.e = y.lo.e) &&
    (decide (x.hi.kind = y.hi.kind) && (x.hi.neg == y.hi.neg && (decide (x.hi.m = y.hi.m) && decide (x.hi.e = y.hi.e))))))))) : Bool) = decide (x = y) := by
  by_cases h : x = y
  · rw [decide_eq_true h]; exact iv_chain h
  · rw [decide_eq_false h]
    apply Bool.eq_false_iff.2
    intro k
    simp only [Bool.and_eq_true, decide_eq_true_eq, beq_iff_eq] at k
    obtain ⟨k1, k2, k3, k4, k5, k6, k7, k8, k9⟩ := k
    apply h
    obtain ⟨e, ⟨a1, a2, a3, a4⟩, ⟨b1, b2, b3, b4⟩⟩ := x
    obtain ⟨f, ⟨c1, c2, c3, c4⟩, ⟨d1, d2, d3, d4⟩⟩ := y
    simp only at k1 k2 k3 k4 k5 k6 k7 k8 k9
    subst k1 k2 k3 k4 k5 k6 k7 k8 k9
    rfl

theorem k_ivNone : ∃ t : Iv, (t = Iv.none ∧ (t.lo.ok ∧ t.hi.ok)) ∧ CallsA Tryz.prog 56 [] t.av :=
  withQ (p := fun t : Iv => t.lo.ok ∧ t.hi.ok) c_ivNone Iv.none_fit
set_option maxHeartbeats 4000000
set_option maxRecDepth 10000

theorem c_of (x : Iv) (hx : x.lo.ok ∧ x.hi.ok) : ∃ t : Opd, t = Opd.of x ∧ CallsA Tryz.prog 64 [x.av] t.av := by
  refine ⟨_, rfl, ?_⟩
  generalize hr : Opd.of x = r
  refine callsA_of hG hm Tryz.func64 (by kernel_rfl) ?_
  intro E hE lp hl
  cbv
  repeat' (first
    | (apply E_br_t hE; assumption; cbv)
    | (apply E_br_f hE; assumption; cbv)
    | (refine E_br hE (fun h => ?_) (fun h => ?_) <;> cbv)
    | (refine E_nm hE (fun v hv => ?_); cbv)
    | (apply E_pcallX hE (k_meet1 ⟨_, ⟨_, _, _, _⟩, ⟨_, _, _, _⟩⟩ ?_); (case hm => rfl); (case hle => exact ⟨slcG1, trivial⟩); all_goals (first | (rintro t ⟨ht, ho⟩; cbv) | (first | assumption | exact Num.zero_ok | exact Iv.none_fit | exact Iv.positive_ok)))
    | (apply E_pcallX hE (c_ivHas ⟨_, ⟨_, _, _, _⟩, ⟨_, _, _, _⟩⟩ ⟨_, _, _, _⟩); (case hm => rfl); (case hle => exact u_up); all_goals (first | (intro t ht; cbv) | (assumption)))
    | fail)
  subst_vars
  exact ⟨rfl, rfl, rfl, rfl, rfl, rfl, rfl, rfl, rfl, rfl, trivial⟩

theorem k_of (x : Iv) (hx : x.lo.ok ∧ x.hi.ok) : ∃ t : Opd, (t = Opd.of x ∧ (t.iv.lo.ok ∧ t.iv.hi.ok)) ∧ CallsA Tryz.prog 64 [x.av] t.av :=
  withQ (p := fun t : Opd => t.iv.lo.ok ∧ t.iv.hi.ok) (c_of x hx) (Opd.of_fit hx)

theorem c_part (x : Opd) (hx : x.iv.lo.ok ∧ x.iv.hi.ok) (z : Opd) (hz : z.iv.lo.ok ∧ z.iv.hi.ok) (y : Opd) (hy : y.iv.lo.ok ∧ y.iv.hi.ok) : ∃ t : Opd, t = Opd.part x z y ∧ CallsA Tryz.prog 65 [x.av, z.av, y.av] t.av := by
  refine ⟨_, rfl, ?_⟩
  generalize hr : Opd.part x z y = r
  refine callsA_of hG hm Tryz.func65 (by kernel_rfl) ?_
  intro E hE lp hl
  cbv
  repeat' (first
    | (apply E_br_t hE; assumption; cbv)
    | (apply E_br_f hE; assumption; cbv)
    | (refine E_br hE (fun h => ?_) (fun h => ?_) <;> cbv)
    | (refine E_nm hE (fun v hv => ?_); cbv)
    | (apply E_pcallX hE (k_opDiv ⟨_, ⟨_, _, _, _⟩, ⟨_, _, _, _⟩⟩ ?_ ⟨_, ⟨_, _, _, _⟩, ⟨_, _, _, _⟩⟩ ?_); (case hm => rfl); (case hle => exact u_up); all_goals (first | (rintro t ⟨ht, ho⟩; cbv) | (first | assumption | exact Num.zero_ok | exact Iv.none_fit | exact Iv.positive_ok)))
    | (apply E_pcallX hE (k_meet2 ⟨_, ⟨_, _, _, _⟩, ⟨_, _, _, _⟩⟩ ?_ ⟨_, ⟨_, _, _, _⟩, ⟨_, _, _, _⟩⟩ ?_); (case hm => rfl); (case hle => exact ⟨slcG2, trivial⟩); all_goals (first | (rintro t ⟨ht, ho⟩; cbv) | (first | assumption | exact Num.zero_ok | exact Iv.none_fit | exact Iv.positive_ok)))
    | (apply E_pcallX hE (k_of ⟨_, ⟨_, _, _, _⟩, ⟨_, _, _, _⟩⟩ ?_); (case hm => rfl); (case hle => exact u_up); all_goals (first | (rintro t ⟨ht, ho⟩; cbv) | (first | assumption | exact Num.zero_ok | exact Iv.none_fit | exact Iv.positive_ok)))
    | fail)
  all_goals subst hE
  all_goals (try simp only [realE, SB.val, Opd.part] at *)
  all_goals subst_vars
  all_goals (simp_all [Opd.part])

theorem k_part (x : Opd) (hx : x.iv.lo.ok ∧ x.iv.hi.ok) (z : Opd) (hz : z.iv.lo.ok ∧ z.iv.hi.ok) (y : Opd) (hy : y.iv.lo.ok ∧ y.iv.hi.ok) : ∃ t : Opd, (t = Opd.part x z y ∧ (t.iv.lo.ok ∧ t.iv.hi.ok)) ∧ CallsA Tryz.prog 65 [x.av, z.av, y.av] t.av :=
  withQ (p := fun t : Opd => t.iv.lo.ok ∧ t.iv.hi.ok) (c_part x hx z hz y hy) (Opd.part_fit hx hz hy)

theorem c_bkSqr (z : Iv) (hz : z.lo.ok ∧ z.hi.ok) (x : Iv) (hx : x.lo.ok ∧ x.hi.ok) : ∃ t : Iv, t = bkSqr z x ∧ CallsA Tryz.prog 13 [z.av, x.av] t.av := by
  refine ⟨_, rfl, ?_⟩
  generalize hr : bkSqr z x = r
  refine callsA_of hG hm Tryz.func13 (by kernel_rfl) ?_
  intro E hE lp hl
  cbv
  repeat' (first
    | (apply E_br_t hE; assumption; cbv)
    | (apply E_br_f hE; assumption; cbv)
    | (refine E_br hE (fun h => ?_) (fun h => ?_) <;> cbv)
    | (refine E_nm hE (fun v hv => ?_); cbv)
    | (apply E_callX hE (k_opRoot ⟨_, ⟨_, _, _, _⟩, ⟨_, _, _, _⟩⟩ ?_); (case hf => rfl); (case hc => (cbv <;> trivial)); (case hle => exact u_up); all_goals (first | (rintro t ⟨ht, ho⟩; cbv) | (first | assumption | exact Num.zero_ok | exact Iv.none_fit | exact Iv.positive_ok)))
    | (apply E_pcallX hE (k_opNeg ⟨_, ⟨_, _, _, _⟩, ⟨_, _, _, _⟩⟩ ?_); (case hm => rfl); (case hle => exact u_up); all_goals (first | (rintro t ⟨ht, ho⟩; cbv) | (first | assumption | exact Num.zero_ok | exact Iv.none_fit | exact Iv.positive_ok)))
    | (apply E_pcallX hE (k_meet2 ⟨_, ⟨_, _, _, _⟩, ⟨_, _, _, _⟩⟩ ?_ ⟨_, ⟨_, _, _, _⟩, ⟨_, _, _, _⟩⟩ ?_); (case hm => rfl); (case hle => exact ⟨slcG2, trivial⟩); all_goals (first | (rintro t ⟨ht, ho⟩; cbv) | (first | assumption | exact Num.zero_ok | exact Iv.none_fit | exact Iv.positive_ok)))
    | (apply E_pcallX hE (k_hull2 ⟨_, ⟨_, _, _, _⟩, ⟨_, _, _, _⟩⟩ ?_ ⟨_, ⟨_, _, _, _⟩, ⟨_, _, _, _⟩⟩ ?_); (case hm => rfl); (case hle => exact ⟨slcG2, trivial⟩); all_goals (first | (rintro t ⟨ht, ho⟩; cbv) | (first | assumption | exact Num.zero_ok | exact Iv.none_fit | exact Iv.positive_ok)))
    | fail)
  subst_vars
  exact ⟨rfl, rfl, rfl, rfl, rfl, rfl, rfl, rfl, rfl, trivial⟩

theorem k_bkSqr (z : Iv) (hz : z.lo.ok ∧ z.hi.ok) (x : Iv) (hx : x.lo.ok ∧ x.hi.ok) : ∃ t : Iv, (t = bkSqr z x ∧ (t.lo.ok ∧ t.hi.ok)) ∧ CallsA Tryz.prog 13 [z.av, x.av] t.av :=
  withQ (p := fun t : Iv => t.lo.ok ∧ t.hi.ok) (c_bkSqr z hz x hx) (Iv.hull_ok (all2 (Iv.meet2_ok hx (Iv.root_ok hz)) (Iv.meet2_ok hx (Iv.neg_ok (Iv.root_ok hz).1 (Iv.root_ok hz).2))))

theorem c_bkPlus (z : Iv) (hz : z.lo.ok ∧ z.hi.ok) (x : Iv) (hx : x.lo.ok ∧ x.hi.ok) (y : Iv) (hy : y.lo.ok ∧ y.hi.ok) : ∃ t : Iv × Iv, t = bkPlus z x y ∧ CallsA Tryz.prog 9 [z.av, x.av, y.av] (.tup [t.1.av, t.2.av]) := by
  refine ⟨_, rfl, ?_⟩
  generalize hr : bkPlus z x y = r
  refine callsA_of hG hm Tryz.func9 (by kernel_rfl) ?_
  intro E hE lp hl
  cbv
  repeat' (first
    | (apply E_br_t hE; assumption; cbv)
    | (apply E_br_f hE; assumption; cbv)
    | (refine E_br hE (fun h => ?_) (fun h => ?_) <;> cbv)
    | (refine E_nm hE (fun v hv => ?_); cbv)
    | (apply E_pcallX hE (k_opSub ⟨_, ⟨_, _, _, _⟩, ⟨_, _, _, _⟩⟩ ?_ ⟨_, ⟨_, _, _, _⟩, ⟨_, _, _, _⟩⟩ ?_); (case hm => rfl); (case hle => exact u_up); all_goals (first | (rintro t ⟨ht, ho⟩; cbv) | (first | assumption | exact Num.zero_ok | exact Iv.none_fit | exact Iv.positive_ok)))
    | (apply E_pcallX hE (k_meet2 ⟨_, ⟨_, _, _, _⟩, ⟨_, _, _, _⟩⟩ ?_ ⟨_, ⟨_, _, _, _⟩, ⟨_, _, _, _⟩⟩ ?_); (case hm => rfl); (case hle => exact ⟨slcG2, trivial⟩); all_goals (first | (rintro t ⟨ht, ho⟩; cbv) | (first | assumption | exact Num.zero_ok | exact Iv.none_fit | exact Iv.positive_ok)))
    | fail)
  all_goals simp only [Num.eta, Iv.eta] at *
  subst_vars
  exact ⟨⟨rfl, rfl, rfl, rfl, rfl, rfl, rfl, rfl, rfl, trivial⟩, ⟨rfl, rfl, rfl, rfl, rfl, rfl, rfl, rfl, rfl, trivial⟩, trivial⟩

theorem k_bkPlus (z : Iv) (hz : z.lo.ok ∧ z.hi.ok) (x : Iv) (hx : x.lo.ok ∧ x.hi.ok) (y : Iv) (hy : y.lo.ok ∧ y.hi.ok) : ∃ t : Iv × Iv, (t = bkPlus z x y ∧ ((t.1.lo.ok ∧ t.1.hi.ok) ∧ (t.2.lo.ok ∧ t.2.hi.ok))) ∧ CallsA Tryz.prog 9 [z.av, x.av, y.av] (.tup [t.1.av, t.2.av]) :=
  withQ (p := fun t : Iv × Iv => (t.1.lo.ok ∧ t.1.hi.ok) ∧ (t.2.lo.ok ∧ t.2.hi.ok)) (c_bkPlus z hz x hx y hy) (⟨Iv.meet2_ok hx (Iv.sub_fit hz hy), Iv.meet2_ok hy (Iv.sub_fit hz (Iv.meet2_ok hx (Iv.sub_fit hz hy)))⟩)

theorem bkTimes_fit {z x y : Iv} (hz : z.fit) (hx : x.fit) (hy : y.fit) : (bkTimes z x y).1.fit ∧ (bkTimes z x y).2.fit := by
  unfold bkTimes
  split
  · exact ⟨Iv.none_fit, Iv.none_fit⟩
  · have p := Opd.part_fit (Opd.of_fit hx) (Opd.of_fit hz) (Opd.of_fit hy)
    exact ⟨p, Opd.part_fit (Opd.of_fit hy) (Opd.of_fit hz) p⟩
theorem bkOver_fit {z x y : Iv} (hz : z.fit) (hx : x.fit) (hy : y.fit) : (bkOver z x y).1.fit ∧ (bkOver z x y).2.fit := by
  unfold bkOver
  split
  · exact ⟨Iv.none_fit, Iv.none_fit⟩
  · have p := Opd.top_fit hz hx hy
    exact ⟨p, Opd.part_fit (Opd.by_fit hy) p (Opd.of_fit hz)⟩
theorem times_then {z x y : Iv} (h : (Opd.of z).iv.empty = true) : bkTimes z x y = (Iv.none, Iv.none) := by unfold bkTimes; rw [if_pos h]
theorem times_else {z x y : Iv} (h : (Opd.of z).iv.empty = false) : bkTimes z x y = ((Opd.part (Opd.of x) (Opd.of z) (Opd.of y)).iv, (Opd.part (Opd.of y) (Opd.of z) (Opd.part (Opd.of x) (Opd.of z) (Opd.of y))).iv) := by
  unfold bkTimes; rw [if_neg (by rw [h]; decide)]
theorem over_then {z x y : Iv} (h : (Opd.of z).iv.empty = true) : bkOver z x y = (Iv.none, Iv.none) := by unfold bkOver; rw [if_pos h]
theorem over_else {z x y : Iv} {b a : Opd} (h : (Opd.of z).iv.empty = false) (hb : b = Opd.by y) (ha : a = Opd.of (Iv.meet [x, Iv.mul (Opd.of z).iv b.iv])) : bkOver z x y = (a.iv, (Opd.part b a (Opd.of z)).iv) := by
  unfold bkOver; rw [if_neg (by rw [h]; decide)]; subst hb; subst ha; rfl
theorem by_then {y : Iv} (h : decide ((Opd.of y).iv = Iv.point Num.zero) = true) : Opd.of Iv.none = Opd.by y := by unfold Opd.by; rw [if_pos (of_decide_eq_true h)]
theorem by_else {y : Iv} (h : decide ((Opd.of y).iv = Iv.point Num.zero) = false) : Opd.of y = Opd.by y := by unfold Opd.by; rw [if_neg (of_decide_eq_false h)]

theorem c_bkTimes (z : Iv) (hz : z.lo.ok ∧ z.hi.ok) (x : Iv) (hx : x.lo.ok ∧ x.hi.ok) (y : Iv) (hy : y.lo.ok ∧ y.hi.ok) : ∃ t : Iv × Iv, t = bkTimes z x y ∧ CallsA Tryz.prog 26 [z.av, x.av, y.av] (.tup [t.1.av, t.2.av]) := by
  refine ⟨_, rfl, ?_⟩
  generalize hr : bkTimes z x y = r
  refine callsA_of hG hm Tryz.func26 (by kernel_rfl) ?_
  intro E hE lp hl
  cbv
  repeat' (first
    | (apply E_br_t hE; assumption; cbv)
    | (apply E_br_f hE; assumption; cbv)
    | (refine E_br hE (fun h => ?_) (fun h => ?_) <;> cbv)
    | (refine E_nm hE (fun v hv => ?_); cbv)
    | (apply E_pcallX hE (k_of ⟨_, ⟨_, _, _, _⟩, ⟨_, _, _, _⟩⟩ ?_); (case hm => rfl); (case hle => exact u_up); all_goals (first | (rintro t ⟨ht, ho⟩; cbv) | (first | assumption | exact Num.zero_ok | exact Iv.none_fit | exact Iv.positive_ok)))
    | (apply E_callX hE (k_ivNone); (case hf => rfl); (case hc => (cbv <;> trivial)); (case hle => exact u_up); all_goals (first | (rintro t ⟨ht, ho⟩; cbv) | (first | assumption | exact Num.zero_ok | exact Iv.none_fit | exact Iv.positive_ok)))
    | (apply E_callX hE (k_part ⟨⟨_, ⟨_, _, _, _⟩, ⟨_, _, _, _⟩⟩, _⟩ ?_ ⟨⟨_, ⟨_, _, _, _⟩, ⟨_, _, _, _⟩⟩, _⟩ ?_ ⟨⟨_, ⟨_, _, _, _⟩, ⟨_, _, _, _⟩⟩, _⟩ ?_); (case hf => rfl); (case hc => (cbv <;> trivial)); (case hle => exact u_up); all_goals (first | (rintro t ⟨ht, ho⟩; cbv) | (first | assumption | exact Num.zero_ok | exact Iv.none_fit | exact Iv.positive_ok)))
    | (apply E_pcallX hE (k_part ⟨⟨_, ⟨_, _, _, _⟩, ⟨_, _, _, _⟩⟩, _⟩ ?_ ⟨⟨_, ⟨_, _, _, _⟩, ⟨_, _, _, _⟩⟩, _⟩ ?_ ⟨⟨_, ⟨_, _, _, _⟩, ⟨_, _, _, _⟩⟩, _⟩ ?_); (case hm => rfl); (case hle => exact u_up); all_goals (first | (rintro t ⟨ht, ho⟩; cbv) | (first | assumption | exact Num.zero_ok | exact Iv.none_fit | exact Iv.positive_ok)))
    | fail)
  all_goals subst hE
  all_goals (try simp only [realE, SB.val, Num.eta, Iv.eta] at *)
  all_goals subst_vars
  · rw [times_then ‹_›]; exact ⟨⟨rfl, rfl, rfl, rfl, rfl, rfl, rfl, rfl, rfl, trivial⟩, ⟨rfl, rfl, rfl, rfl, rfl, rfl, rfl, rfl, rfl, trivial⟩, trivial⟩
  · rw [times_else ‹_›]; exact ⟨⟨rfl, rfl, rfl, rfl, rfl, rfl, rfl, rfl, rfl, trivial⟩, ⟨rfl, rfl, rfl, rfl, rfl, rfl, rfl, rfl, rfl, trivial⟩, trivial⟩

theorem k_bkTimes (z : Iv) (hz : z.lo.ok ∧ z.hi.ok) (x : Iv) (hx : x.lo.ok ∧ x.hi.ok) (y : Iv) (hy : y.lo.ok ∧ y.hi.ok) : ∃ t : Iv × Iv, (t = bkTimes z x y ∧ ((t.1.lo.ok ∧ t.1.hi.ok) ∧ (t.2.lo.ok ∧ t.2.hi.ok))) ∧ CallsA Tryz.prog 26 [z.av, x.av, y.av] (.tup [t.1.av, t.2.av]) :=
  withQ (p := fun t : Iv × Iv => (t.1.lo.ok ∧ t.1.hi.ok) ∧ (t.2.lo.ok ∧ t.2.hi.ok)) (c_bkTimes z hz x hx y hy) (bkTimes_fit hz hx hy)

theorem c_bkOver (z : Iv) (hz : z.lo.ok ∧ z.hi.ok) (x : Iv) (hx : x.lo.ok ∧ x.hi.ok) (y : Iv) (hy : y.lo.ok ∧ y.hi.ok) : ∃ t : Iv × Iv, t = bkOver z x y ∧ CallsA Tryz.prog 28 [z.av, x.av, y.av] (.tup [t.1.av, t.2.av]) := by
  refine ⟨_, rfl, ?_⟩
  generalize hr : bkOver z x y = r
  refine callsA_of hG hm Tryz.func28 (by kernel_rfl) ?_
  intro E hE lp hl
  cbv
  repeat' (first
    | (apply E_br_t hE; assumption; cbv)
    | (apply E_br_f hE; assumption; cbv)
    | (refine E_br hE (fun h => ?_) (fun h => ?_) <;> cbv)
    | (refine E_nm hE (fun v hv => ?_); cbv)
    | (apply E_callX hE (k_of ⟨_, ⟨_, _, _, _⟩, ⟨_, _, _, _⟩⟩ ?_); (case hf => rfl); (case hc => (cbv <;> trivial)); (case hle => exact u_up); all_goals (first | (rintro t ⟨ht, ho⟩; cbv) | (first | assumption | exact Num.zero_ok | exact Iv.none_fit | exact Iv.positive_ok)))
    | (apply E_pcallX hE (k_of ⟨_, ⟨_, _, _, _⟩, ⟨_, _, _, _⟩⟩ ?_); (case hm => rfl); (case hle => exact u_up); all_goals (first | (rintro t ⟨ht, ho⟩; cbv) | (first | assumption | exact Num.zero_ok | exact Iv.none_fit | exact Iv.positive_ok)))
    | (apply E_callX hE (k_ivNone); (case hf => rfl); (case hc => (cbv <;> trivial)); (case hle => exact u_up); all_goals (first | (rintro t ⟨ht, ho⟩; cbv) | (first | assumption | exact Num.zero_ok | exact Iv.none_fit | exact Iv.positive_ok)))
    | (apply E_pcallX hE (k_ivPoint ⟨_, _, _, _⟩ ?_); (case hm => rfl); (case hle => exact u_up); all_goals (first | (rintro t ⟨ht, ho⟩; cbv) | (first | assumption | exact Num.zero_ok | exact Iv.none_fit | exact Iv.positive_ok)))
    | (apply E_pcallX hE (k_opMul ⟨_, ⟨_, _, _, _⟩, ⟨_, _, _, _⟩⟩ ?_ ⟨_, ⟨_, _, _, _⟩, ⟨_, _, _, _⟩⟩ ?_); (case hm => rfl); (case hle => exact u_up); all_goals (first | (rintro t ⟨ht, ho⟩; cbv) | (first | assumption | exact Num.zero_ok | exact Iv.none_fit | exact Iv.positive_ok)))
    | (apply E_pcallX hE (k_meet2 ⟨_, ⟨_, _, _, _⟩, ⟨_, _, _, _⟩⟩ ?_ ⟨_, ⟨_, _, _, _⟩, ⟨_, _, _, _⟩⟩ ?_); (case hm => rfl); (case hle => exact ⟨slcG2, trivial⟩); all_goals (first | (rintro t ⟨ht, ho⟩; cbv) | (first | assumption | exact Num.zero_ok | exact Iv.none_fit | exact Iv.positive_ok)))
    | (apply E_pcallX hE (k_part ⟨⟨_, ⟨_, _, _, _⟩, ⟨_, _, _, _⟩⟩, _⟩ ?_ ⟨⟨_, ⟨_, _, _, _⟩, ⟨_, _, _, _⟩⟩, _⟩ ?_ ⟨⟨_, ⟨_, _, _, _⟩, ⟨_, _, _, _⟩⟩, _⟩ ?_); (case hm => rfl); (case hle => exact u_up); all_goals (first | (rintro t ⟨ht, ho⟩; cbv) | (first | assumption | exact Num.zero_ok | exact Iv.none_fit | exact Iv.positive_ok)))
    | fail)
  all_goals subst hE
  all_goals (try simp only [realE, SB.val, Num.eta, Iv.eta] at *)
  all_goals subst_vars
  · rw [over_then ‹_›]; exact ⟨⟨rfl, rfl, rfl, rfl, rfl, rfl, rfl, rfl, rfl, trivial⟩, ⟨rfl, rfl, rfl, rfl, rfl, rfl, rfl, rfl, rfl, trivial⟩, trivial⟩
  · have hb := by_then (y := y) (iv_chain_iff.symm.trans h)
    rw [over_else (a := Opd.of (Iv.meet [x, Iv.mul (Opd.of z).iv (Opd.of Iv.none).iv])) ‹(Opd.of z).iv.empty = false› hb rfl]; exact ⟨⟨rfl, rfl, rfl, rfl, rfl, rfl, rfl, rfl, rfl, trivial⟩, ⟨rfl, rfl, rfl, rfl, rfl, rfl, rfl, rfl, rfl, trivial⟩, trivial⟩
  · have hb := by_else (y := y) (iv_chain_iff.symm.trans h)
    rw [over_else (a := Opd.of (Iv.meet [x, Iv.mul (Opd.of z).iv (Opd.of y).iv])) ‹(Opd.of z).iv.empty = false› hb rfl]; exact ⟨⟨rfl, rfl, rfl, rfl, rfl, rfl, rfl, rfl, rfl, trivial⟩, ⟨rfl, rfl, rfl, rfl, rfl, rfl, rfl, rfl, rfl, trivial⟩, trivial⟩

theorem k_bkOver (z : Iv) (hz : z.lo.ok ∧ z.hi.ok) (x : Iv) (hx : x.lo.ok ∧ x.hi.ok) (y : Iv) (hy : y.lo.ok ∧ y.hi.ok) : ∃ t : Iv × Iv, (t = bkOver z x y ∧ ((t.1.lo.ok ∧ t.1.hi.ok) ∧ (t.2.lo.ok ∧ t.2.hi.ok))) ∧ CallsA Tryz.prog 28 [z.av, x.av, y.av] (.tup [t.1.av, t.2.av]) :=
  withQ (p := fun t : Iv × Iv => (t.1.lo.ok ∧ t.1.hi.ok) ∧ (t.2.lo.ok ∧ t.2.hi.ok)) (c_bkOver z hz x hx y hy) (bkOver_fit hz hx hy)

end Go.Proofs.YtoghalnnmhpfmaaGreat.Ev

/- What an operation makes just of a number of a result is left: plain Lean. -/
namespace Go.Proofs.YtoghalnnmhpfmaaGreat.Ev
open Go

/-- an interval holds a value -/
structure Holds (x : Iv) (v : Int) : Prop where
  r : x.Real
  lo : x.lo.val ≤ v
  hi : v ≤ x.hi.val
/-- ... of any size, scaled -/
structure Spans (x : Iv) (t : Int) : Prop where
  r : x.Real
  lo : x.lo.below t
  hi : x.hi.above t
abbrev Small (v : Int) : Prop := -pw 1048640 < v ∧ v < pw 1048640
theorem Num.below_of {n : Num} {t : Int} (m : n.may = true) (o : n.ok) (h : n.val < pw 1048640) (g : n.val * pw 0 ≤ t) : n.below t := by
  by_cases k : n.kind = 2
  · rcases Num.inf_val m o k with j | j
    · exact .inl (by rw [Num.inf_of m o k, j.1])
    · omega
  · exact .inr ⟨k, g⟩
theorem Num.above_of {n : Num} {t : Int} (m : n.may = true) (o : n.ok) (h : -pw 1048640 < n.val) (g : t ≤ n.val * pw 0) : n.above t := by
  by_cases k : n.kind = 2
  · rcases Num.inf_val m o k with j | j
    · omega
    · exact .inl (by rw [Num.inf_of m o k, j.1])
  · exact .inr ⟨k, g⟩
theorem Holds.spans {x : Iv} {v : Int} (h : Holds x v) : Spans x (v * pw 0) :=
  ⟨h.r, Num.below_of h.r.lom h.r.loo h.r.lt (Int.mul_le_mul_of_nonneg_right h.lo (Int.le_of_lt (pw_pos 0))), Num.above_of h.r.him h.r.hio h.r.gt (Int.mul_le_mul_of_nonneg_right h.hi (Int.le_of_lt (pw_pos 0)))⟩
theorem Spans.part {a c : Iv} {t : Int} (h : Spans a t) (P : Iv.Part a c) : Spans c t := by
  have p0 := pw_pos 0
  have l := P.lo
  have g := P.hi
  refine ⟨P.rc, ?_, ?_⟩
  · rcases h.lo with e | ⟨-, e⟩
    · left
      refine Num.val_inj P.rc.lom (Num.inf_may _) P.rc.loo (Num.inf_ok _) ?_
      have := (Num.val_le P.rc.lom P.rc.loo).1
      rw [e, Num.val_inf] at l
      rw [Num.val_inf]; simp at l ⊢; omega
    · have := Int.mul_le_mul_of_nonneg_right l (Int.le_of_lt p0)
      exact Num.below_of P.rc.lom P.rc.loo P.rc.lt (by omega)
  · rcases h.hi with e | ⟨-, e⟩
    · left
      refine Num.val_inj P.rc.him (Num.inf_may _) P.rc.hio (Num.inf_ok _) ?_
      have := (Num.val_le P.rc.him P.rc.hio).2
      rw [e, Num.val_inf] at g
      rw [Num.val_inf]; simp at g ⊢; omega
    · have := Int.mul_le_mul_of_nonneg_right g (Int.le_of_lt p0)
      exact Num.above_of P.rc.him P.rc.hio P.rc.gt (by omega)
theorem Spans.within {a c : Iv} {t : Int} (h : Spans a t) (hc : c.fit) (w : a.within c = true) : Spans c t := by
  rcases Iv.within_part ⟨h.r.loo, h.r.hio⟩ hc w with b | P
  · rw [h.r.good] at b; cases b
  · exact h.part P
theorem Spans.neg {x : Iv} {t : Int} (h : Spans x t) : Spans (Iv.neg x) (-t) := by
  rw [Iv.neg_real h.r]
  have r := h.r.neg
  have vh : x.hi.opp.val = -x.hi.val := by rw [Num.opp_val, Num.may_fair h.r.him]
  have vl : x.lo.opp.val = -x.lo.val := by rw [Num.opp_val, Num.may_fair h.r.lom]
  refine ⟨r, ?_, ?_⟩
  · show x.hi.opp.below (-t)
    rcases h.hi with e | ⟨-, e⟩
    · left; rw [e]; exact Num.opp_inf _
    · exact Num.below_of r.lom r.loo r.lt (by show x.hi.opp.val * pw 0 ≤ _; rw [vh, Int.neg_mul]; omega)
  · show x.lo.opp.above (-t)
    rcases h.lo with e | ⟨-, e⟩
    · left; rw [e]; exact Num.opp_inf _
    · exact Num.above_of r.him r.hio r.gt (by show _ ≤ x.lo.opp.val * pw 0; rw [vl, Int.neg_mul]; omega)
theorem Holds.neg {x : Iv} {v : Int} (h : Holds x v) : Holds (Iv.neg x) (-v) := by
  rw [Iv.neg_real h.r]
  have l := h.lo
  have g := h.hi
  exact ⟨h.r.neg, by show x.hi.opp.val ≤ -v; rw [Num.opp_val, Num.may_fair h.r.him]; omega, by show -v ≤ x.lo.opp.val; rw [Num.opp_val, Num.may_fair h.r.lom]; omega⟩
theorem make_holds {l u : Num} {v : Int} (ml : l.may = true) (mu : u.may = true) (ol : l.ok) (ou : u.ok) (h1 : l.val ≤ v) (h2 : v ≤ u.val) (s : Small v) : Holds (Iv.make l u) v := by
  have R : (Iv.mk false l u).Real := ⟨rfl, ml, mu, ol, ou, by show l.val ≤ u.val; omega, by show l.val < _; have := s.2; omega, by show _ < u.val; have := s.1; omega⟩
  rw [Iv.make_real (by rw [Num.may_fair ml, Num.may_fair mu]; exact R), Num.may_fair ml, Num.may_fair mu]
  exact ⟨R, h1, h2⟩
theorem Num.add_lo {a b : Num} {t : Int} (ma : a.may = true) (mb : b.may = true) (oa : a.ok) (ob : b.ok) (na : a.val < pw 1048640) (nb : b.val < pw 1048640) (ht : -pw 1048640 < t) (h : a = Num.inf true ∨ a.val + b.val ≤ t) : (Num.add a b false).val ≤ t := by
  by_cases ka : a.kind = 2
  · have e : a = Num.inf true := by
      rcases Num.inf_val ma oa ka with j | j
      · rw [Num.inf_of ma oa ka, j.1]
      · omega
    rw [Num.add_inf false (by rw [Num.may_fair ma]; exact ka), Num.may_fair ma, Num.may_fair mb]
    have n : ¬ (b.kind = 2 ∧ a.neg ≠ b.neg) := by
      rintro ⟨k, d⟩
      rcases Num.inf_val mb ob k with j | j
      · rw [e, j.1] at d; exact d rfl
      · omega
    rw [if_neg n, e, Num.val_inf]; simp; omega
  · by_cases kb : b.kind = 2
    · have e : b = Num.inf true := by
        rcases Num.inf_val mb ob kb with j | j
        · rw [Num.inf_of mb ob kb, j.1]
        · omega
      rw [Num.add_inf2 oa ob false (by rw [Num.may_fair mb]; exact kb), Num.may_fair ma, Num.may_fair mb, if_neg (fun k => ka k.1), e, Num.val_inf]; simp; omega
    · have B := add_best oa ob (by rw [Num.may_fair ma]; exact ka) (by rw [Num.may_fair mb]; exact kb) false
      rw [Num.may_fair ma, Num.may_fair mb] at B
      rcases (B.down rfl).2 with e | e
      · rw [e, Num.val_inf]; simp; omega
      · rcases h with h | h
        · rw [h] at ka; exact absurd rfl ka
        · omega
theorem Num.add_hi {a b : Num} {t : Int} (ma : a.may = true) (mb : b.may = true) (oa : a.ok) (ob : b.ok) (na : -pw 1048640 < a.val) (nb : -pw 1048640 < b.val) (ht : t < pw 1048640) (h : a = Num.inf false ∨ t ≤ a.val + b.val) : t ≤ (Num.add a b true).val := by
  have va : a.opp.val = -a.val := by rw [Num.opp_val, Num.may_fair ma]
  have vb : b.opp.val = -b.val := by rw [Num.opp_val, Num.may_fair mb]
  have k := Num.add_lo (t := -t) (Num.opp_may a) (Num.opp_may b) (Num.opp_ok oa) (Num.opp_ok ob) (by omega) (by omega) (by omega) (h.imp (fun e => by rw [e]; exact Num.opp_inf _) (fun e => by omega))
  have e := Num.add_opp oa ob true
  rw [show (!true) = false from rfl] at e
  rw [e, Num.opp_val, Num.may_fair (Num.add_may oa ob true)] at k
  omega
/-- What spans one and what holds another one: their sum holds both together. -/
theorem Spans.add {x y : Iv} {s v w : Int} (h : Spans x (s * pw 0)) (g : Holds y w) (e : v = s + w) (k : Small v) : Holds (Iv.add [x, y]) v := by
  have p0 := pw_pos 0
  rw [Iv.add2_eq, h.r.good, g.r.good]
  simp only [Bool.or_self, Bool.false_eq_true, if_false]
  have l := g.lo
  have u := g.hi
  refine make_holds (Num.add_may h.r.loo g.r.loo _) (Num.add_may h.r.hio g.r.hio _) (Num.add_ok h.r.loo g.r.loo _) (Num.add_ok h.r.hio g.r.hio _) ?_ ?_ k
  · refine Num.add_lo h.r.lom g.r.lom h.r.loo g.r.loo h.r.lt g.r.lt k.1 ?_
    rcases h.lo with q | ⟨-, q⟩
    · exact .inl q
    · right
      have := Int.le_of_mul_le_mul_right q p0
      omega
  · refine Num.add_hi h.r.him g.r.him h.r.hio g.r.hio h.r.gt g.r.gt k.2 ?_
    rcases h.hi with q | ⟨-, q⟩
    · exact .inl q
    · right
      have := Int.le_of_mul_le_mul_right q p0
      omega
theorem Spans.sub {x y : Iv} {s v w : Int} (h : Spans x (s * pw 0)) (g : Holds y w) (e : v = s - w) (k : Small v) : Holds (Iv.sub x y) v := h.add g.neg (by omega) k
/-- ... and the other way round -/
theorem Spans.from {x y : Iv} {s v w : Int} (h : Spans x (s * pw 0)) (g : Holds y w) (e : v = w - s) (k : Small v) : Holds (Iv.sub y x) v := by
  have n := h.neg
  rw [← Int.neg_mul] at n
  have a := n.add g (by omega) k
  unfold Iv.sub
  rwa [Iv.add2_comm ⟨g.r.loo, g.r.hio⟩ (Iv.neg_ok h.r.loo h.r.hio)]
theorem Holds.meet {x y : Iv} {v : Int} (h : Holds x v) (g : Holds y v) (k : Small v) : Holds (Iv.meet [x, y]) v := by
  obtain ⟨m1, m2, -, -, m5⟩ := Iv.most_two h.r.lom g.r.lom h.r.loo g.r.loo
  obtain ⟨l1, l2, -, -, l5⟩ := Iv.least_two h.r.him g.r.him h.r.hio g.r.hio
  rw [Iv.meet_real h.r g.r]
  refine make_holds m1 l1 m2 l2 ?_ ?_ k
  · rcases m5 with e | e <;> rw [e]
    · exact h.lo
    · exact g.lo
  · rcases l5 with e | e <;> rw [e]
    · exact h.hi
    · exact g.hi

theorem Holds.of {x : Iv} {v : Int} (h : Holds x v) : Holds (Opd.of x).iv v := by
  show Holds (Iv.meet [x]) v
  rw [Iv.meet_one_real h.r]; exact h
theorem Spans.of {x : Iv} {t : Int} (h : Spans x t) : Spans (Opd.of x).iv t := by
  show Spans (Iv.meet [x]) t
  rw [Iv.meet_one_real h.r]; exact h
end Go.Proofs.YtoghalnnmhpfmaaGreat.Ev

/- Contracts: the chapter's examples of what is left of operands. Printed by gen.py out of C26a.spec. -/
namespace Go.Proofs.YtoghalnnmhpfmaaGreat.Ev
open Go Go.Proofs
set_option linter.unusedVariables false
set_option linter.unusedSimpArgs false
theorem awk1 : bkPlus (Iv.ofInts 3 3) (Iv.ofInts 0 5) (Iv.ofInts 1 1) = (Iv.ofInts 2 2, Iv.ofInts 1 1) := by decide +kernel
theorem rt4 : (Num.root ⟨1, false, 9223372036854775808, -61⟩ false).1 = ⟨1, false, 9223372036854775808, -62⟩ := by
  have n : nsqrt (9223372036854775808 * 2 ^ 63) = 9223372036854775808 := nsqrt_eq (by decide +kernel) (by decide +kernel)
  have f : (⟨1, false, 9223372036854775808, -61⟩ : Num).fair = ⟨1, false, 9223372036854775808, -61⟩ := by decide
  unfold Num.root
  rw [f]
  simp only [ne_eq, not_true, Bool.false_eq_true, and_false, if_false]
  unfold Num.rootF
  simp only [show ¬ ((-61 : Int) % 2 = 0) by decide, if_false, show (9223372036854775808 : Int).toNat = 9223372036854775808 from rfl, n]
  decide +kernel
theorem rt9 : (Num.root ⟨1, false, 10376293541461622784, -60⟩ true).1 = ⟨1, false, 13835058055282163712, -62⟩ := by
  have n : nsqrt (10376293541461622784 * 2 ^ 64) = 13835058055282163712 := nsqrt_eq (by decide +kernel) (by decide +kernel)
  have f : (⟨1, false, 10376293541461622784, -60⟩ : Num).fair = ⟨1, false, 10376293541461622784, -60⟩ := by decide
  unfold Num.root
  rw [f]
  simp only [ne_eq, not_true, Bool.false_eq_true, and_false, if_false]
  unfold Num.rootF
  simp only [show ((-60 : Int) % 2 = 0) by decide, if_true, show (10376293541461622784 : Int).toNat = 10376293541461622784 from rfl, n]
  decide +kernel
theorem rt49 : Iv.root (Iv.ofInts 4 9) = Iv.ofInts 2 3 := by
  have e : Iv.meet [Iv.ofInts 4 9, Iv.positive] = ⟨false, ⟨1, false, 9223372036854775808, -61⟩, ⟨1, false, 10376293541461622784, -60⟩⟩ := by decide +kernel
  unfold Iv.root
  rw [e]
  simp only [Bool.false_eq_true, if_false, rt4, rt9]; decide +kernel
theorem awk2 : bkSqr (Iv.ofInts 4 9) (Iv.ofInts (-5) 0) = Iv.ofInts (-3) (-2) := by
  unfold bkSqr; rw [rt49]; decide +kernel
theorem awk3 : (Iv.ofInts (-3) (-2)).empty = false ∧ (Iv.ofInts (-3) (-2)).lo = Num.ofInt (-3) ∧ (Num.ofInt (-3)).kind = 1 := by decide +kernel

set_option maxRecDepth 10000 in
set_option maxHeartbeats 16000000 in
theorem c_awakeB  : ∃ t, t = true ∧ CallsA Tryz.prog 7 [] (.bool (.s t)) := by
  refine ⟨_, rfl, ?_⟩
  generalize hr : true = r
  refine callsA_of hG hm Tryz.func7 (by kernel_rfl) ?_
  intro E hE lp hl
  cbv
  repeat' (first
    | (apply E_br_t hE; assumption; cbv)
    | (apply E_br_f hE; assumption; cbv)
    | (refine E_br hE (fun h => ?_) (fun h => ?_) <;> cbv)
    | (refine E_nm hE (fun v hv => ?_); cbv)
    | (apply E_callX hE (k_ivOf _ ?_ ?_ _ ?_ ?_); (case hf => rfl); (case hc => (cbv <;> trivial)); (case hle => exact u_up); all_goals (first | (rintro t ⟨ht, ho⟩; cbv) | (decide)))
    | (apply E_pcallX hE (k_ivOf _ ?_ ?_ _ ?_ ?_); (case hm => rfl); (case hle => exact u_up); all_goals (first | (rintro t ⟨ht, ho⟩; cbv) | (decide)))
    | (apply E_callX hE (k_bkPlus ⟨_, ⟨_, _, _, _⟩, ⟨_, _, _, _⟩⟩ ?_ ⟨_, ⟨_, _, _, _⟩, ⟨_, _, _, _⟩⟩ ?_ ⟨_, ⟨_, _, _, _⟩, ⟨_, _, _, _⟩⟩ ?_); (case hf => rfl); (case hc => (cbv <;> trivial)); (case hle => exact u_up); all_goals (first | (rintro t ⟨ht, ⟨hp, hq⟩⟩; cbv) | (first | assumption | exact Iv.none_fit | (exact And.left (by assumption)) | (exact And.right (by assumption)))))
    | (apply E_callX hE (k_bkSqr ⟨_, ⟨_, _, _, _⟩, ⟨_, _, _, _⟩⟩ ?_ ⟨_, ⟨_, _, _, _⟩, ⟨_, _, _, _⟩⟩ ?_); (case hf => rfl); (case hc => (cbv <;> trivial)); (case hle => exact u_up); all_goals (first | (rintro t ⟨ht, ho⟩; cbv) | (first | assumption | exact Iv.none_fit | (exact And.left (by assumption)) | (exact And.right (by assumption)))))
    | (apply E_pcallX hE (k_Of _ ?_ ?_); (case hm => rfl); (case hle => exact u_up); all_goals (first | (rintro t ⟨ht, ho⟩; cbv) | (first | decide | assumption | omega)))
    | fail)
  all_goals subst hE
  all_goals (try simp only [NatCast.natCast, Int.ofNat_eq_natCast, realE, cmp_eql, cmp_neq, cmp_lss, cmp_leq, cmp_gtr, cmp_geq, intBinR, SI.val, SB.val, Num.eta, Iv.eta] at *)
  all_goals subst hr
  all_goals (simp_all only [awk1, awk2, awk3, decide_true, Bool.not_false, beq_self_eq_true, Bool.and_self, Bool.true_and, Bool.and_true, reduceCtorEq])

end Go.Proofs.YtoghalnnmhpfmaaGreat.Ev

/- Contracts: the laws of what is left of the operands of squares, roots and opposites, and of products and quotients. Printed by gen.py. -/
namespace Go.Proofs.YtoghalnnmhpfmaaGreat.Ev
open Go Go.Proofs
set_option linter.unusedVariables false
set_option linter.unusedSimpArgs false

set_option maxRecDepth 10000 in
theorem c_BackProducts (z : Iv) (hz : z.fit) (x : Iv) (hx : x.fit) (y : Iv) (hy : y.fit) : ∃ t : Bool, t = true ∧ CallsA Tryz.prog 6 [z.av, x.av, y.av] (.bool (.s t)) := by
  refine ⟨_, rfl, ?_⟩
  refine callsA_of hG hm Tryz.func6 (by kernel_rfl) ?_
  intro E hE lp hl'
  cbv
  (apply E_callX hE (c_awakeB); (case hf => rfl); (case hc => (cbv <;> trivial)); (case hle => exact u_up); all_goals (first | (intro u hu; cbv) | (assumption)))
  (apply E_callX hE (k_bkTimes ⟨_, ⟨_, _, _, _⟩, ⟨_, _, _, _⟩⟩ ?_ ⟨_, ⟨_, _, _, _⟩, ⟨_, _, _, _⟩⟩ ?_ ⟨_, ⟨_, _, _, _⟩, ⟨_, _, _, _⟩⟩ ?_); (case hf => rfl); (case hc => (cbv <;> trivial)); (case hle => exact u_up); all_goals (first | (rintro p1 ⟨hp1, op1⟩; cbv) | (first | exact hz | exact hx | exact hy)))
  (apply E_callX hE (c_r10Times ⟨_, ⟨_, _, _, _⟩, ⟨_, _, _, _⟩⟩ ?_ ⟨_, ⟨_, _, _, _⟩, ⟨_, _, _, _⟩⟩ ?_ ⟨_, ⟨_, _, _, _⟩, ⟨_, _, _, _⟩⟩ ?_); (case hf => rfl); (case hc => (cbv <;> trivial)); (case hle => exact u_up); all_goals (first | (intro q1 hq1; cbv) | (first | exact hz | exact hx | exact hy)))
  have Ep1 : p1 = q1 := hp1.trans hq1.symm
  clear hp1 hq1
  (apply E_callX hE (k_bkOver ⟨_, ⟨_, _, _, _⟩, ⟨_, _, _, _⟩⟩ ?_ ⟨_, ⟨_, _, _, _⟩, ⟨_, _, _, _⟩⟩ ?_ ⟨_, ⟨_, _, _, _⟩, ⟨_, _, _, _⟩⟩ ?_); (case hf => rfl); (case hc => (cbv <;> trivial)); (case hle => exact u_up); all_goals (first | (rintro p2 ⟨hp2, op2⟩; cbv) | (first | exact hz | exact hx | exact hy)))
  (apply E_callX hE (c_r10Over ⟨_, ⟨_, _, _, _⟩, ⟨_, _, _, _⟩⟩ ?_ ⟨_, ⟨_, _, _, _⟩, ⟨_, _, _, _⟩⟩ ?_ ⟨_, ⟨_, _, _, _⟩, ⟨_, _, _, _⟩⟩ ?_); (case hf => rfl); (case hc => (cbv <;> trivial)); (case hle => exact u_up); all_goals (first | (intro q2 hq2; cbv) | (first | exact hz | exact hx | exact hy)))
  have Ep2 : p2 = q2 := hp2.trans hq2.symm
  clear hp2 hq2
  refine E_br_t hE hu ?_
  cbv
  refine E_br_t hE ((ivEq_of hE p1.1 q1.1).trans (decide_eq_true (by rw [Ep1]))) ?_
  cbv
  refine E_br_t hE ((ivEq_of hE p1.2 q1.2).trans (decide_eq_true (by rw [Ep1]))) ?_
  cbv
  refine E_br_t hE ((ivEq_of hE p2.1 q2.1).trans (decide_eq_true (by rw [Ep2]))) ?_
  cbv
  exact (ivEq_of hE p2.2 q2.2).trans (decide_eq_true (by rw [Ep2]))

end Go.Proofs.YtoghalnnmhpfmaaGreat.Ev

/- How far from nought the exponents of sums are: plain Lean. -/
namespace Go.Proofs.YtoghalnnmhpfmaaGreat.Ev
open Go

/-- of an exponent that is not farther than that from nought, if any -/
def Num.nearB (B : Int) (n : Num) : Prop := n.kind = 1 → -B ≤ n.e ∧ n.e ≤ B
theorem Num.nearB.mono {B C : Int} {n : Num} (h : n.nearB B) (hc : B ≤ C) : n.nearB C := fun k => by have := h k; omega
def Iv.nearB (B : Int) (x : Iv) : Prop := x.lo.nearB B ∧ x.hi.nearB B
theorem Iv.nearB.mono {B C : Int} {x : Iv} (h : x.nearB B) (hc : B ≤ C) : x.nearB C := ⟨h.1.mono hc, h.2.mono hc⟩
def Num.few (n : Num) : Bool := decide (n.kind ≠ 1) || (decide (-1500 ≤ n.e) && decide (n.e ≤ 1500))
def Iv.few (x : Iv) : Bool := x.lo.few && x.hi.few
end Go.Proofs.YtoghalnnmhpfmaaGreat.Ev

/- Contracts of the reference: what is left of the operands of sums. Printed by gen.py. -/
namespace Go.Proofs.YtoghalnnmhpfmaaGreat.Ev
open Go Go.Proofs
set_option linter.unusedVariables false
set_option linter.unusedSimpArgs false

end Go.Proofs.YtoghalnnmhpfmaaGreat.Ev

/- Contracts: are exponents near nought? Printed by gen.py. -/
namespace Go.Proofs.YtoghalnnmhpfmaaGreat.Ev
open Go Go.Proofs
set_option linter.unusedVariables false
set_option linter.unusedSimpArgs false

end Go.Proofs.YtoghalnnmhpfmaaGreat.Ev

/- Contracts: the law of what is left of the operands of sums and differences. Printed by gen.py. -/
namespace Go.Proofs.YtoghalnnmhpfmaaGreat.Ev
open Go Go.Proofs
set_option linter.unusedVariables false
set_option linter.unusedSimpArgs false

end Go.Proofs.YtoghalnnmhpfmaaGreat.Ev
