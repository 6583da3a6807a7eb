/- Texts of the proof, joined: R26 R27 C31 Pu26 Pu28a Pu28 Pu29 Pu30 Pu31 Pu32 Pu33 Pu35 Pu36 Br13 R28 C24a C25 Pu37 C26a C32 Br14 R29 R30 C33 -/
import Derived.Test.YtoghalnnmhpfmaaGreatB6
set_option linter.unusedVariables false
set_option linter.unusedSimpArgs false

/- Contracts of the reference: the sum, the opposite and the difference of two intervals. Printed by gen.py. -/
namespace Go.Proofs.YtoghalnnmhpfmaaGreat.Ev
open Go Go.Proofs
set_option linter.unusedVariables false
set_option linter.unusedSimpArgs false

/-- ends that are not too far from nought, if any -/
def Iv.near (x : Iv) : Prop := x.lo.near ∧ x.hi.near
theorem c_r9Neg (x : Iv) (fx : x.lo.ok ∧ x.hi.ok) : ∃ t : Iv, t = Iv.neg x ∧ CallsA Tryz.prog 42 [x.av] t.av := by
  rw [← Iv.rneg_eq]
  refine ⟨_, rfl, ?_⟩
  generalize hr : Iv.rneg x = r
  have emp : x.fair.empty = true → r = x.fair := by intro h; rw [← hr]; unfold Iv.rneg; rw [if_pos h]
  have mak : ¬ x.fair.empty = true → r = Iv.make x.fair.hi.opp x.fair.lo.opp := by intro h; rw [← hr]; unfold Iv.rneg; rw [if_neg h]
  have fa := Iv.fair_oks fx.1 fx.2
  clear hr
  refine callsA_of hG hm Tryz.func42 (by kernel_rfl) ?_
  intro E hE lp hl'
  cbv
  (apply E_callX hE (c_r8Fair ⟨_, ⟨_, _, _, _⟩, ⟨_, _, _, _⟩⟩ ?_ ?_); (case hf => rfl); (case hc => (cbv <;> trivial)); (case hle => exact u_up); all_goals (first | (intro a ha; cbv) | (first | exact fx.1 | exact fx.2)))
  replace ha : a = x.fair := ha
  rw [← ha] at emp mak fa
  clear ha
  refine E_br hE (fun g1 => ?_) (fun g1 => ?_) <;> cbv
  · rw [emp g1]; exact ⟨rfl, rfl, rfl, rfl, rfl, rfl, rfl, rfl, rfl, trivial⟩
  have M := mak (by rw [g1]; decide)
  (apply E_pcallX hE (c_rNeg ⟨_, _, _, _⟩); (case hm => rfl); (case hle => exact u_up); all_goals (first | (intro p hp; cbv) | (assumption)))
  (apply E_pcallX hE (c_rNeg ⟨_, _, _, _⟩); (case hm => rfl); (case hle => exact u_up); all_goals (first | (intro q hq; cbv) | (assumption)))
  replace hp : p = a.hi.opp := hp
  replace hq : q = a.lo.opp := hq
  have po : p.ok := by rw [hp]; exact Num.opp_ok fa.2
  have qo : q.ok := by rw [hq]; exact Num.opp_ok fa.1
  (apply E_pcallX hE (c_r8Make ⟨_, _, _, _⟩ ⟨_, _, _, _⟩ ?_ ?_); (case hm => rfl); (case hle => exact u_up); all_goals (first | (intro t ht; cbv) | (first | exact po | exact qo)))
  have T : t = r := by rw [M, ← hp, ← hq]; exact ht
  rw [T]; exact ⟨rfl, rfl, rfl, rfl, rfl, rfl, rfl, rfl, rfl, trivial⟩
end Go.Proofs.YtoghalnnmhpfmaaGreat.Ev

/- Contracts of the reference: what two intervals have, their hull; how far from nought, squares, roots. Printed by gen.py. -/
namespace Go.Proofs.YtoghalnnmhpfmaaGreat.Ev
open Go Go.Proofs
set_option linter.unusedVariables false
set_option linter.unusedSimpArgs false

theorem slcN2 {a b : Num} {z : Num} : sle2 (.slc 4 (.l 2) (fun i => getRow [a.cells, b.cells] (Int.ofNat i))) (.slc 4 (.s 2) (fun i => Num.cells ([a, b].getD i z))) := by
  have r : ∀ {x : Num}, sleL sle0 x.cells x.cells := ⟨⟨rfl, rfl⟩, rfl, ⟨rfl, rfl⟩, ⟨rfl, rfl⟩, trivial⟩
  refine ⟨rfl, rfl, fun i hi => ?_⟩
  match i, hi with
  | 0, _ => exact r
  | 1, _ => exact r
  | i + 2, hi => exact absurd hi (by simp [SI.val])
theorem all_ok2 {a b : Num} (h : a.ok) (k : b.ok) : ∀ x ∈ [a, b], x.ok := by
  intro n hn
  simp only [List.mem_cons, List.not_mem_nil, or_false] at hn
  rcases hn with rfl | rfl
  · exact h
  · exact k
theorem c_r8Two (x y : Iv) (fx : x.lo.ok ∧ x.hi.ok) (fy : y.lo.ok ∧ y.hi.ok) : ∃ t : Iv, t = Iv.meet [x, y] ∧ CallsA Tryz.prog 35 [x.av, y.av] t.av := by
  rw [← Iv.rmeet_eq]
  refine ⟨_, rfl, ?_⟩
  generalize hr : Iv.rmeet x y = r
  have emp : (x.fair.empty || y.fair.empty) = true → r = Iv.none := by intro h; rw [← hr]; unfold Iv.rmeet; rw [if_pos h]
  have mak : ¬ (x.fair.empty || y.fair.empty) = true → r = Iv.make (Num.most [x.fair.lo, y.fair.lo]) (Num.least [x.fair.hi, y.fair.hi]) := by intro h; rw [← hr]; unfold Iv.rmeet; rw [if_neg h]
  have fa := Iv.fair_oks fx.1 fx.2
  have fb := Iv.fair_oks fy.1 fy.2
  clear hr
  refine callsA_of hG hm Tryz.func35 (by kernel_rfl) ?_
  intro E hE lp hl'
  cbv
  (apply E_callX hE (c_r8Fair ⟨_, ⟨_, _, _, _⟩, ⟨_, _, _, _⟩⟩ ?_ ?_); (case hf => rfl); (case hc => (cbv <;> trivial)); (case hle => exact u_up); all_goals (first | (intro a ha; cbv) | (first | exact fx.1 | exact fx.2)))
  (apply E_callX hE (c_r8Fair ⟨_, ⟨_, _, _, _⟩, ⟨_, _, _, _⟩⟩ ?_ ?_); (case hf => rfl); (case hc => (cbv <;> trivial)); (case hle => exact u_up); all_goals (first | (intro b hb; cbv) | (first | exact fy.1 | exact fy.2)))
  replace ha : a = x.fair := ha
  replace hb : b = y.fair := hb
  rw [← ha] at emp mak fa
  rw [← hb] at emp mak fb
  clear ha hb
  refine E_br hE (fun g1 => ?_) (fun g1 => ?_) <;> cbv
  · (apply E_callX hE (c_r8None); (case hf => rfl); (case hc => (cbv <;> trivial)); (case hle => exact u_up); all_goals (first | (intro t ht; cbv) | (assumption)))
    have T : t = r := by rw [emp (by rw [g1]; rfl)]; exact ht
    rw [T]; exact ⟨rfl, rfl, rfl, rfl, rfl, rfl, rfl, rfl, rfl, trivial⟩
  refine E_br hE (fun g2 => ?_) (fun g2 => ?_) <;> cbv
  · (apply E_callX hE (c_r8None); (case hf => rfl); (case hc => (cbv <;> trivial)); (case hle => exact u_up); all_goals (first | (intro t ht; cbv) | (assumption)))
    have T : t = r := by rw [emp (by rw [g1, g2]; rfl)]; exact ht
    rw [T]; exact ⟨rfl, rfl, rfl, rfl, rfl, rfl, rfl, rfl, rfl, trivial⟩
  have M := mak (by rw [g1, g2]; decide)
  clear emp mak
  have ol := all_ok2 fa.1 fb.1
  have oh := all_ok2 fa.2 fb.2
  (apply E_pcallX hE (c_rMost [a.lo, b.lo] 2 rfl (by decide) ol); (case hm => rfl); (case hle => exact ⟨slcN2, trivial⟩); all_goals (first | (intro p hp; cbv) | (assumption)))
  (apply E_pcallX hE (c_rLeast [a.hi, b.hi] 2 rfl (by decide) oh); (case hm => rfl); (case hle => exact ⟨slcN2, trivial⟩); all_goals (first | (intro q hq; cbv) | (assumption)))
  have po : p.ok := by rw [hp]; exact (Num.most_spec [a.lo, b.lo] ol).2.1
  have qo : q.ok := by rw [hq]; exact (Num.least_spec [a.hi, b.hi] oh).2.1
  (apply E_pcallX hE (c_r8Make ⟨_, _, _, _⟩ ⟨_, _, _, _⟩ ?_ ?_); (case hm => rfl); (case hle => exact u_up); all_goals (first | (intro t ht; cbv) | (first | exact po | exact qo)))
  have T : t = r := by rw [M, ← hp, ← hq]; exact ht
  rw [T]; exact ⟨rfl, rfl, rfl, rfl, rfl, rfl, rfl, rfl, rfl, trivial⟩

theorem c_r9Abs (x : Iv) (fx : x.lo.ok ∧ x.hi.ok) : ∃ t : Iv, t = Iv.abs x ∧ CallsA Tryz.prog 25 [x.av] t.av := by
  rw [← Iv.rabs_eq]
  refine ⟨_, rfl, ?_⟩
  generalize hr : Iv.rabs x = r
  have e1 : (x.fair.empty = true ∨ 0 ≤ x.fair.lo.sign) → r = x.fair := by intro h; rw [← hr]; unfold Iv.rabs; rw [if_pos h]
  have e2 : ¬ (x.fair.empty = true ∨ 0 ≤ x.fair.lo.sign) → x.fair.hi.sign ≤ 0 → r = Iv.neg x.fair := by intro h g; rw [← hr]; unfold Iv.rabs; rw [if_neg h, if_pos g]
  have mak : ¬ (x.fair.empty = true ∨ 0 ≤ x.fair.lo.sign) → ¬ x.fair.hi.sign ≤ 0 → r = Iv.make Num.zero (Num.most [x.fair.hi, x.fair.lo.opp]) := by intro h g; rw [← hr]; unfold Iv.rabs; rw [if_neg h, if_neg g]
  have fa := Iv.fair_oks fx.1 fx.2
  clear hr
  refine callsA_of hG hm Tryz.func25 (by kernel_rfl) ?_
  intro E hE lp hl'
  cbv
  (apply E_callX hE (c_r8Fair ⟨_, ⟨_, _, _, _⟩, ⟨_, _, _, _⟩⟩ ?_ ?_); (case hf => rfl); (case hc => (cbv <;> trivial)); (case hle => exact u_up); all_goals (first | (intro a ha; cbv) | (first | exact fx.1 | exact fx.2)))
  replace ha : a = x.fair := ha
  rw [← ha] at e1 e2 mak fa
  clear ha
  refine E_br hE (fun g1 => ?_) (fun g1 => ?_) <;> cbv
  · rw [e1 (.inl g1)]; exact ⟨rfl, rfl, rfl, rfl, rfl, rfl, rfl, rfl, rfl, trivial⟩
  (apply E_callX hE (c_rSign ⟨_, _, _, _⟩); (case hf => rfl); (case hc => (cbv <;> trivial)); (case hle => exact u_up); all_goals (first | (intro s hs; cbv) | (assumption)))
  replace hs : s = a.lo.sign := hs
  refine E_br hE (fun g2 => ?_) (fun g2 => ?_) <;> cbv
  · rw [e1 (.inr (by rw [← hs]; subst hE; exact geq_t g2))]; exact ⟨rfl, rfl, rfl, rfl, rfl, rfl, rfl, rfl, rfl, trivial⟩
  have n1 : ¬ (a.empty = true ∨ 0 ≤ a.lo.sign) := by
    rintro (k | k)
    · rw [g1] at k; cases k
    · rw [← hs] at k; exact (by subst hE; exact geq_f g2 : ¬ 0 ≤ s) k
  (apply E_callX hE (c_rSign ⟨_, _, _, _⟩); (case hf => rfl); (case hc => (cbv <;> trivial)); (case hle => exact u_up); all_goals (first | (intro u hu; cbv) | (assumption)))
  replace hu : u = a.hi.sign := hu
  refine E_br hE (fun g3 => ?_) (fun g3 => ?_) <;> cbv
  · have M := e2 n1 (by rw [← hu]; subst hE; exact leq_t g3)
    (apply E_callX hE (c_r9Neg ⟨_, ⟨_, _, _, _⟩, ⟨_, _, _, _⟩⟩ ?_); (case hf => rfl); (case hc => (cbv <;> trivial)); (case hle => exact u_up); all_goals (first | (intro t ht; cbv) | (exact fa)))
    have T : t = r := by rw [M]; exact ht
    rw [T]; exact ⟨rfl, rfl, rfl, rfl, rfl, rfl, rfl, rfl, rfl, trivial⟩
  have M := mak n1 (by rw [← hu]; subst hE; exact leq_f g3)
  clear e1 e2 mak
  (apply E_pcallX hE (c_rNeg ⟨_, _, _, _⟩); (case hm => rfl); (case hle => exact u_up); all_goals (first | (intro o ho; cbv) | (assumption)))
  replace ho : o = a.lo.opp := ho
  have oo : o.ok := by rw [ho]; exact Num.opp_ok fa.1
  rw [← ho] at M
  have oh := all_ok2 fa.2 oo
  (apply E_pcallX hE (c_rMost [a.hi, o] 2 rfl (by decide) oh); (case hm => rfl); (case hle => exact ⟨slcN2, trivial⟩); all_goals (first | (intro q hq; cbv) | (assumption)))
  have qo : q.ok := by rw [hq]; exact (Num.most_spec [a.hi, o] oh).2.1
  (apply E_pcallX hE (c_r8Make ⟨0, false, 0, 0⟩ ⟨_, _, _, _⟩ ?_ ?_); (case hm => rfl); (case hle => exact u_up); all_goals (first | (intro t ht; cbv) | (first | exact qo | exact Num.zero_ok)))
  have T : t = r := by rw [M, ← hq]; exact ht
  rw [T]; exact ⟨rfl, rfl, rfl, rfl, rfl, rfl, rfl, rfl, rfl, trivial⟩
theorem c_r9Sqr (x : Iv) (fx : x.lo.ok ∧ x.hi.ok) : ∃ t : Iv, t = Iv.sqr x ∧ CallsA Tryz.prog 21 [x.av] t.av := by
  refine ⟨_, rfl, ?_⟩
  generalize hr : Iv.sqr x = r
  have e1 : (Iv.abs x).empty = true → r = Iv.abs x := by intro h; rw [← hr]; unfold Iv.sqr; rw [if_pos h]
  have mak : ¬ (Iv.abs x).empty = true → r = Iv.make (Num.mul (Iv.abs x).lo (Iv.abs x).lo false) (Num.mul (Iv.abs x).hi (Iv.abs x).hi true) := by intro h; rw [← hr]; unfold Iv.sqr; rw [if_neg h]
  have fa := Iv.abs_ok fx.1 fx.2
  clear hr
  refine callsA_of hG hm Tryz.func21 (by kernel_rfl) ?_
  intro E hE lp hl'
  cbv
  (apply E_callX hE (c_r9Abs ⟨_, ⟨_, _, _, _⟩, ⟨_, _, _, _⟩⟩ ?_); (case hf => rfl); (case hc => (cbv <;> trivial)); (case hle => exact u_up); all_goals (first | (intro a ha; cbv) | (exact fx)))
  replace ha : a = Iv.abs x := ha
  rw [← ha] at e1 mak fa
  clear ha
  refine E_br hE (fun g1 => ?_) (fun g1 => ?_) <;> cbv
  · rw [e1 g1]; exact ⟨rfl, rfl, rfl, rfl, rfl, rfl, rfl, rfl, rfl, trivial⟩
  have M := mak (by rw [g1]; decide)
  clear e1 mak
  (apply E_pcallX hE (k_r6Mul ⟨_, _, _, _⟩ ⟨_, _, _, _⟩ false ?_ ?_); (case hm => rfl); (case hle => exact u_up); all_goals (first | (intro p hp; cbv) | (exact fa.1)))
  (apply E_pcallX hE (k_r6Mul ⟨_, _, _, _⟩ ⟨_, _, _, _⟩ true ?_ ?_); (case hm => rfl); (case hle => exact u_up); all_goals (first | (intro q hq; cbv) | (exact fa.2)))
  replace hp : p = Num.mul a.lo a.lo false := hp
  replace hq : q = Num.mul a.hi a.hi true := hq
  have po : p.ok := by rw [hp]; exact Num.mul_ok fa.1 fa.1 _
  have qo : q.ok := by rw [hq]; exact Num.mul_ok fa.2 fa.2 _
  (apply E_pcallX hE (c_r8Make ⟨_, _, _, _⟩ ⟨_, _, _, _⟩ ?_ ?_); (case hm => rfl); (case hle => exact u_up); all_goals (first | (intro t ht; cbv) | (first | exact po | exact qo)))
  have T : t = r := by rw [M, ← hp, ← hq]; exact ht
  rw [T]; exact ⟨rfl, rfl, rfl, rfl, rfl, rfl, rfl, rfl, rfl, trivial⟩
theorem Iv.positive_is : Iv.positive = ⟨false, Num.zero, Num.inf false⟩ := by decide
theorem c_r9Root (x : Iv) (fx : x.lo.ok ∧ x.hi.ok) : ∃ t : Iv, t = Iv.root x ∧ CallsA Tryz.prog 23 [x.av] t.av := by
  refine ⟨_, rfl, ?_⟩
  generalize hr : Iv.root x = r
  unfold Iv.root at hr
  rw [Iv.positive_is] at hr
  have e1 : (Iv.meet [x, ⟨false, Num.zero, Num.inf false⟩]).empty = true → r = Iv.meet [x, ⟨false, Num.zero, Num.inf false⟩] := by intro h; rw [← hr, if_pos h]
  have mak : ¬ (Iv.meet [x, ⟨false, Num.zero, Num.inf false⟩]).empty = true → r = Iv.make (Num.root (Iv.meet [x, ⟨false, Num.zero, Num.inf false⟩]).lo false).1 (Num.root (Iv.meet [x, ⟨false, Num.zero, Num.inf false⟩]).hi true).1 := by intro h; rw [← hr, if_neg h]
  have fa : (Iv.meet [x, ⟨false, Num.zero, Num.inf false⟩]).lo.ok ∧ (Iv.meet [x, ⟨false, Num.zero, Num.inf false⟩]).hi.ok := Iv.meet_ok (all2 fx ⟨Num.zero_ok, Num.inf_ok _⟩)
  clear hr
  refine callsA_of hG hm Tryz.func23 (by kernel_rfl) ?_
  intro E hE lp hl'
  cbv
  (apply E_pcallX hE (c_rInf _); (case hm => rfl); (case hle => exact u_up); all_goals (first | (intro f hf; cbv) | (assumption)))
  replace hf : f = Num.inf false := hf
  rw [← hf] at e1 mak fa
  have fo : f.ok := by rw [hf]; exact Num.inf_ok _
  (apply E_pcallX hE (c_r8Two ⟨_, ⟨_, _, _, _⟩, ⟨_, _, _, _⟩⟩ ⟨false, ⟨0, false, 0, 0⟩, ⟨_, _, _, _⟩⟩ ?_ ?_); (case hm => rfl); (case hle => exact u_up); all_goals (first | (intro a ha; cbv) | (first | exact fx | exact ⟨Num.zero_ok, fo⟩)))
  replace ha : a = Iv.meet [x, ⟨false, Num.zero, f⟩] := ha
  rw [← ha] at e1 mak fa
  clear ha hf
  refine E_br hE (fun g1 => ?_) (fun g1 => ?_) <;> cbv
  · rw [e1 g1]; exact ⟨rfl, rfl, rfl, rfl, rfl, rfl, rfl, rfl, rfl, trivial⟩
  have M := mak (by rw [g1]; decide)
  clear e1 mak
  (apply E_callX hE (c_r7Root ⟨_, _, _, _⟩ false ?_); (case hf => rfl); (case hc => (cbv <;> trivial)); (case hle => exact u_up); all_goals (first | (intro p hp; cbv) | (exact fa.1)))
  (apply E_callX hE (c_r7Root ⟨_, _, _, _⟩ true ?_); (case hf => rfl); (case hc => (cbv <;> trivial)); (case hle => exact u_up); all_goals (first | (intro q hq; cbv) | (exact fa.2)))
  replace hp : p = Num.root a.lo false := hp
  replace hq : q = Num.root a.hi true := hq
  have po : p.1.ok := by rw [hp]; exact Num.root_ok fa.1 _
  have qo : q.1.ok := by rw [hq]; exact Num.root_ok fa.2 _
  (apply E_callX hE (c_r8Make ⟨_, _, _, _⟩ ⟨_, _, _, _⟩ ?_ ?_); (case hf => rfl); (case hc => (cbv <;> trivial)); (case hle => exact u_up); all_goals (first | (intro t ht; cbv) | (first | exact po | exact qo)))
  have T : t = r := by rw [M, ← hp, ← hq]; exact ht
  rw [T]; exact ⟨rfl, rfl, rfl, rfl, rfl, rfl, rfl, rfl, rfl, trivial⟩

end Go.Proofs.YtoghalnnmhpfmaaGreat.Ev

/- Contracts: the law of roots. Printed by gen.py. -/
namespace Go.Proofs.YtoghalnnmhpfmaaGreat.Ev
open Go Go.Proofs
set_option linter.unusedVariables false
set_option linter.unusedSimpArgs false

theorem c_Roots (a : Iv) (fa : a.lo.ok ∧ a.hi.ok) : ∃ t : Bool, t = true ∧ CallsA Tryz.prog 5 [a.av] (.bool (.s t)) := by
  refine ⟨_, rfl, ?_⟩
  refine callsA_of hG hm Tryz.func5 (by kernel_rfl) ?_
  intro E hE lp hl'
  cbv
  (apply E_callX hE (c_awake); (case hf => rfl); (case hc => (cbv <;> trivial)); (case hle => exact u_up); all_goals (first | (intro u hu; cbv) | (assumption)))
  refine E_br_t hE hu ?_
  cbv
  (apply E_pcallX hE (k_opSqr ⟨_, ⟨_, _, _, _⟩, ⟨_, _, _, _⟩⟩ ?_); (case hm => rfl); (case hle => exact u_up); all_goals (first | (rintro m ⟨hm_, mo⟩; cbv) | (exact fa)))
  (apply E_pcallX hE (c_r9Sqr ⟨_, ⟨_, _, _, _⟩, ⟨_, _, _, _⟩⟩ ?_); (case hm => rfl); (case hle => exact u_up); all_goals (first | (intro n hn; cbv) | (exact fa)))
  refine E_br_t hE ((ivEq_of hE m n).trans (decide_eq_true (hm_.trans hn.symm))) ?_
  cbv
  clear hm_ hn
  (apply E_pcallX hE (k_opRoot ⟨_, ⟨_, _, _, _⟩, ⟨_, _, _, _⟩⟩ ?_); (case hm => rfl); (case hle => exact u_up); all_goals (first | (rintro p ⟨hp, po⟩; cbv) | (exact fa)))
  (apply E_pcallX hE (c_r9Root ⟨_, ⟨_, _, _, _⟩, ⟨_, _, _, _⟩⟩ ?_); (case hm => rfl); (case hle => exact u_up); all_goals (first | (intro q hq; cbv) | (exact fa)))
  refine E_br_t hE ((ivEq_of hE p q).trans (decide_eq_true (hp.trans hq.symm))) ?_
  cbv
  clear hp hq
  (apply E_pcallX hE (k_opAbs ⟨_, ⟨_, _, _, _⟩, ⟨_, _, _, _⟩⟩ ?_); (case hm => rfl); (case hle => exact u_up); all_goals (first | (rintro v ⟨hv, vo⟩; cbv) | (exact fa)))
  (apply E_pcallX hE (c_r9Abs ⟨_, ⟨_, _, _, _⟩, ⟨_, _, _, _⟩⟩ ?_); (case hm => rfl); (case hle => exact u_up); all_goals (first | (intro w hw; cbv) | (exact fa)))
  exact (ivEq_of hE v w).trans (decide_eq_true (hv.trans hw.symm))

end Go.Proofs.YtoghalnnmhpfmaaGreat.Ev

/- How far from nought an interval is lies within the root of its square: plain Lean. -/
namespace Go.Proofs.YtoghalnnmhpfmaaGreat.Ev
open Go

end Go.Proofs.YtoghalnnmhpfmaaGreat.Ev

/- Sums grow with their operands: plain Lean. -/
namespace Go.Proofs.YtoghalnnmhpfmaaGreat.Ev
open Go

theorem Num.add_may {a b : Num} (oa : a.ok) (ob : b.ok) (up : Bool) : (Num.add a b up).may = true := by
  by_cases ka : a.fair.kind = 2
  · rw [Num.add_inf up ka]; split
    · exact Num.inf_may _
    · exact a.fair_may
  · by_cases kb : b.fair.kind = 2
    · rw [Num.add_inf2 oa ob up kb]; split
      · exact Num.inf_may _
      · exact b.fair_may
    · exact (add_best oa ob ka kb up).may
/-- a number is finite, or one of the two others -/
theorem Num.three {a : Num} (oa : a.ok) : (a.fair.kind ≠ 2 ∧ -pw 1048640 < a.fair.val ∧ a.fair.val < pw 1048640) ∨ (a.fair = Num.inf false) ∨ (a.fair = Num.inf true) := by
  by_cases k : a.fair.kind = 2
  · have e := Num.fair_inf oa k
    cases h : a.fair.neg with
    | false => rw [h] at e; exact .inr (.inl e)
    | true => rw [h] at e; exact .inr (.inr e)
  · exact .inl ⟨k, (Num.fin_val a.fair_may (Num.fair_ok oa)).1 k⟩
end Go.Proofs.YtoghalnnmhpfmaaGreat.Ev

/- Sums and products grow with their operands: what they rest on. -/

/- Products grow with their operands: plain Lean. -/
namespace Go.Proofs.YtoghalnnmhpfmaaGreat.Ev
open Go

end Go.Proofs.YtoghalnnmhpfmaaGreat.Ev

/- Quotients grow with what is divided, and shrink with the divisor: plain Lean. -/
namespace Go.Proofs.YtoghalnnmhpfmaaGreat.Ev
open Go

theorem Num.div_inf_r {a b : Num} (up : Bool) (h : b.fair.kind = 2) : Num.div a b up = Num.zero := by
  unfold Num.div
  rw [if_neg (by rw [h]; decide), if_pos (.inr h)]
theorem Num.div_inf_l {a b : Num} (up : Bool) (ha : a.fair.kind = 2) (h0 : b.fair.kind ≠ 0) (h2 : b.fair.kind ≠ 2) : Num.div a b up = Num.inf (a.fair.neg != b.fair.neg) := by
  unfold Num.div
  rw [if_neg h0, if_neg (by rintro (k | k); (rw [ha] at k; exact absurd k (by decide)); exact h2 k), if_pos ha]
theorem Num.kind1 {a : Num} (oa : a.ok) (h0 : a.fair.kind ≠ 0) (h2 : a.fair.kind ≠ 2) : a.fair.kind = 1 := (Num.fair_fin oa h0 h2).kind

theorem Num.div_may {a b : Num} (oa : a.ok) (ob : b.ok) (up : Bool) : (Num.div a b up).may = true := by
  by_cases h0 : b.fair.kind = 0
  · unfold Num.div; rw [if_pos h0]; exact Num.inf_may _
  · by_cases h2 : b.fair.kind = 2
    · rw [Num.div_inf_r up h2]; exact Num.zero_may
    · by_cases ha : a.fair.kind = 2
      · rw [Num.div_inf_l up ha h0 h2]; exact Num.inf_may _
      · exact (div_best oa ob ha (Num.kind1 ob h0 h2) up).may

end Go.Proofs.YtoghalnnmhpfmaaGreat.Ev

/- Sums and products of parts are parts: plain Lean. -/
namespace Go.Proofs.YtoghalnnmhpfmaaGreat.Ev
open Go

/-- a is a part of c -/
structure Iv.Part (a c : Iv) : Prop where
  ra : a.Real
  rc : c.Real
  lo : c.lo.val ≤ a.lo.val
  hi : a.hi.val ≤ c.hi.val
theorem Iv.fair_empty (a : Iv) : a.fair.empty = a.bad := by
  unfold Iv.fair Iv.bad
  cases h : a.may <;> simp [Iv.none]
theorem Iv.within_part {a c : Iv} (ha : a.lo.ok ∧ a.hi.ok) (hc : c.lo.ok ∧ c.hi.ok) (h : a.within c = true) : a.bad = true ∨ Iv.Part a c := by
  cases hb : a.bad with
  | true => exact .inl rfl
  | false =>
    right
    have ra := Iv.real_of_good hb ha.1 ha.2
    unfold Iv.within at h
    rw [Iv.fair_empty, Iv.fair_empty, hb] at h
    simp only [Bool.false_or, Bool.and_eq_true, decide_eq_true_eq, Bool.not_eq_true'] at h
    obtain ⟨⟨h1, h2⟩, h3⟩ := h
    have rc := Iv.real_of_good h1 hc.1 hc.2
    rw [ra.fair, rc.fair] at h2 h3
    have e1 := (Num.cmp_le hc.1 ha.1).1 h2
    have e2 := (Num.cmp_le ha.2 hc.2).1 h3
    rw [Num.may_fair rc.lom, Num.may_fair ra.lom] at e1
    rw [Num.may_fair ra.him, Num.may_fair rc.him] at e2
    exact ⟨ra, rc, e1, e2⟩
theorem Iv.Part.lo' {a c : Iv} (P : Iv.Part a c) : c.lo.fair.val ≤ a.lo.fair.val := by rw [Num.may_fair P.rc.lom, Num.may_fair P.ra.lom]; exact P.lo
theorem Iv.Part.hi' {a c : Iv} (P : Iv.Part a c) : a.hi.fair.val ≤ c.hi.fair.val := by rw [Num.may_fair P.rc.him, Num.may_fair P.ra.him]; exact P.hi
theorem Iv.Part.within {a c : Iv} (P : Iv.Part a c) : a.within c = true := Iv.real_within P.ra P.rc P.lo P.hi

theorem Iv.Part.neg {a c : Iv} (P : Iv.Part a c) : Iv.Part (Iv.neg a) (Iv.neg c) := by
  rw [Iv.neg_real P.ra, Iv.neg_real P.rc]
  refine ⟨P.ra.neg, P.rc.neg, ?_, ?_⟩
  · show c.hi.opp.val ≤ a.hi.opp.val
    rw [Num.opp_val, Num.opp_val]; have := P.hi'; omega
  · show a.lo.opp.val ≤ c.lo.opp.val
    rw [Num.opp_val, Num.opp_val]; have := P.lo'; omega
/-- the ends of a part lie between the ends of the whole -/
theorem Iv.Part.ends {a c : Iv} (P : Iv.Part a c) {x : Num} (h : x = a.lo ∨ x = a.hi) : x.ok ∧ x.may = true ∧ c.lo.fair.val ≤ x.fair.val ∧ x.fair.val ≤ c.hi.fair.val := by
  have h1 := P.lo
  have h2 := P.hi
  have h3 := P.ra.le
  rw [Num.may_fair P.rc.lom, Num.may_fair P.rc.him]
  rcases h with rfl | rfl
  · refine ⟨P.ra.loo, P.ra.lom, ?_, ?_⟩ <;> rw [Num.may_fair P.ra.lom] <;> omega
  · refine ⟨P.ra.hio, P.ra.him, ?_, ?_⟩ <;> rw [Num.may_fair P.ra.him] <;> omega

end Go.Proofs.YtoghalnnmhpfmaaGreat.Ev

/- Squares and roots of parts are parts: plain Lean. -/
namespace Go.Proofs.YtoghalnnmhpfmaaGreat.Ev
open Go

theorem Iv.abs_ends {a : Iv} (r : a.Real) : (Iv.abs a).Real ∧ 0 ≤ (Iv.abs a).lo.val ∧ a.lo.val ≤ (Iv.abs a).lo.val ∧ -a.hi.val ≤ (Iv.abs a).lo.val ∧
    ((Iv.abs a).lo.val = 0 ∨ (Iv.abs a).lo.val = a.lo.val ∨ (Iv.abs a).lo.val = -a.hi.val) ∧
    a.hi.val ≤ (Iv.abs a).hi.val ∧ -a.lo.val ≤ (Iv.abs a).hi.val ∧ ((Iv.abs a).hi.val = a.hi.val ∨ (Iv.abs a).hi.val = -a.lo.val) := by
  have le := r.le
  have ol : a.lo.opp.val = -a.lo.val := by rw [Num.opp_val, Num.may_fair r.lom]
  have oh : a.hi.opp.val = -a.hi.val := by rw [Num.opp_val, Num.may_fair r.him]
  rcases Iv.abs_cases r with ⟨h, e⟩ | ⟨h1, h2, e⟩ | ⟨h1, h2, e, h4, h5, h6⟩
  · rw [e]; exact ⟨r, h, by omega, by omega, by omega, by omega, by omega, by omega⟩
  · rw [e]
    refine ⟨r.neg, ?_⟩
    show 0 ≤ a.hi.opp.val ∧ a.lo.val ≤ a.hi.opp.val ∧ -a.hi.val ≤ a.hi.opp.val ∧ (a.hi.opp.val = 0 ∨ a.hi.opp.val = a.lo.val ∨ a.hi.opp.val = -a.hi.val) ∧
      a.hi.val ≤ a.lo.opp.val ∧ -a.lo.val ≤ a.lo.opp.val ∧ (a.lo.opp.val = a.hi.val ∨ a.lo.opp.val = -a.lo.val)
    rw [ol, oh]; omega
  · rw [e]
    have p := pw_pos 1048640
    have mo : (Num.most [a.hi, a.lo.opp]).may = true ∧ (Num.most [a.hi, a.lo.opp]).ok ∧ ((Num.most [a.hi, a.lo.opp]).val = a.hi.val ∨ (Num.most [a.hi, a.lo.opp]).val = -a.lo.val) := by
      rcases h4 with h4 | h4 <;> rw [h4]
      · exact ⟨r.him, r.hio, .inl rfl⟩
      · exact ⟨Num.opp_may _, Num.opp_ok r.loo, .inr ol⟩
    have z : Num.zero.val = 0 := Num.val_zero
    refine ⟨⟨rfl, Num.zero_may, mo.1, Num.zero_ok, mo.2.1, ?_, ?_, ?_⟩, ?_⟩
    · show Num.zero.val ≤ (Num.most [a.hi, a.lo.opp]).val; omega
    · show Num.zero.val < _; omega
    · show -pw 1048640 < (Num.most [a.hi, a.lo.opp]).val; omega
    · show 0 ≤ Num.zero.val ∧ a.lo.val ≤ Num.zero.val ∧ -a.hi.val ≤ Num.zero.val ∧ (Num.zero.val = 0 ∨ Num.zero.val = a.lo.val ∨ Num.zero.val = -a.hi.val) ∧
        a.hi.val ≤ (Num.most [a.hi, a.lo.opp]).val ∧ -a.lo.val ≤ (Num.most [a.hi, a.lo.opp]).val ∧ ((Num.most [a.hi, a.lo.opp]).val = a.hi.val ∨ (Num.most [a.hi, a.lo.opp]).val = -a.lo.val)
      exact ⟨by omega, by omega, by omega, .inl z, h5, h6, mo.2.2⟩
theorem Iv.Part.abs {a c : Iv} (P : Iv.Part a c) : Iv.Part (Iv.abs a) (Iv.abs c) := by
  obtain ⟨r1, a1, a2, a3, a4, a5, a6, a7⟩ := Iv.abs_ends P.ra
  obtain ⟨r2, c1, c2, c3, c4, c5, c6, c7⟩ := Iv.abs_ends P.rc
  have := P.lo
  have := P.hi
  exact ⟨r1, r2, by omega, by omega⟩
end Go.Proofs.YtoghalnnmhpfmaaGreat.Ev

/- Quotients of parts are parts: plain Lean. -/
namespace Go.Proofs.YtoghalnnmhpfmaaGreat.Ev
open Go

theorem Iv.bad_or_real {a : Iv} (h : a.lo.ok ∧ a.hi.ok) : a.bad = true ∨ a.Real := by
  cases e : a.bad with
  | true => exact .inl rfl
  | false => exact .inr (Iv.real_of_good e h.1 h.2)

end Go.Proofs.YtoghalnnmhpfmaaGreat.Ev

/- What two intervals have together, and their hull, by values: plain Lean. -/
namespace Go.Proofs.YtoghalnnmhpfmaaGreat.Ev
open Go

/-- empty, or a part -/
def Iv.In (a c : Iv) : Prop := a.bad = true ∨ Iv.Part a c
theorem Iv.In.within {a c : Iv} (h : Iv.In a c) : a.within c = true := by
  rcases h with h | h
  · unfold Iv.within; rw [Iv.fair_empty, h]; rfl
  · exact h.within
theorem Iv.In.trans {a b c : Iv} (h : Iv.In a b) (g : Iv.In b c) : Iv.In a c := by
  rcases h with h | h
  · exact .inl h
  · rcases g with g | g
    · rw [h.rc.good] at g; cases g
    · have := h.lo
      have := h.hi
      have := g.lo
      have := g.hi
      exact .inr ⟨h.ra, g.rc, by omega, by omega⟩
theorem Iv.In.none {c : Iv} : Iv.In Iv.none c := .inl Iv.none_bad
theorem Iv.Real.self {a : Iv} (r : a.Real) : Iv.Part a a := ⟨r, r, Int.le_refl _, Int.le_refl _⟩
theorem Iv.goods_two {x y : Iv} (rx : x.Real) (ry : y.Real) : Iv.goods [x, y] = [x, y] := by
  simp only [Iv.goods, rx.fair, ry.fair, rx.some, ry.some]
  rw [if_neg (by decide), if_neg (by decide)]
theorem Iv.most_two {a b : Num} (ma : a.may = true) (mb : b.may = true) (oa : a.ok) (ob : b.ok) : (Num.most [a, b]).may = true ∧ (Num.most [a, b]).ok ∧ a.val ≤ (Num.most [a, b]).val ∧ b.val ≤ (Num.most [a, b]).val ∧ (Num.most [a, b] = a ∨ Num.most [a, b] = b) := by
  have s := Num.most_spec [a, b] (by simp; exact ⟨oa, ob⟩)
  have k1 := s.2.2.1 a (by simp)
  have k2 := s.2.2.1 b (by simp)
  rw [Num.may_fair ma] at k1
  rw [Num.may_fair mb] at k2
  refine ⟨s.1, s.2.1, k1, k2, ?_⟩
  rcases s.2.2.2 with e | ⟨x, hx, e⟩
  · left
    refine Num.val_inj s.1 ma s.2.1 oa ?_
    have := (Num.val_le ma oa).1
    rw [e, Num.val_inf] at k1 ⊢; simp at k1 ⊢; omega
  · simp only [List.mem_cons, List.not_mem_nil, or_false] at hx
    rcases hx with rfl | rfl
    · left; rw [e, Num.may_fair ma]
    · right; rw [e, Num.may_fair mb]
theorem Iv.least_two {a b : Num} (ma : a.may = true) (mb : b.may = true) (oa : a.ok) (ob : b.ok) : (Num.least [a, b]).may = true ∧ (Num.least [a, b]).ok ∧ (Num.least [a, b]).val ≤ a.val ∧ (Num.least [a, b]).val ≤ b.val ∧ (Num.least [a, b] = a ∨ Num.least [a, b] = b) := by
  have s := Num.least_spec [a, b] (by simp; exact ⟨oa, ob⟩)
  have k1 := s.2.2.1 a (by simp)
  have k2 := s.2.2.1 b (by simp)
  rw [Num.may_fair ma] at k1
  rw [Num.may_fair mb] at k2
  refine ⟨s.1, s.2.1, k1, k2, ?_⟩
  rcases s.2.2.2 with e | ⟨x, hx, e⟩
  · left
    refine Num.val_inj s.1 ma s.2.1 oa ?_
    have := (Num.val_le ma oa).2
    rw [e, Num.val_inf] at k1 ⊢; simp at k1 ⊢; omega
  · simp only [List.mem_cons, List.not_mem_nil, or_false] at hx
    rcases hx with rfl | rfl
    · left; rw [e, Num.may_fair ma]
    · right; rw [e, Num.may_fair mb]
theorem Iv.meet_real {x y : Iv} (rx : x.Real) (ry : y.Real) : Iv.meet [x, y] = Iv.make (Num.most [x.lo, y.lo]) (Num.least [x.hi, y.hi]) := by
  have ag : Iv.allGood [x, y] = true := by
    simp only [Iv.allGood, List.all_cons, List.all_nil, Iv.fair_empty, rx.good, ry.good]; decide
  unfold Iv.meet Iv.los Iv.his
  rw [if_pos ag, Iv.goods_two rx ry]; rfl
theorem Iv.meet_one {x : Iv} (h : x.lo.ok ∧ x.hi.ok) : Iv.meet [x] = x.fair := by
  rcases Iv.bad_or_real h with b | r
  · have ag : Iv.allGood [x] = false := by
      simp only [Iv.allGood, List.all_cons, List.all_nil, Iv.fair_empty, b]; decide
    unfold Iv.meet
    rw [if_neg (by rw [ag]; decide)]
    unfold Iv.bad at b
    unfold Iv.fair
    cases hm : x.may with
    | false => rfl
    | true =>
      rw [hm] at b
      simp at b
      rw [if_pos rfl]; exact (Iv.empty_may hm b).symm
  · have ag : Iv.allGood [x] = true := by
      simp only [Iv.allGood, List.all_cons, List.all_nil, Iv.fair_empty, r.good]; decide
    have g : Iv.goods [x] = [x] := by simp only [Iv.goods, r.fair, r.some]; rw [if_neg (by decide)]
    have e1 : Num.most [x.lo] = x.lo := by
      have s := Num.most_spec [x.lo] (by simp; exact r.loo)
      have k1 := s.2.2.1 x.lo (by simp)
      rw [Num.may_fair r.lom] at k1
      refine Num.val_inj s.1 r.lom s.2.1 r.loo ?_
      rcases s.2.2.2 with e | ⟨z, hz, e⟩
      · have := (Num.val_le r.lom r.loo).1
        rw [e, Num.val_inf] at k1 ⊢; simp at k1 ⊢; omega
      · simp at hz; subst hz; rw [e, Num.may_fair r.lom]
    have e2 : Num.least [x.hi] = x.hi := by
      have s := Num.least_spec [x.hi] (by simp; exact r.hio)
      have k1 := s.2.2.1 x.hi (by simp)
      rw [Num.may_fair r.him] at k1
      refine Num.val_inj s.1 r.him s.2.1 r.hio ?_
      rcases s.2.2.2 with e | ⟨z, hz, e⟩
      · have := (Num.val_le r.him r.hio).2
        rw [e, Num.val_inf] at k1 ⊢; simp at k1 ⊢; omega
      · simp at hz; subst hz; rw [e, Num.may_fair r.him]
    have : Iv.meet [x] = Iv.make (Num.most [x.lo]) (Num.least [x.hi]) := by
      unfold Iv.meet Iv.los Iv.his
      rw [if_pos ag, g]; rfl
    rw [this, e1, e2, r.fair, Iv.make_real (by rw [Num.may_fair r.lom, Num.may_fair r.him]; exact ⟨rfl, r.lom, r.him, r.loo, r.hio, r.le, r.lt, r.gt⟩), Num.may_fair r.lom, Num.may_fair r.him]
    have := r.some
    cases x; simp_all
theorem Iv.meet_one_real {x : Iv} (r : x.Real) : Iv.meet [x] = x := by rw [Iv.meet_one ⟨r.loo, r.hio⟩, r.fair]
end Go.Proofs.YtoghalnnmhpfmaaGreat.Ev

/- What is left of operands, as functions of values; what is left is within what was there, and of an empty result nothing is left: plain Lean. -/
namespace Go.Proofs.YtoghalnnmhpfmaaGreat.Ev
open Go

/-- an interval, and whether it has nought -/
structure Opd where
  iv : Iv
  nought : Bool
def Opd.of (x : Iv) : Opd := ⟨Iv.meet [x], Iv.has x Num.zero⟩
def Opd.part (x z y : Opd) : Opd := if (z.nought && y.nought) = true then x else Opd.of (Iv.meet [x.iv, Iv.div z.iv y.iv])
/-- the divisor, but for the point nought -/
def Opd.by (y : Iv) : Opd := if (Opd.of y).iv = Iv.point Num.zero then Opd.of Iv.none else Opd.of y
def Opd.top (z x y : Iv) : Opd := Opd.of (Iv.meet [x, Iv.mul (Opd.of z).iv (Opd.by y).iv])
abbrev Iv.fit (x : Iv) : Prop := x.lo.ok ∧ x.hi.ok
end Go.Proofs.YtoghalnnmhpfmaaGreat.Ev

/- The reference's ways back are the program's: plain Lean. -/
namespace Go.Proofs.YtoghalnnmhpfmaaGreat.Ev
open Go

end Go.Proofs.YtoghalnnmhpfmaaGreat.Ev

/- Contracts of the reference: what is left of operands, but for sums. Printed by gen.py. -/
namespace Go.Proofs.YtoghalnnmhpfmaaGreat.Ev
open Go Go.Proofs
set_option linter.unusedVariables false
set_option linter.unusedSimpArgs false

end Go.Proofs.YtoghalnnmhpfmaaGreat.Ev

/- What the laws of rules and of parts ask for; two intervals cell by cell. -/
namespace Go.Proofs.YtoghalnnmhpfmaaGreat.Ev
open Go Go.Proofs
set_option linter.unusedVariables false
set_option linter.unusedSimpArgs false
end Go.Proofs.YtoghalnnmhpfmaaGreat.Ev

/- Contracts: what is left of operands. Printed by gen.py out of C25.spec. -/
namespace Go.Proofs.YtoghalnnmhpfmaaGreat.Ev
open Go Go.Proofs
set_option linter.unusedVariables false
set_option linter.unusedSimpArgs false
def Opd.av (x : Opd) : AV := .agg [.bool (.s x.iv.empty), .int .i64 (.s x.iv.lo.kind), .bool (.s x.iv.lo.neg), .int .u64 (.s x.iv.lo.m), .int .i64 (.s x.iv.lo.e),
  .int .i64 (.s x.iv.hi.kind), .bool (.s x.iv.hi.neg), .int .u64 (.s x.iv.hi.m), .int .i64 (.s x.iv.hi.e), .bool (.s x.nought)]
set_option maxHeartbeats 4000000
set_option maxRecDepth 10000

end Go.Proofs.YtoghalnnmhpfmaaGreat.Ev

/- What an operation makes just of a number of a result is left: plain Lean. -/
namespace Go.Proofs.YtoghalnnmhpfmaaGreat.Ev
open Go

/-- an interval holds a value -/
structure Holds (x : Iv) (v : Int) : Prop where
  r : x.Real
  lo : x.lo.val ≤ v
  hi : v ≤ x.hi.val
/-- ... of any size, scaled -/
structure Spans (x : Iv) (t : Int) : Prop where
  r : x.Real
  lo : x.lo.below t
  hi : x.hi.above t
abbrev Small (v : Int) : Prop := -pw 1048640 < v ∧ v < pw 1048640
theorem Num.below_of {n : Num} {t : Int} (m : n.may = true) (o : n.ok) (h : n.val < pw 1048640) (g : n.val * pw 0 ≤ t) : n.below t := by
  by_cases k : n.kind = 2
  · rcases Num.inf_val m o k with j | j
    · exact .inl (by rw [Num.inf_of m o k, j.1])
    · omega
  · exact .inr ⟨k, g⟩
theorem Num.above_of {n : Num} {t : Int} (m : n.may = true) (o : n.ok) (h : -pw 1048640 < n.val) (g : t ≤ n.val * pw 0) : n.above t := by
  by_cases k : n.kind = 2
  · rcases Num.inf_val m o k with j | j
    · omega
    · exact .inl (by rw [Num.inf_of m o k, j.1])
  · exact .inr ⟨k, g⟩
theorem Holds.spans {x : Iv} {v : Int} (h : Holds x v) : Spans x (v * pw 0) :=
  ⟨h.r, Num.below_of h.r.lom h.r.loo h.r.lt (Int.mul_le_mul_of_nonneg_right h.lo (Int.le_of_lt (pw_pos 0))), Num.above_of h.r.him h.r.hio h.r.gt (Int.mul_le_mul_of_nonneg_right h.hi (Int.le_of_lt (pw_pos 0)))⟩
theorem Spans.part {a c : Iv} {t : Int} (h : Spans a t) (P : Iv.Part a c) : Spans c t := by
  have p0 := pw_pos 0
  have l := P.lo
  have g := P.hi
  refine ⟨P.rc, ?_, ?_⟩
  · rcases h.lo with e | ⟨-, e⟩
    · left
      refine Num.val_inj P.rc.lom (Num.inf_may _) P.rc.loo (Num.inf_ok _) ?_
      have := (Num.val_le P.rc.lom P.rc.loo).1
      rw [e, Num.val_inf] at l
      rw [Num.val_inf]; simp at l ⊢; omega
    · have := Int.mul_le_mul_of_nonneg_right l (Int.le_of_lt p0)
      exact Num.below_of P.rc.lom P.rc.loo P.rc.lt (by omega)
  · rcases h.hi with e | ⟨-, e⟩
    · left
      refine Num.val_inj P.rc.him (Num.inf_may _) P.rc.hio (Num.inf_ok _) ?_
      have := (Num.val_le P.rc.him P.rc.hio).2
      rw [e, Num.val_inf] at g
      rw [Num.val_inf]; simp at g ⊢; omega
    · have := Int.mul_le_mul_of_nonneg_right g (Int.le_of_lt p0)
      exact Num.above_of P.rc.him P.rc.hio P.rc.gt (by omega)
theorem Spans.within {a c : Iv} {t : Int} (h : Spans a t) (hc : c.fit) (w : a.within c = true) : Spans c t := by
  rcases Iv.within_part ⟨h.r.loo, h.r.hio⟩ hc w with b | P
  · rw [h.r.good] at b; cases b
  · exact h.part P
theorem Spans.neg {x : Iv} {t : Int} (h : Spans x t) : Spans (Iv.neg x) (-t) := by
  rw [Iv.neg_real h.r]
  have r := h.r.neg
  have vh : x.hi.opp.val = -x.hi.val := by rw [Num.opp_val, Num.may_fair h.r.him]
  have vl : x.lo.opp.val = -x.lo.val := by rw [Num.opp_val, Num.may_fair h.r.lom]
  refine ⟨r, ?_, ?_⟩
  · show x.hi.opp.below (-t)
    rcases h.hi with e | ⟨-, e⟩
    · left; rw [e]; exact Num.opp_inf _
    · exact Num.below_of r.lom r.loo r.lt (by show x.hi.opp.val * pw 0 ≤ _; rw [vh, Int.neg_mul]; omega)
  · show x.lo.opp.above (-t)
    rcases h.lo with e | ⟨-, e⟩
    · left; rw [e]; exact Num.opp_inf _
    · exact Num.above_of r.him r.hio r.gt (by show _ ≤ x.lo.opp.val * pw 0; rw [vl, Int.neg_mul]; omega)
theorem Holds.neg {x : Iv} {v : Int} (h : Holds x v) : Holds (Iv.neg x) (-v) := by
  rw [Iv.neg_real h.r]
  have l := h.lo
  have g := h.hi
  exact ⟨h.r.neg, by show x.hi.opp.val ≤ -v; rw [Num.opp_val, Num.may_fair h.r.him]; omega, by show -v ≤ x.lo.opp.val; rw [Num.opp_val, Num.may_fair h.r.lom]; omega⟩
theorem make_holds {l u : Num} {v : Int} (ml : l.may = true) (mu : u.may = true) (ol : l.ok) (ou : u.ok) (h1 : l.val ≤ v) (h2 : v ≤ u.val) (s : Small v) : Holds (Iv.make l u) v := by
  have R : (Iv.mk false l u).Real := ⟨rfl, ml, mu, ol, ou, by show l.val ≤ u.val; omega, by show l.val < _; have := s.2; omega, by show _ < u.val; have := s.1; omega⟩
  rw [Iv.make_real (by rw [Num.may_fair ml, Num.may_fair mu]; exact R), Num.may_fair ml, Num.may_fair mu]
  exact ⟨R, h1, h2⟩
theorem Num.add_lo {a b : Num} {t : Int} (ma : a.may = true) (mb : b.may = true) (oa : a.ok) (ob : b.ok) (na : a.val < pw 1048640) (nb : b.val < pw 1048640) (ht : -pw 1048640 < t) (h : a = Num.inf true ∨ a.val + b.val ≤ t) : (Num.add a b false).val ≤ t := by
  by_cases ka : a.kind = 2
  · have e : a = Num.inf true := by
      rcases Num.inf_val ma oa ka with j | j
      · rw [Num.inf_of ma oa ka, j.1]
      · omega
    rw [Num.add_inf false (by rw [Num.may_fair ma]; exact ka), Num.may_fair ma, Num.may_fair mb]
    have n : ¬ (b.kind = 2 ∧ a.neg ≠ b.neg) := by
      rintro ⟨k, d⟩
      rcases Num.inf_val mb ob k with j | j
      · rw [e, j.1] at d; exact d rfl
      · omega
    rw [if_neg n, e, Num.val_inf]; simp; omega
  · by_cases kb : b.kind = 2
    · have e : b = Num.inf true := by
        rcases Num.inf_val mb ob kb with j | j
        · rw [Num.inf_of mb ob kb, j.1]
        · omega
      rw [Num.add_inf2 oa ob false (by rw [Num.may_fair mb]; exact kb), Num.may_fair ma, Num.may_fair mb, if_neg (fun k => ka k.1), e, Num.val_inf]; simp; omega
    · have B := add_best oa ob (by rw [Num.may_fair ma]; exact ka) (by rw [Num.may_fair mb]; exact kb) false
      rw [Num.may_fair ma, Num.may_fair mb] at B
      rcases (B.down rfl).2 with e | e
      · rw [e, Num.val_inf]; simp; omega
      · rcases h with h | h
        · rw [h] at ka; exact absurd rfl ka
        · omega
theorem Num.add_hi {a b : Num} {t : Int} (ma : a.may = true) (mb : b.may = true) (oa : a.ok) (ob : b.ok) (na : -pw 1048640 < a.val) (nb : -pw 1048640 < b.val) (ht : t < pw 1048640) (h : a = Num.inf false ∨ t ≤ a.val + b.val) : t ≤ (Num.add a b true).val := by
  have va : a.opp.val = -a.val := by rw [Num.opp_val, Num.may_fair ma]
  have vb : b.opp.val = -b.val := by rw [Num.opp_val, Num.may_fair mb]
  have k := Num.add_lo (t := -t) (Num.opp_may a) (Num.opp_may b) (Num.opp_ok oa) (Num.opp_ok ob) (by omega) (by omega) (by omega) (h.imp (fun e => by rw [e]; exact Num.opp_inf _) (fun e => by omega))
  have e := Num.add_opp oa ob true
  rw [show (!true) = false from rfl] at e
  rw [e, Num.opp_val, Num.may_fair (Num.add_may oa ob true)] at k
  omega
/-- What spans one and what holds another one: their sum holds both together. -/
theorem Spans.add {x y : Iv} {s v w : Int} (h : Spans x (s * pw 0)) (g : Holds y w) (e : v = s + w) (k : Small v) : Holds (Iv.add [x, y]) v := by
  have p0 := pw_pos 0
  rw [Iv.add2_eq, h.r.good, g.r.good]
  simp only [Bool.or_self, Bool.false_eq_true, if_false]
  have l := g.lo
  have u := g.hi
  refine make_holds (Num.add_may h.r.loo g.r.loo _) (Num.add_may h.r.hio g.r.hio _) (Num.add_ok h.r.loo g.r.loo _) (Num.add_ok h.r.hio g.r.hio _) ?_ ?_ k
  · refine Num.add_lo h.r.lom g.r.lom h.r.loo g.r.loo h.r.lt g.r.lt k.1 ?_
    rcases h.lo with q | ⟨-, q⟩
    · exact .inl q
    · right
      have := Int.le_of_mul_le_mul_right q p0
      omega
  · refine Num.add_hi h.r.him g.r.him h.r.hio g.r.hio h.r.gt g.r.gt k.2 ?_
    rcases h.hi with q | ⟨-, q⟩
    · exact .inl q
    · right
      have := Int.le_of_mul_le_mul_right q p0
      omega
theorem Spans.sub {x y : Iv} {s v w : Int} (h : Spans x (s * pw 0)) (g : Holds y w) (e : v = s - w) (k : Small v) : Holds (Iv.sub x y) v := h.add g.neg (by omega) k
/-- ... and the other way round -/
theorem Spans.from {x y : Iv} {s v w : Int} (h : Spans x (s * pw 0)) (g : Holds y w) (e : v = w - s) (k : Small v) : Holds (Iv.sub y x) v := by
  have n := h.neg
  rw [← Int.neg_mul] at n
  have a := n.add g (by omega) k
  unfold Iv.sub
  rwa [Iv.add2_comm ⟨g.r.loo, g.r.hio⟩ (Iv.neg_ok h.r.loo h.r.hio)]
theorem Holds.meet {x y : Iv} {v : Int} (h : Holds x v) (g : Holds y v) (k : Small v) : Holds (Iv.meet [x, y]) v := by
  obtain ⟨m1, m2, -, -, m5⟩ := Iv.most_two h.r.lom g.r.lom h.r.loo g.r.loo
  obtain ⟨l1, l2, -, -, l5⟩ := Iv.least_two h.r.him g.r.him h.r.hio g.r.hio
  rw [Iv.meet_real h.r g.r]
  refine make_holds m1 l1 m2 l2 ?_ ?_ k
  · rcases m5 with e | e <;> rw [e]
    · exact h.lo
    · exact g.lo
  · rcases l5 with e | e <;> rw [e]
    · exact h.hi
    · exact g.hi

theorem Holds.of {x : Iv} {v : Int} (h : Holds x v) : Holds (Opd.of x).iv v := by
  show Holds (Iv.meet [x]) v
  rw [Iv.meet_one_real h.r]; exact h
theorem Spans.of {x : Iv} {t : Int} (h : Spans x t) : Spans (Opd.of x).iv t := by
  show Spans (Iv.meet [x]) t
  rw [Iv.meet_one_real h.r]; exact h
end Go.Proofs.YtoghalnnmhpfmaaGreat.Ev

/- Contracts: the chapter's examples of what is left of operands. Printed by gen.py out of C26a.spec. -/
namespace Go.Proofs.YtoghalnnmhpfmaaGreat.Ev
open Go Go.Proofs
set_option linter.unusedVariables false
set_option linter.unusedSimpArgs false
end Go.Proofs.YtoghalnnmhpfmaaGreat.Ev

/- Contracts: the laws of what is left of the operands of squares, roots and opposites, and of products and quotients. Printed by gen.py. -/
namespace Go.Proofs.YtoghalnnmhpfmaaGreat.Ev
open Go Go.Proofs
set_option linter.unusedVariables false
set_option linter.unusedSimpArgs false

end Go.Proofs.YtoghalnnmhpfmaaGreat.Ev

/- How far from nought the exponents of sums are: plain Lean. -/
namespace Go.Proofs.YtoghalnnmhpfmaaGreat.Ev
open Go

/-- of an exponent that is not farther than that from nought, if any -/
def Num.nearB (B : Int) (n : Num) : Prop := n.kind = 1 → -B ≤ n.e ∧ n.e ≤ B
theorem Num.nearB.mono {B C : Int} {n : Num} (h : n.nearB B) (hc : B ≤ C) : n.nearB C := fun k => by have := h k; omega
def Iv.nearB (B : Int) (x : Iv) : Prop := x.lo.nearB B ∧ x.hi.nearB B
theorem Iv.nearB.mono {B C : Int} {x : Iv} (h : x.nearB B) (hc : B ≤ C) : x.nearB C := ⟨h.1.mono hc, h.2.mono hc⟩
def Num.few (n : Num) : Bool := decide (n.kind ≠ 1) || (decide (-1500 ≤ n.e) && decide (n.e ≤ 1500))
def Iv.few (x : Iv) : Bool := x.lo.few && x.hi.few
end Go.Proofs.YtoghalnnmhpfmaaGreat.Ev

/- Contracts of the reference: what is left of the operands of sums. Printed by gen.py. -/
namespace Go.Proofs.YtoghalnnmhpfmaaGreat.Ev
open Go Go.Proofs
set_option linter.unusedVariables false
set_option linter.unusedSimpArgs false

end Go.Proofs.YtoghalnnmhpfmaaGreat.Ev

/- Contracts: are exponents near nought? Printed by gen.py. -/
namespace Go.Proofs.YtoghalnnmhpfmaaGreat.Ev
open Go Go.Proofs
set_option linter.unusedVariables false
set_option linter.unusedSimpArgs false

end Go.Proofs.YtoghalnnmhpfmaaGreat.Ev

/- Contracts: the law of what is left of the operands of sums and differences. Printed by gen.py. -/
namespace Go.Proofs.YtoghalnnmhpfmaaGreat.Ev
open Go Go.Proofs
set_option linter.unusedVariables false
set_option linter.unusedSimpArgs false

end Go.Proofs.YtoghalnnmhpfmaaGreat.Ev
