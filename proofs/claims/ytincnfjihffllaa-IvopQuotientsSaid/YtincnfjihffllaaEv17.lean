/- The evaluator over a function's whole body. -/
import Derived.Test.YtincnfjihffllaaEv16
import Derived.Test.YtincnfjihffllaaEv25
import Derived.Deep.LoopGhost
namespace Go.Proofs.Ytincnfjihffllaa.Ev
open Go Go.RowKit
set_option linter.unusedVariables false
set_option linter.unusedSimpArgs false

section
variable {P : Program} {G : Nat → TI} {base : Nat} {O0 : Nat → Prop} {μ : Nat → Nat} {hp : List Blk} {w w' : World}

theorem SR.grow {I : X} {nt : Nat} {s : St} {a : Act} (R : SR base O0 I nt s μ a w) (hb : Below w.heap.size w w') : SR base O0 I nt s μ a w' := by
  have ex := Ext.grow (O0 := O0) (μ := μ) (hp := s.h) R.hr.all hb
  exact ⟨R.size, R.defers, R.hr.grow hb, R.tmps.mono ex, R.ext.trans ex, R.below.trans (hb.mono R.hr.all)⟩

theorem headLen_le (l : List Oper) : headLen l ≤ l.length := by
  induction l with
  | nil => simp [headLen]
  | cons o r ih =>
    simp only [headLen]
    cases allB isTail (o :: r) <;> simp_all

theorem draw_sound0 (hG : GOK P G) (hm : P.follows .mixedOrders = true) {I : X} {nt : Nat} {ops : Array Oper} {id : Nat} {K : St → Prop} {Q : Exit → Act → World → Prop}
    (hQ : ∀ s μ a w, SR base O0 I nt s μ a w → K s → Q .normal a w) (hD : drawB ops (headN ops.toList) = true) (hd : ∀ o ∈ ops.toList, ∀ d, o.dst = some d → d < nt)
    {s : St} {a : Act} (R : SR base O0 I nt s μ a w) (h : evDraw0 (realE P) G ops.toList K s) : (Code.region id ops true).wp P Q a w := by
  have D := drawOK_of hD
  unfold evDraw0 at h
  generalize headN ops.toList = n at *
  obtain ⟨t, hp⟩ := s
  rw [takeO_eq, dropO_eq] at h
  obtain ⟨t2, hpath, hK⟩ := path_of_head _ _ _ h
  have hget : ∀ (i : Nat) (o : Oper), (ops.toList.take n)[i]? = some o → i < n ∧ ops[i]? = some o := by
    intro i o hi
    rw [List.getElem?_take] at hi
    split at hi
    · exact ⟨‹_›, by simpa using hi⟩
    · cases hi
  have hdoes := path_does (base := base) (O0 := O0) (μ := μ) hG hpath
    (fun i j o o' hi hj hij u hu hd' => by
      obtain ⟨h1, h2⟩ := hget i o hi
      obtain ⟨h3, h4⟩ := hget j o' hj
      obtain ⟨oj, hoj, e, he, hb, hon⟩ := Region.waitsFor_spec (D.looks i j o o' h1 h3 h2 h4 u hu hd')
      have : oj = o := Option.some.inj (hoj.symm.trans h2)
      subst this
      have := D.back i oj h2 e he hb
      omega)
    (fun i j o o' hi hj hij d hd' => by
      obtain ⟨h1, h2⟩ := hget i o hi
      obtain ⟨h3, h4⟩ := hget j o' hj
      exact D.apart i j o o' h1 h3 h2 h4 (by omega) d hd')
  have hdo : ∀ i o, i < n → ops[i]? = some o → Does P base O0 μ hp ops o t2 := by
    intro i o hi ho
    exact hdoes i o (by rw [List.getElem?_take, if_pos hi]; simpa using ho)
  refine wp_region_any hm ?_
  have R' := R.grow (w' := { w with drawn := w.drawn + 1 }) (Below.refl _ _).drew
  have key := mid_wp (P := P) (base := base) (O0 := O0) (μ := μ) (hp := hp) (I := I) (nt := nt) D (t2 := t2) hdo
    (fun i o hi ho d hd' => hd o (List.mem_of_getElem? (i := i) (by simpa using ho)) d hd') (Q := Q)
    (fun a w R2 => by
      have hl : ops.size - n = (ops.toList.drop n).length := by simp
      rw [hl]
      refine wpAny_of_seq (ops.toList.drop n) n _ a w (fun j => by simp) (by rw [← hl]; exact D.seq) ?_
      exact evOps_sound hG hQ _ _ μ a w (fun o ho d hd' => hd o (List.mem_of_mem_drop ho) d hd') R2 hK)
    n (Array.replicate ops.size false) a { w with drawn := w.drawn + 1 } (by
      rw [List.filter_eq_self.2]
      · simp
      · intro i hi
        rw [getD_replicate_false]
        rfl)
    ⟨by simp, fun j oj hj hl => (by rw [getD_replicate_false] at hl; cases hl), fun t' h1 h2 => by simp [h2]⟩
    ⟨R'.size, R'.defers, R'.hr, fun u hu => (path_alike hpath u (fun o ho hd' => by
      obtain ⟨i, hi⟩ := List.getElem?_of_mem ho
      obtain ⟨h1, h2⟩ := hget i o hi
      have := hu i o h1 h2 hd'
      rw [getD_replicate_false] at this
      cases this) _ _).1 (R'.tmps u), R'.ext, R'.below⟩
  rw [show n + (ops.size - n) = ops.size from by have := D.le; omega] at key
  exact key

/-- What is asked of a drawn region. -/
def drawOKB (ops : Array Oper) : Bool := bif lateUse ops.toList then lateOKB ops (headLen ops.toList) else drawB ops (headN ops.toList)

theorem draw_sound (hG : GOK P G) (hm : P.follows .mixedOrders = true) {I : X} {nt : Nat} {ops : Array Oper} {id : Nat} {K : St → Prop} {Q : Exit → Act → World → Prop}
    (hQ : ∀ s μ a w, SR base O0 I nt s μ a w → K s → Q .normal a w) (hD : drawOKB ops = true) (hd : ∀ o ∈ ops.toList, ∀ d, o.dst = some d → d < nt)
    {s : St} {a : Act} (R : SR base O0 I nt s μ a w) (h : evDraw (realE P) G ops.toList K s) : (Code.region id ops true).wp P Q a w := by
  unfold drawOKB at hD
  unfold evDraw at h
  cases hl : lateUse ops.toList with
  | true => rw [hl] at hD h; exact late_sound hG hm hQ hD hd R h
  | false => rw [hl] at hD h; exact draw_sound0 hG hm hQ hD hd R h

def opsOK (nt : Nat) (ops : List Oper) : Bool := ops.all (fun o => match o.dst with
  | some d => Nat.blt d nt
  | none => true)
theorem opsOK_spec {nt : Nat} {ops : List Oper} (h : opsOK nt ops = true) : ∀ o ∈ ops, ∀ d, o.dst = some d → d < nt := by
  intro o ho d hd
  have := List.all_eq_true.1 h o ho
  rw [hd] at this
  exact Nat.le_of_ble_eq_true this

/-- What is asked of a body's text. -/
def codeOK (nt : Nat) : Code → Bool
  | .region _ ops draw => opsOK nt ops.toList && (!draw || drawOKB ops)
  | .seq a b => codeOK nt a && codeOK nt b
  | .cond _ a b => codeOK nt a && codeOK nt b
  | .block _ b => codeOK nt b
  | .loop b => codeOK nt b
  | _ => true

/-- what is asked at the end of a piece of code -/
def Qof (base : Nat) (O0 : Nat → Prop) (I : X) (nt : Nat) (K : Ex → St → Prop) : Exit → Act → World → Prop
  | .normal, a, w => ∃ s μ, SR base O0 I nt s μ a w ∧ K .normal s
  | .exit i, a, w => ∃ s μ, SR base O0 I nt s μ a w ∧ K (.exit i) s
  | .goto i, a, w => ∃ s μ, SR base O0 I nt s μ a w ∧ K (.goto i) s
  | .ret, a, w => ∃ s μ, SR base O0 I nt s μ a w ∧ K .ret s
  | _, _, _ => False

/-- a loop's rule: whatever holds of it -/
def lpR (P : Program) (nt : Nat) (b : Code) (s : St) (K : Ex → St → Prop) : Prop :=
  ∀ (base : Nat) (O0 : Nat → Prop) (I : X) (μ : Nat → Nat) (a : Act) (w : World), SR base O0 I nt s μ a w → (Code.loop b).wp P (Qof base O0 I nt K) a w

theorem ev_sound (hG : GOK P G) (hm : P.follows .mixedOrders = true) {I : X} {nt : Nat} {lp : Code → St → (Ex → St → Prop) → Prop} (hlp : ∀ b s K, codeOK nt b = true → lp b s K → lpR P nt b s K) :
    ∀ (c : Code) (K : Ex → St → Prop) (s : St) (μ : Nat → Nat) (a : Act) (w : World), codeOK nt c = true → SR base O0 I nt s μ a w → ev (realE P) G lp c s K → c.wp P (Qof base O0 I nt K) a w := by
  intro c
  induction c with
  | skip => intro K s μ a w hc R h; exact wp_skip ⟨s, μ, R, h⟩
  | label l => intro K s μ a w hc R h; exact wp_label ⟨s, μ, R, h⟩
  | ret => intro K s μ a w hc R h; exact wp_ret ⟨s, μ, R, h⟩
  | exit i => intro K s μ a w hc R h; exact wp_exit ⟨s, μ, R, h⟩
  | goto i => intro K s μ a w hc R h; exact wp_goto ⟨s, μ, R, h⟩
  | region id ops draw =>
    intro K s μ a w hc R h
    simp only [codeOK, Bool.and_eq_true] at hc
    have hd := opsOK_spec hc.1
    cases draw with
    | true =>
      simp only [Bool.not_true, Bool.false_or] at hc
      exact draw_sound hG hm (K := K .normal) (fun s μ a w R hK => ⟨s, μ, R, hK⟩) hc.2 hd R h
    | false => exact wp_region_list (evOps_sound hG (K := K .normal) (fun s μ a w R hK => ⟨s, μ, R, hK⟩) ops.toList s μ a w hd R h)
  | seq x y ihx ihy =>
    intro K s μ a w hc R h
    simp only [codeOK, Bool.and_eq_true] at hc
    refine wp_seq (wp_mono (ihx _ s μ a w hc.1 R h) ?_)
    intro e a w hq
    cases e with
    | normal => obtain ⟨s', μ', R', h'⟩ := hq; exact ihy K s' μ' a w hc.2 R' h'
    | exit i => exact hq
    | goto i => exact hq
    | ret => exact hq
    | panic ch => exact hq.elim
    | outgrown => exact hq.elim
  | cond c x y ihx ihy =>
    intro K s μ a w hc R h
    simp only [codeOK, Bool.and_eq_true] at hc
    rcases brAV_real (opd_rel R.tmps c) h with ⟨h1, h2⟩ | ⟨h1, h2⟩
    · exact wp_cond_true h1 (ihx K s μ a w hc.1 R h2)
    · exact wp_cond_false h1 (ihy K s μ a w hc.2 R h2)
  | block i b ih =>
    intro K s μ a w hc R h
    refine wp_block (wp_mono (ih _ s μ a w hc R h) ?_)
    intro e a w hq
    cases e with
    | normal => exact hq
    | exit j =>
      obtain ⟨s', μ', R', h'⟩ := hq
      by_cases hij : j = i
      · subst hij
        dsimp only at h'
        rw [Nat.beq_refl, cond_true] at h'
        simp only [Exit.inBlock, if_true]
        exact ⟨s', μ', R', h'⟩
      · have : Nat.beq i j = false := by
          cases hb : Nat.beq i j
          · rfl
          · exact absurd (Nat.eq_of_beq_eq_true hb).symm hij
        dsimp only at h'
        rw [this, cond_false] at h'
        simp only [Exit.inBlock, if_neg hij]
        exact ⟨s', μ', R', h'⟩
    | goto l => exact hq
    | ret => exact hq
    | panic ch => exact hq.elim
    | outgrown => exact hq.elim
  | loop b ih =>
    intro K s μ a w hc R h
    exact hlp b s K hc h base O0 I μ a w R
  | _ => intro K s μ a w hc R h; exact h.elim

/-! ### loops -/
/-- what is told less of -/
def AVle (x y : AV) : Prop := ∀ (X : X) (v : Value), RelV X x v → RelV X y v

theorem AVle.refl (x : AV) : AVle x x := fun _ _ h => h
theorem AVle.un (x : AV) : AVle x .un := fun _ _ _ => RoV.un _

def StLe (s s' : St) : Prop := s.h = s'.h ∧ ∀ u, AVle (lookT s.t u) (lookT s'.t u)

theorem SR.le {I : X} {nt : Nat} {s s' : St} {a : Act} (R : SR base O0 I nt s μ a w) (h : StLe s s') : SR base O0 I nt s' μ a w :=
  ⟨R.size, R.defers, h.1 ▸ R.hr, fun u => by rw [← h.1]; exact h.2 u _ _ (R.tmps u), h.1 ▸ R.ext, R.below⟩

/-- A loop: states, each of which is told by a mark; every round makes the measure less. -/
theorem loop_real {ι : Type} (hG : GOK P G) (hm : P.follows .mixedOrders = true) {nt : Nat} {lp : Code → St → (Ex → St → Prop) → Prop} (hlp : ∀ b s K, codeOK nt b = true → lp b s K → lpR P nt b s K) {b : Code} (hc : codeOK nt b = true)
    {s : St} {K : Ex → St → Prop} (S : ι → St) (m : ι → Nat) (ok : ι → Prop) (h0 : ∃ i, ok i ∧ StLe s (S i))
    (hr : ∀ i, ok i → ev (realE P) G lp b (S i) (fun e s => match e with
      | .normal => ∃ j, m j < m i ∧ ok j ∧ StLe s (S j)
      | .exit x => K (.exit x) s
      | .goto x => K (.goto x) s
      | .ret => K .ret s)) : lpR P nt b s K := by
  intro base O0 I μ a w R
  obtain ⟨i0, ho0, hl0⟩ := h0
  refine wp_loop_ghost (fun n a w => ∃ i μ, m i = n ∧ ok i ∧ SR base O0 I nt (S i) μ a w) (m i0) ⟨i0, μ, rfl, ho0, R.le hl0⟩ ?_
  rintro n a w ⟨i, μ, rfl, ho, R⟩
  refine wp_mono (ev_sound hG hm hlp b _ (S i) μ a w hc R (hr i ho)) ?_
  intro e a w hq
  cases e with
  | normal =>
    obtain ⟨s', μ', R', j, h1, h2, h3⟩ := hq
    exact ⟨m j, h1, j, μ', rfl, h2, R'.le h3⟩
  | exit i => exact hq
  | goto i => exact hq
  | ret => exact hq
  | panic ch => exact hq.elim
  | outgrown => exact hq.elim

end
end Go.Proofs.Ytincnfjihffllaa.Ev
