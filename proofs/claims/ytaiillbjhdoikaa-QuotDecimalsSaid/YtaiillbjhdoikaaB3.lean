/- Texts of the proof, joined: Ev17 Ev18 Ev19 Ev20 Ev21 Ev29 Tab Pu1 C1 Pu2 C2 Pu0 Bn1 Bn2 Bn3 Bn4 Bn5 Bn6 N0 Pu4 Ev22 Pu5 N1 NTrim Bn7 Bn8 C22a N2 N3 Br1 -/
import Derived.Test.YtaiillbjhdoikaaB2
import Derived.Deep.LoopGhost
import Derived.Scope
import Derived.Laws.Sem
import Derived.LoopN
import Derived.Test.YtaiillbjhdoikaaProg
import Derived.KernelRfl
import Derived.Laws.Bits64
import Derived.Laws.BitsLemmas
set_option linter.unusedVariables false
set_option linter.unusedSimpArgs false

/- The evaluator over a function's whole body. -/
namespace Go.Proofs.Ytaiillbjhdoikaa.Ev
open Go Go.RowKit
set_option linter.unusedVariables false
set_option linter.unusedSimpArgs false

section
variable {P : Program} {G : Nat → TI} {base : Nat} {O0 : Nat → Prop} {μ : Nat → Nat} {hp : List Blk} {w w' : World}

theorem SR.grow {I : X} {nt : Nat} {s : St} {a : Act} (R : SR base O0 I nt s μ a w) (hb : Below w.heap.size w w') : SR base O0 I nt s μ a w' := by
  have ex := Ext.grow (O0 := O0) (μ := μ) (hp := s.h) R.hr.all hb
  exact ⟨R.size, R.defers, R.hr.grow hb, R.tmps.mono ex, R.ext.trans ex, R.below.trans (hb.mono R.hr.all)⟩

theorem draw_sound0 (hG : GOK P G) (hm : P.follows .mixedOrders = true) {I : X} {nt : Nat} {ops : Array Oper} {id : Nat} {K : St → Prop} {Q : Exit → Act → World → Prop}
    (hQ : ∀ s μ a w, SR base O0 I nt s μ a w → K s → Q .normal a w) (hD : drawB ops (headN ops.toList) = true) (hd : ∀ o ∈ ops.toList, ∀ d, o.dst = some d → d < nt)
    {s : St} {a : Act} (R : SR base O0 I nt s μ a w) (h : evDraw0 (realE P) G ops.toList K s) : (Code.region id ops true).wp P Q a w := by
  have D := drawOK_of hD
  unfold evDraw0 at h
  generalize headN ops.toList = n at *
  obtain ⟨t, hp⟩ := s
  rw [takeO_eq, dropO_eq] at h
  obtain ⟨t2, hpath, hK⟩ := path_of_head _ _ _ h
  have hget : ∀ (i : Nat) (o : Oper), (ops.toList.take n)[i]? = some o → i < n ∧ ops[i]? = some o := by
    intro i o hi
    rw [List.getElem?_take] at hi
    split at hi
    · exact ⟨‹_›, by simpa using hi⟩
    · cases hi
  have hdoes := path_does (base := base) (O0 := O0) (μ := μ) hG hpath
    (fun i j o o' hi hj hij u hu hd' => by
      obtain ⟨h1, h2⟩ := hget i o hi
      obtain ⟨h3, h4⟩ := hget j o' hj
      obtain ⟨oj, hoj, e, he, hb, hon⟩ := Region.waitsFor_spec (D.looks i j o o' h1 h3 h2 h4 u hu hd')
      have : oj = o := Option.some.inj (hoj.symm.trans h2)
      subst this
      have := D.back i oj h2 e he hb
      omega)
    (fun i j o o' hi hj hij d hd' => by
      obtain ⟨h1, h2⟩ := hget i o hi
      obtain ⟨h3, h4⟩ := hget j o' hj
      exact D.apart i j o o' h1 h3 h2 h4 (by omega) d hd')
  have hdo : ∀ i o, i < n → ops[i]? = some o → Does P base O0 μ hp ops o t2 := by
    intro i o hi ho
    exact hdoes i o (by rw [List.getElem?_take, if_pos hi]; simpa using ho)
  refine wp_region_any hm ?_
  have R' := R.grow (w' := { w with drawn := w.drawn + 1 }) (Below.refl _ _).drew
  have key := mid_wp (P := P) (base := base) (O0 := O0) (μ := μ) (hp := hp) (I := I) (nt := nt) D (t2 := t2) hdo
    (fun i o hi ho d hd' => hd o (List.mem_of_getElem? (i := i) (by simpa using ho)) d hd') (Q := Q)
    (fun a w R2 => by
      have hl : ops.size - n = (ops.toList.drop n).length := by simp
      rw [hl]
      refine wpAny_of_seq (ops.toList.drop n) n _ a w (fun j => by simp) (by rw [← hl]; exact D.seq) ?_
      exact evOps_sound hG hQ _ _ μ a w (fun o ho d hd' => hd o (List.mem_of_mem_drop ho) d hd') R2 hK)
    n (Array.replicate ops.size false) a { w with drawn := w.drawn + 1 } (by
      rw [List.filter_eq_self.2]
      · simp
      · intro i hi
        rw [getD_replicate_false]
        rfl)
    ⟨by simp, fun j oj hj hl => (by rw [getD_replicate_false] at hl; cases hl), fun t' h1 h2 => by simp [h2]⟩
    ⟨R'.size, R'.defers, R'.hr, fun u hu => (path_alike hpath u (fun o ho hd' => by
      obtain ⟨i, hi⟩ := List.getElem?_of_mem ho
      obtain ⟨h1, h2⟩ := hget i o hi
      have := hu i o h1 h2 hd'
      rw [getD_replicate_false] at this
      cases this) _ _).1 (R'.tmps u), R'.ext, R'.below⟩
  rw [show n + (ops.size - n) = ops.size from by have := D.le; omega] at key
  exact key

/-- What is asked of a drawn region. -/
def drawOKB (ops : Array Oper) : Bool := bif mixUse ops.toList then mixOKB ops else bif lateUse ops.toList then lateOKB ops (headLen ops.toList) else drawB ops (headN ops.toList)

theorem draw_sound (hG : GOK P G) (hm : P.follows .mixedOrders = true) {I : X} {nt : Nat} {ops : Array Oper} {id : Nat} {K : St → Prop} {Q : Exit → Act → World → Prop}
    (hQ : ∀ s μ a w, SR base O0 I nt s μ a w → K s → Q .normal a w) (hD : drawOKB ops = true) (hd : ∀ o ∈ ops.toList, ∀ d, o.dst = some d → d < nt)
    {s : St} {a : Act} (R : SR base O0 I nt s μ a w) (h : evDraw (realE P) G ops.toList K s) : (Code.region id ops true).wp P Q a w := by
  unfold drawOKB at hD
  unfold evDraw at h
  cases hx : mixUse ops.toList with
  | true => rw [hx] at hD h; exact mix_sound hG hm hQ hD hd R h
  | false =>
    rw [hx] at hD h
    cases hl : lateUse ops.toList with
    | true => rw [hl] at hD h; exact late_sound hG hm hQ hD hd R h
    | false => rw [hl] at hD h; exact draw_sound0 hG hm hQ hD hd R h

def opsOK (nt : Nat) (ops : List Oper) : Bool := ops.all (fun o => match o.dst with
  | some d => Nat.blt d nt
  | none => true)
theorem opsOK_spec {nt : Nat} {ops : List Oper} (h : opsOK nt ops = true) : ∀ o ∈ ops, ∀ d, o.dst = some d → d < nt := by
  intro o ho d hd
  have := List.all_eq_true.1 h o ho
  rw [hd] at this
  exact Nat.le_of_ble_eq_true this

/-- What is asked of a body's text. -/
def codeOK (nt : Nat) : Code → Bool
  | .region _ ops draw => opsOK nt ops.toList && (!draw || drawOKB ops)
  | .seq a b => codeOK nt a && codeOK nt b
  | .cond _ a b => codeOK nt a && codeOK nt b
  | .block _ b => codeOK nt b
  | .loop b => codeOK nt b
  | .scope b => codeOK nt b
  | _ => true

/-- what is asked at the end of a piece of code -/
def Qof (base : Nat) (O0 : Nat → Prop) (I : X) (nt : Nat) (K : Ex → St → Prop) : Exit → Act → World → Prop
  | .normal, a, w => ∃ s μ, SR base O0 I nt s μ a w ∧ K .normal s
  | .exit i, a, w => ∃ s μ, SR base O0 I nt s μ a w ∧ K (.exit i) s
  | .goto i, a, w => ∃ s μ, SR base O0 I nt s μ a w ∧ K (.goto i) s
  | .ret, a, w => ∃ s μ, SR base O0 I nt s μ a w ∧ K .ret s
  | _, _, _ => False

/-- a loop's rule: whatever holds of it -/
def lpR (P : Program) (nt : Nat) (c : Code) (s : St) (K : Ex → St → Prop) : Prop :=
  ∀ (base : Nat) (O0 : Nat → Prop) (I : X) (μ : Nat → Nat) (a : Act) (w : World), SR base O0 I nt s μ a w → c.wp P (Qof base O0 I nt K) a w

theorem ev_sound (hG : GOK P G) (hm : P.follows .mixedOrders = true) {I : X} {nt : Nat} {lp : Code → St → (Ex → St → Prop) → Prop} (hlp : ∀ b s K, codeOK nt b = true → lp b s K → lpR P nt b s K) :
    ∀ (c : Code) (K : Ex → St → Prop) (s : St) (μ : Nat → Nat) (a : Act) (w : World), codeOK nt c = true → SR base O0 I nt s μ a w → ev (realE P) G lp c s K → c.wp P (Qof base O0 I nt K) a w := by
  intro c
  induction c with
  | skip => intro K s μ a w hc R h; exact wp_skip ⟨s, μ, R, h⟩
  | label l => intro K s μ a w hc R h; exact wp_label ⟨s, μ, R, h⟩
  | ret => intro K s μ a w hc R h; exact wp_ret ⟨s, μ, R, h⟩
  | exit i => intro K s μ a w hc R h; exact wp_exit ⟨s, μ, R, h⟩
  | goto i => intro K s μ a w hc R h; exact wp_goto ⟨s, μ, R, h⟩
  | region id ops draw =>
    intro K s μ a w hc R h
    simp only [codeOK, Bool.and_eq_true] at hc
    have hd := opsOK_spec hc.1
    cases draw with
    | true =>
      simp only [Bool.not_true, Bool.false_or] at hc
      exact draw_sound hG hm (K := K .normal) (fun s μ a w R hK => ⟨s, μ, R, hK⟩) hc.2 hd R h
    | false => exact wp_region_list (evOps_sound hG (K := K .normal) (fun s μ a w R hK => ⟨s, μ, R, hK⟩) ops.toList s μ a w hd R h)
  | seq x y ihx ihy =>
    intro K s μ a w hc R h
    simp only [codeOK, Bool.and_eq_true] at hc
    refine wp_seq (wp_mono (ihx _ s μ a w hc.1 R h) ?_)
    intro e a w hq
    cases e with
    | normal => obtain ⟨s', μ', R', h'⟩ := hq; exact ihy K s' μ' a w hc.2 R' h'
    | exit i => exact hq
    | goto i => exact hq
    | ret => exact hq
    | panic ch => exact hq.elim
    | outgrown => exact hq.elim
  | cond c x y ihx ihy =>
    intro K s μ a w hc R h
    simp only [codeOK, Bool.and_eq_true] at hc
    rcases brAV_real (opd_rel R.tmps R.hr.glob c) h with ⟨h1, h2⟩ | ⟨h1, h2⟩
    · exact wp_cond_true h1 (ihx K s μ a w hc.1 R h2)
    · exact wp_cond_false h1 (ihy K s μ a w hc.2 R h2)
  | block i b ih =>
    intro K s μ a w hc R h
    refine wp_block (wp_mono (ih _ s μ a w hc R h) ?_)
    intro e a w hq
    cases e with
    | normal => exact hq
    | exit j =>
      obtain ⟨s', μ', R', h'⟩ := hq
      by_cases hij : j = i
      · subst hij
        dsimp only at h'
        rw [Nat.beq_refl, cond_true] at h'
        simp only [Exit.inBlock, if_true]
        exact ⟨s', μ', R', h'⟩
      · have : Nat.beq i j = false := by
          cases hb : Nat.beq i j
          · rfl
          · exact absurd (Nat.eq_of_beq_eq_true hb).symm hij
        dsimp only at h'
        rw [this, cond_false] at h'
        simp only [Exit.inBlock, if_neg hij]
        exact ⟨s', μ', R', h'⟩
    | goto l => exact hq
    | ret => exact hq
    | panic ch => exact hq.elim
    | outgrown => exact hq.elim
  | loop b ih =>
    intro K s μ a w hc R h
    exact hlp (.loop b) s K hc h base O0 I μ a w R
  | scope b ih =>
    intro K s μ a w hc R h
    exact hlp (.scope b) s K hc h base O0 I μ a w R
  | _ => intro K s μ a w hc R h; exact h.elim

/-! ### loops -/
/-- what is told less of -/
def AVle (x y : AV) : Prop := ∀ (X : X) (v : Value), RelV X x v → RelV X y v

theorem AVle.refl (x : AV) : AVle x x := fun _ _ h => h
theorem AVle.un (x : AV) : AVle x .un := fun _ _ _ => RoV.un _

def StLe (s s' : St) : Prop := s.h = s'.h ∧ ∀ u, AVle (lookT s.t u) (lookT s'.t u)

theorem SR.le {I : X} {nt : Nat} {s s' : St} {a : Act} (R : SR base O0 I nt s μ a w) (h : StLe s s') : SR base O0 I nt s' μ a w :=
  ⟨R.size, R.defers, h.1 ▸ R.hr, fun u => by rw [← h.1]; exact h.2 u _ _ (R.tmps u), h.1 ▸ R.ext, R.below⟩

/-- A loop: states, each of which is told by a mark; every round makes the measure less. -/
theorem loop_real {ι : Type} (hG : GOK P G) (hm : P.follows .mixedOrders = true) {nt : Nat} {lp : Code → St → (Ex → St → Prop) → Prop} (hlp : ∀ b s K, codeOK nt b = true → lp b s K → lpR P nt b s K) {b : Code} (hc : codeOK nt b = true)
    {s : St} {K : Ex → St → Prop} (S : ι → St) (m : ι → Nat) (ok : ι → Prop) (h0 : ∃ i, ok i ∧ StLe s (S i))
    (hr : ∀ i, ok i → ev (realE P) G lp b (S i) (fun e s => match e with
      | .normal => ∃ j, m j < m i ∧ ok j ∧ StLe s (S j)
      | .exit x => K (.exit x) s
      | .goto x => K (.goto x) s
      | .ret => K .ret s)) : lpR P nt (.loop b) s K := by
  intro base O0 I μ a w R
  obtain ⟨i0, ho0, hl0⟩ := h0
  refine wp_loop_ghost (fun n a w => ∃ i μ, m i = n ∧ ok i ∧ SR base O0 I nt (S i) μ a w) (m i0) ⟨i0, μ, rfl, ho0, R.le hl0⟩ ?_
  rintro n a w ⟨i, μ, rfl, ho, R⟩
  refine wp_mono (ev_sound hG hm hlp b _ (S i) μ a w hc R (hr i ho)) ?_
  intro e a w hq
  cases e with
  | normal =>
    obtain ⟨s', μ', R', j, h1, h2, h3⟩ := hq
    exact ⟨m j, h1, j, μ', rfl, h2, R'.le h3⟩
  | exit i => exact hq
  | goto i => exact hq
  | ret => exact hq
  | panic ch => exact hq.elim
  | outgrown => exact hq.elim

/-! ### a label, and jumps back to it -/
def gotoQ (l : Nat) (R : Act → World → Prop) (Q : Exit → Act → World → Prop) : Exit → Act → World → Prop
  | .goto l', a, w => l' = l ∧ R a w
  | e, a, w => Q e a w

theorem wp_scope_goto {c rest : Code} {l : Nat} (hf : findLabel c l = some rest) {Q : Exit → Act → World → Prop} {a : Act} {w : World} (I : Nat → Act → World → Prop)
    (h : c.wp P (gotoQ l (fun a w => ∃ n, I n a w) Q) a w) (round : ∀ n a w, I n a w → rest.wp P (gotoQ l (fun a w => ∃ n', n' < n ∧ I n' a w) Q) a w) : (Code.scope c).wp P Q a w := by
  intro b k cs
  have gi : gotoIn l (.inScope c :: k) = some (.code rest :: .inScope c :: k) := by simp [gotoIn, hf]
  have key : ∀ n a w, I n a w → ∃ e a' w', Q e a' w' ∧ Arrives P (lone (b.at a (.code rest :: .inScope c :: k)) cs w) b k cs e a' w' := by
    intro n
    induction n using Nat.strongRecOn with
    | _ n ih =>
      intro a w hI
      obtain ⟨e, a₁, w₁, hq, harr⟩ := round n a w hI b (.inScope c :: k) cs
      cases e with
      | normal => exact ⟨.normal, a₁, w₁, hq, Steps.trans harr (.one step_inScope)⟩
      | exit id => exact ⟨.exit id, a₁, w₁, hq, fun k' hk => harr k' (by simp [exitTo, hk])⟩
      | goto l' =>
        obtain ⟨rfl, n', hlt, hI'⟩ := hq
        obtain ⟨e₂, a₂, w₂, hq₂, harr₂⟩ := ih n' hlt a₁ w₁ hI'
        exact ⟨e₂, a₂, w₂, hq₂, .of_steps (harr _ gi) harr₂⟩
      | ret => exact ⟨_, a₁, w₁, hq, harr⟩
      | panic ch => exact ⟨_, a₁, w₁, hq, harr⟩
      | outgrown => exact ⟨_, a₁, w₁, hq, harr⟩
  obtain ⟨e, a₁, w₁, hq, harr⟩ := h b (.inScope c :: k) cs
  cases e with
  | normal => exact ⟨.normal, a₁, w₁, hq, .head step_scope (Steps.trans harr (.one step_inScope))⟩
  | exit id => exact ⟨.exit id, a₁, w₁, hq, fun k' hk => .head step_scope (harr k' (by simp [exitTo, hk]))⟩
  | goto l' =>
    obtain ⟨rfl, n, hI⟩ := hq
    obtain ⟨e₂, a₂, w₂, hq₂, harr₂⟩ := key n a₁ w₁ hI
    exact ⟨e₂, a₂, w₂, hq₂, .of_steps (.head step_scope (harr _ gi)) harr₂⟩
  | ret => exact ⟨_, a₁, w₁, hq, .of_steps (.one step_scope) harr⟩
  | panic ch => exact ⟨_, a₁, w₁, hq, .of_steps (.one step_scope) harr⟩
  | outgrown => exact ⟨_, a₁, w₁, hq, .of_steps (.one step_scope) harr⟩

theorem codeOK_find {nt l : Nat} : ∀ {c rest : Code}, codeOK nt c = true → findLabel c l = some rest → codeOK nt rest = true
  | .seq a b, rest, hc, hf => by
    simp only [codeOK, Bool.and_eq_true] at hc
    simp only [findLabel] at hf
    split at hf
    · rename_i r hr
      injection hf with hf
      subst hf
      simp only [codeOK, Bool.and_eq_true]
      exact ⟨codeOK_find hc.1 hr, hc.2⟩
    · exact codeOK_find hc.2 hf
  | .label l', rest, hc, hf => by
    simp only [findLabel] at hf
    split at hf
    · injection hf with hf; subst hf; rfl
    · cases hf
  | .skip, rest, hc, hf => by cases hf
  | .region _ _ _, rest, hc, hf => by cases hf
  | .cond _ _ _, rest, hc, hf => by cases hf
  | .block _ _, rest, hc, hf => by cases hf
  | .loop _, rest, hc, hf => by cases hf
  | .rangeFunc _ _ _ _, rest, hc, hf => by cases hf
  | .exit _, rest, hc, hf => by cases hf
  | .scope _, rest, hc, hf => by cases hf
  | .goto _, rest, hc, hf => by cases hf
  | .ret, rest, hc, hf => by cases hf
  | .refuse _, rest, hc, hf => by cases hf

theorem scope_real {ι : Type} (hG : GOK P G) (hm : P.follows .mixedOrders = true) {nt : Nat} {lp : Code → St → (Ex → St → Prop) → Prop} (hlp : ∀ b s K, codeOK nt b = true → lp b s K → lpR P nt b s K) {b rest : Code} (hc : codeOK nt b = true)
    {l : Nat} (hf : findLabel b l = some rest) {s : St} {K : Ex → St → Prop} (S : ι → St) (m : ι → Nat) (ok : ι → Prop)
    (h0 : ev (realE P) G lp b s (fun e s => match e with
      | .goto x => x = l ∧ ∃ i, ok i ∧ StLe s (S i)
      | .normal => K .normal s
      | .exit x => K (.exit x) s
      | .ret => K .ret s))
    (hr : ∀ i, ok i → ev (realE P) G lp rest (S i) (fun e s => match e with
      | .goto x => x = l ∧ ∃ j, m j < m i ∧ ok j ∧ StLe s (S j)
      | .normal => K .normal s
      | .exit x => K (.exit x) s
      | .ret => K .ret s)) : lpR P nt (.scope b) s K := by
  intro base O0 I μ a w R
  refine wp_scope_goto hf (fun n a w => ∃ i μ, m i = n ∧ ok i ∧ SR base O0 I nt (S i) μ a w) ?_ ?_
  · refine wp_mono (ev_sound hG hm hlp b _ s μ a w hc R h0) ?_
    intro e a w hq
    cases e with
    | normal => exact hq
    | exit i => exact hq
    | goto i =>
      obtain ⟨s', μ', R', h1, j, h2, h3⟩ := hq
      exact ⟨h1, m j, j, μ', rfl, h2, R'.le h3⟩
    | ret => exact hq
    | panic ch => exact hq.elim
    | outgrown => exact hq.elim
  · rintro n a w ⟨i, μ, rfl, ho, R⟩
    refine wp_mono (ev_sound hG hm hlp rest _ (S i) μ a w (codeOK_find hc hf) R (hr i ho)) ?_
    intro e a w hq
    cases e with
    | normal => exact hq
    | exit i => exact hq
    | goto i =>
      obtain ⟨s', μ', R', h1, j, h2, h3, h4⟩ := hq
      exact ⟨h1, m j, h2, j, μ', rfl, h3, R'.le h4⟩
    | ret => exact hq
    | panic ch => exact hq.elim
    | outgrown => exact hq.elim

end
end Go.Proofs.Ytaiillbjhdoikaa.Ev

/- Handing on: what is the call's own becomes what is only read. -/
namespace Go.Proofs.Ytaiillbjhdoikaa.Ev
open Go Go.RowKit
set_option linter.unusedVariables false
set_option linter.unusedSimpArgs false

/-- are the rows of this block fit to be handed on? -/
def clean1 (h : List Blk) : AV → Prop
  | .ms b _ _ _ => match getBlk h b with
    | .rows _ _ _ l => allB (allB AV.mf1) l = true
    | _ => True
  | _ => True
def cleanL (h : List Blk) : List AV → Prop
  | [] => True
  | x :: r => clean1 h x ∧ cleanL h r
def clean (h : List Blk) : AV → Prop
  | .agg cs => cleanL h cs
  | .fn _ cs => cleanL h cs
  | x => clean1 h x
def cleanA (h : List Blk) : List AV → Prop
  | [] => True
  | x :: r => clean h x ∧ cleanA h r

section
variable {P : Program} {G : Nat → TI} {base : Nat} {O0 : Nat → Prop} {μ : Nat → Nat} {hp : List Blk} {w w' : World}

/-- what freezing makes of the blocks -/
structure Frz (base : Nat) (O0 : Nat → Prop) (μ : Nat → Nat) (hp : List Blk) (w : World) (h' : List Blk) : Prop where
  hr : HR base O0 μ h' w
  ext : Ext (mkX base O0 μ hp w) (mkX base O0 μ h' w)
  rows : ∀ b, (∃ wr sz d l, getBlk h' b = .rows wr sz d l) → ∃ wr sz d l wr', getBlk h' b = .rows wr sz d l ∧ getBlk hp b = .rows wr' sz d l

theorem Frz.refl (H : HR base O0 μ hp w) : Frz base O0 μ hp w hp := ⟨H, Ext.refl _, fun b ⟨wr, sz, d, l, h⟩ => ⟨wr, sz, d, l, wr, h, h⟩⟩
theorem Frz.trans {h1 h2 : List Blk} (a : Frz base O0 μ hp w h1) (b : Frz base O0 μ h1 w h2) : Frz base O0 μ hp w h2 := by
  refine ⟨b.hr, a.ext.trans b.ext, fun c hc => ?_⟩
  obtain ⟨wr, sz, d, l, wr', e1, e2⟩ := b.rows c hc
  obtain ⟨wr2, sz2, d2, l2, wr3, e3, e4⟩ := a.rows c ⟨_, _, _, _, e2⟩
  rw [e2] at e3
  injection e3 with _ e5 e6 e7
  subst e5 e6 e7
  exact ⟨wr, sz, d, l, wr3, e1, e4⟩

theorem Frz.clean1 {h1 : List Blk} (a : Frz base O0 μ hp w h1) {x : AV} (h : clean1 hp x) : Ev.clean1 h1 x := by
  cases x <;> try trivial
  rename_i b sz row len
  dsimp only [Ev.clean1] at *
  split
  · rename_i wr sz d l hb
    obtain ⟨wr, sz, d, l, wr', e1, e2⟩ := a.rows b ⟨_, _, _, _, hb⟩
    rw [hb] at e1
    injection e1 with _ _ _ e1
    subst e1
    rw [e2] at h
    exact h
  · trivial
theorem Frz.cleanL {h1 : List Blk} (a : Frz base O0 μ hp w h1) {l : List AV} (h : cleanL hp l) : Ev.cleanL h1 l := by
  induction l with
  | nil => trivial
  | cons x r ih => exact ⟨a.clean1 h.1, ih h.2⟩
theorem Frz.clean {h1 : List Blk} (a : Frz base O0 μ hp w h1) {x : AV} (h : clean hp x) : Ev.clean h1 x := by
  cases x <;> simp only [Ev.clean] at h ⊢ <;> first | exact a.cleanL h | exact a.clean1 h

theorem turn_frz (H : HR base O0 μ hp w) {b : Nat} {x : Blk} {y : Blk} (hb : hp[b]? = some y) (hx : x.wr = false) (hd : x.dim = y.dim) (hn : x.need = y.need) (hrow : ∀ wr sz d l, x = .rows wr sz d l → ∃ wr', y = .rows wr' sz d l)
    (hB : BlkR (mkX base O0 μ hp w) (μ b) y → BlkR (mkX base O0 μ (hp.set b x) w) (μ b) y → BlkR (mkX base O0 μ (hp.set b x) w) (μ b) x) :
    Frz base O0 μ hp w (hp.set b x) := by
  have hb0 : b < hp.length := (List.getElem?_eq_some_iff.1 hb).1
  have hdim : x.dim = dimB hp b := by rw [hd]; simp [dimB, hb]
  have e := Ext.turn H (b := b) (x := x) (.inr rfl) (fun h => by rw [hx] at h; cases h) (.inr hdim) rfl (fun _ _ => rfl) (fun _ h => h)
  have hblk := H.blk b y hb
  refine ⟨HR.turn H hb0 (.inr rfl) (fun h => by rw [hx] at h; cases h) (.inr hdim) rfl (fun _ _ => rfl) (fun _ h => h) (hB hblk (hblk.mono e rfl)) (.inr ⟨_, hb, hn⟩), e, fun c hc => ?_⟩
  obtain ⟨wr, sz, d, l, hc⟩ := hc
  have hc' := hc
  rw [getBlk_eq, List.getElem?_set] at hc
  split at hc
  · rename_i he
    subst he
    simp only [hb0, if_true, Option.getD_some] at hc
    obtain ⟨wr', hy⟩ := hrow wr sz d l hc
    exact ⟨wr, sz, d, l, wr', hc', by rw [getBlk_eq, hb]; exact hy⟩
  · exact ⟨wr, sz, d, l, wr, hc', by rw [getBlk_eq]; exact hc⟩

theorem okO_frozen (H : HR base O0 μ hp w) {b : Nat} {x y : Blk} (hb : hp[b]? = some y) (hy : y.dim ≠ none) (hx : x.wr = false) : okO base O0 μ (hp.set b x) w (μ b) := by
  have hb0 : b < hp.length := (List.getElem?_eq_some_iff.1 hb).1
  have hdim : dimB hp b ≠ none := by simpa [dimB, hb] using hy
  refine .inr ⟨H.low b hdim, H.lt hdim, fun b' hb' e => ?_⟩
  have hwr : wrB hp b' = true ∧ b' ≠ b := by
    unfold wrB at hb' ⊢
    rw [List.getElem?_set] at hb'
    split at hb'
    · rename_i he
      simp [hx] at hb'
    · exact ⟨hb', fun h => absurd h.symm (by assumption)⟩
  exact hwr.2 (H.inj b' b hwr.1 hdim e)

theorem frz1_sound (H : HR base O0 μ hp w) {v : AV} {val : Value} (hv : LeafR (mkX base O0 μ hp w) v val) (hc : clean1 hp v) {y : AV} {h' : List Blk} (h : frz1 (realE P) hp v = some (y, h')) :
    Frz base O0 μ hp w h' ∧ RoV (okO base O0 μ h' w) w y val := by
  have plain : v.mf1 = true → y = v ∧ h' = hp → Frz base O0 μ hp w h' ∧ RoV (okO base O0 μ h' w) w y val := by
    rintro hm ⟨rfl, rfl⟩
    exact ⟨.refl H, ro_of_leaf hv hm⟩
  cases v <;> simp only [frz1, Option.some.injEq, Prod.mk.injEq, reduceCtorEq] at h
  case ms b sz row len =>
    obtain ⟨hb, h0, h1, A, cap, rfl, hle, hA, hd⟩ := (show LeafR _ (.ms b sz row len) val from hv)
    split at h
    · rename_i wr k l hblk
      have hb' := getBlk_some hblk (by simp)
      injection h with h
      injection h with e1 e2
      rw [setBlk_eq] at e2
      have hdim : dimB hp b = some (l.length, 1) := by simp [dimB, hb', Blk.dim]
      obtain ⟨q1, q2, e', mm, q3, q4⟩ := hd _ _ hdim
      subst q2 e2
      refine ⟨turn_frz H hb' rfl rfl rfl (fun _ _ _ _ h => by cases h) (fun _ h => h), ?_⟩
      have hy : y = .sli k ((l.drop row.val.toNat).take len.val.toNat) := by
        rw [← e1]
        cases row with
        | l i => cases i with
          | ofNat n => cases n <;> rfl
          | negSucc n => rfl
        | s i => rfl
      rw [hy]
      have hlen : ((l.drop row.val.toNat).take len.val.toNat).length = len.val.toNat := by simp; omega
      by_cases hz : len.val.toNat = 0
      · rw [hz]
        simp only [List.take_zero]
        exact .sliN _ _ _
      · obtain ⟨ca, e, hcell, hh⟩ := H.blk b _ hb'
        have hcellw : w.heap[μ b]? = some (.cells ca e (0, 0)) := hcell
        rw [hA (by omega), Nat.mul_one]
        have := RoV.sli (O := okO base O0 μ (hp.set b (.ints false k l)) w) (w := w) k ((l.drop row.val.toNat).take len.val.toNat) ⟨μ b, row.val.toNat, none⟩ cap rfl
          (okO_frozen H hb' (by simp [Blk.dim]) rfl) (by rw [hlen]; exact hle) (fun i n hi => by
            rw [List.getElem?_take] at hi
            split at hi
            · rw [List.getElem?_drop] at hi
              simp only [World.cell?, hcellw]
              exact hh _ n hi
            · cases hi)
        rw [hlen] at this
        exact this
    · rename_i wr bsz d l hblk
      have hb' := getBlk_some hblk (by simp)
      injection h with h
      injection h with e1 e2
      rw [setBlk_eq] at e2
      have hdim : dimB hp b = some (l.length, bsz) := by simp [dimB, hb', Blk.dim]
      obtain ⟨q1, q2, e', mm, q3, q4⟩ := hd _ _ hdim
      subst q2 e2 e1
      have F : Frz base O0 μ hp w (hp.set b (.rows false bsz d l)) := turn_frz H hb' rfl rfl rfl (fun _ _ _ _ h => by injection h with _ e1 e2 e3; subst e1 e2 e3; exact ⟨wr, rfl⟩) (fun _ h => h)
      refine ⟨F, ?_⟩
      by_cases hz : len.val.toNat = 0
      · have : len.val = 0 := by omega
        rw [hz]
        exact .slcN _ _ _ _ _ this
      · obtain ⟨hdl, ca, e, hcell, hh⟩ := H.blk b _ hb'
        have hcellw : w.heap[μ b]? = some (.cells ca e (0, 0)) := hcell
        have hcl : allB (allB AV.mf1) l = true := by
          dsimp only [Ev.clean1] at hc
          rw [hblk] at hc
          exact hc
        rw [allB_eq, List.all_eq_true] at hcl
        rw [hA (by omega)]
        have hget : ∀ i, i < len.val.toNat → ∃ r, l[row.val.toNat + i]? = some r ∧ (realE P).rfun l row.val d i = r := by
          intro i hi
          have hlt : row.val.toNat + i < l.length := by omega
          exact ⟨l[row.val.toNat + i], List.getElem?_eq_getElem hlt, by simp [realE, List.getD, List.getElem?_eq_getElem hlt]⟩
        refine RoV.slc bsz len _ ⟨μ b, row.val.toNat * bsz, none⟩ cap (fun i j => ca.getD ((row.val.toNat + i) * bsz + j) undef) rfl
          (okO_frozen H hb' (by simp [Blk.dim]) rfl) h1 hle (fun i hi => ?_) (fun i j c hi hj => ?_) (fun i j c hi hj => ?_)
        · obtain ⟨r, e1, e2⟩ := hget i hi
          rw [e2]; exact (hh _ r e1).1
        · obtain ⟨r, e1, e2⟩ := hget i hi
          rw [e2] at hj
          obtain ⟨y, e3, e4⟩ := (hh _ r e1).2 j c hj
          simp only [World.cell?, hcellw]
          rw [show row.val.toNat * bsz + (i * bsz + j) = (row.val.toNat + i) * bsz + j by rw [Nat.add_mul]; omega, e3, Array.getD_eq_getD_getElem?, e3]
          rfl
        · obtain ⟨r, e1, e2⟩ := hget i hi
          rw [e2] at hj
          obtain ⟨y, e3, e4⟩ := (hh _ r e1).2 j c hj
          have hm := hcl r (List.mem_of_getElem? e1)
          rw [allB_eq, List.all_eq_true] at hm
          have := ro_of_leaf e4 (hm c (List.mem_of_getElem? hj))
          rw [Array.getD_eq_getD_getElem?, e3]
          exact this.mono F.ext.o F.ext.cell
    · cases h
  case lit x => exact plain rfl ⟨h.1.symm, h.2.symm⟩
  case int k n => exact plain rfl ⟨h.1.symm, h.2.symm⟩
  case bool b => exact plain rfl ⟨h.1.symm, h.2.symm⟩
  case str s => exact plain rfl ⟨h.1.symm, h.2.symm⟩
  case sli k l => exact plain rfl ⟨h.1.symm, h.2.symm⟩
  case slc sz n f => exact plain rfl ⟨h.1.symm, h.2.symm⟩
  case s0 => exact plain rfl ⟨h.1.symm, h.2.symm⟩
  case rp cs => exact plain rfl ⟨h.1.symm, h.2.symm⟩
  case fn f cs =>
    obtain ⟨rfl, rfl⟩ := h
    exact ⟨.refl H, hv⟩

theorem frzL_sound : ∀ (l : List AV) (hp : List Blk) (Y : Nat → Value), HR base O0 μ hp w → (∀ (j : Nat) (c : AV), l[j]? = some c → LeafR (mkX base O0 μ hp w) c (Y j)) → cleanL hp l →
    ∀ {ys : List AV} {h' : List Blk}, frzL (realE P) hp l = some (ys, h') → Frz base O0 μ hp w h' ∧ ys.length = l.length ∧ ∀ (j : Nat) (c : AV), ys[j]? = some c → RoV (okO base O0 μ h' w) w c (Y j)
  | [], hp, Y, H, _, _, ys, h', h => by
    simp only [frzL, Option.some.injEq, Prod.mk.injEq] at h
    obtain ⟨rfl, rfl⟩ := h
    exact ⟨.refl H, rfl, fun j c hj => by simp at hj⟩
  | x :: r, hp, Y, H, hv, hc, ys, h', h => by
    simp only [frzL] at h
    split at h
    · rename_i y h1 he
      split at h
      · rename_i ys' h2 he2
        simp only [Option.some.injEq, Prod.mk.injEq] at h
        obtain ⟨rfl, rfl⟩ := h
        obtain ⟨F1, q1⟩ := frz1_sound H (hv 0 x rfl) hc.1 he
        obtain ⟨F2, q2, q3⟩ := frzL_sound r h1 (fun j => Y (j + 1)) F1.hr (fun j c hj => (hv (j + 1) c (by simpa using hj)).mono F1.ext) (F1.cleanL hc.2) he2
        refine ⟨F1.trans F2, by simp [q2], fun j c hj => ?_⟩
        cases j with
        | zero => simp at hj; subst hj; exact q1.mono F2.ext.o F2.ext.cell
        | succ j => exact q3 j c (by simpa using hj)
      · cases h
    · cases h

theorem frz_sound (H : HR base O0 μ hp w) {v : AV} {val : Value} (hv : AggR (mkX base O0 μ hp w) v val) (hc : clean hp v) {y : AV} {h' : List Blk} (h : frz (realE P) hp v = some (y, h')) :
    Frz base O0 μ hp w h' ∧ RoV (okO base O0 μ h' w) w y val := by
  have key : (∀ cs, v ≠ .agg cs) → (∀ f cs, v ≠ .fn f cs) → Frz base O0 μ hp w h' ∧ RoV (okO base O0 μ h' w) w y val := by
    intro n1 n2
    have hv' : LeafR (mkX base O0 μ hp w) v val := by
      unfold AggR at hv
      split at hv
      · exact absurd rfl (n1 _)
      · exact absurd rfl (n2 _ _)
      · exact hv
    have hc' : Ev.clean1 hp v := by
      unfold Ev.clean at hc
      split at hc
      · exact absurd rfl (n1 _)
      · exact absurd rfl (n2 _ _)
      · exact hc
    have h'' : frz1 (realE P) hp v = some (y, h') := by
      unfold frz at h
      split at h
      · exact absurd rfl (n1 _)
      · exact absurd rfl (n2 _ _)
      · exact h
    exact frz1_sound H hv' hc' h''
  cases v
  case agg cs =>
    simp only [frz] at h
    split at h
    · rename_i ys h1 he
      simp only [Option.some.injEq, Prod.mk.injEq] at h
      obtain ⟨rfl, rfl⟩ := h
      obtain ⟨zs, rfl, hl, hh⟩ := hv
      obtain ⟨F, q1, q2⟩ := frzL_sound cs hp (fun j => zs.getD j undef) H hh hc he
      exact ⟨F, .agg _ _ (by omega) q2⟩
    · cases h
  case fn f cs =>
    simp only [frz] at h
    split at h
    · rename_i ys h1 he
      simp only [Option.some.injEq, Prod.mk.injEq] at h
      obtain ⟨rfl, rfl⟩ := h
      obtain ⟨zs, rfl, hl, hh⟩ := hv
      obtain ⟨F, q1, q2⟩ := frzL_sound cs hp (fun j => zs.getD j undef) H hh hc he
      exact ⟨F, .fn _ _ _ (by omega) q2⟩
    · cases h
  all_goals exact key (by simp) (by simp)

theorem frzA_sound : ∀ (l : List AV) (hp : List Blk) (Y : Nat → Value), HR base O0 μ hp w → (∀ (j : Nat) (c : AV), l[j]? = some c → AggR (mkX base O0 μ hp w) c (Y j)) → cleanA hp l →
    ∀ {ys : List AV} {h' : List Blk}, frzA (realE P) hp l = some (ys, h') → Frz base O0 μ hp w h' ∧ ys.length = l.length ∧ ∀ (j : Nat) (c : AV), ys[j]? = some c → RoV (okO base O0 μ h' w) w c (Y j)
  | [], hp, Y, H, _, _, ys, h', h => by
    simp only [frzA, Option.some.injEq, Prod.mk.injEq] at h
    obtain ⟨rfl, rfl⟩ := h
    exact ⟨.refl H, rfl, fun j c hj => by simp at hj⟩
  | x :: r, hp, Y, H, hv, hc, ys, h', h => by
    simp only [frzA] at h
    split at h
    · rename_i y h1 he
      split at h
      · rename_i ys' h2 he2
        simp only [Option.some.injEq, Prod.mk.injEq] at h
        obtain ⟨rfl, rfl⟩ := h
        obtain ⟨F1, q1⟩ := frz_sound H (hv 0 x rfl) hc.1 he
        have hc2 : cleanA h1 r := by
          have := hc.2
          clear he2 hv hc
          induction r with
          | nil => trivial
          | cons x r ih => exact ⟨F1.clean this.1, ih this.2⟩
        obtain ⟨F2, q2, q3⟩ := frzA_sound r h1 (fun j => Y (j + 1)) F1.hr (fun j c hj => (hv (j + 1) c (by simpa using hj)).mono F1.ext) hc2 he2
        refine ⟨F1.trans F2, by simp [q2], fun j c hj => ?_⟩
        cases j with
        | zero => simp at hj; subst hj; exact q1.mono F2.ext.o F2.ext.cell
        | succ j => exact q3 j c (by simpa using hj)
      · cases h
    · cases h
end
end Go.Proofs.Ytaiillbjhdoikaa.Ev

/- Functions: contracts out of the evaluator's run. -/
namespace Go.Proofs.Ytaiillbjhdoikaa.Ev
open Go Go.RowKit
set_option linter.unusedVariables false
set_option linter.unusedSimpArgs false

/-! ### less is told -/
def sleL (p : AV → AV → Prop) : List AV → List AV → Prop
  | [], [] => True
  | x :: r, y :: s => p x y ∧ sleL p r s
  | _, _ => False
def sle0 : AV → AV → Prop
  | .int k a, .int k' b => k = k' ∧ a.val = b.val
  | .bool a, .bool b => a.val = b.val
  | .sli k l, .sli k' l' => k = k' ∧ l = l'
  | .s0, .sli k l => l = []
  | .s0, .slc sz n f => n.val = 0
  | .str a, .str b => a = b
  | .slc sz n f, .sli k l => n.val = 0 ∧ l = []
  | _, .un => True
  | x, y => x = y
def sle1 : AV → AV → Prop
  | .slc sz n f, .slc sz' n' f' => sz = sz' ∧ n.val = n'.val ∧ ∀ i, i < n.val.toNat → sleL sle0 (f i) (f' i)
  | x, y => sle0 x y
def sle2 : AV → AV → Prop
  | .agg cs, .agg cs' => sleL sle1 cs cs'
  | x, y => sle1 x y
def sle : AV → AV → Prop
  | .tup cs, .tup cs' => sleL sle2 cs cs'
  | x, y => sle2 x y

def RoLe (x y : AV) : Prop := ∀ (O : Nat → Prop) (w : World) (v : Value), RoV O w x v → RoV O w y v

theorem sleL_spec {p : AV → AV → Prop} : ∀ {l m : List AV}, sleL p l m → l.length = m.length ∧ ∀ (j : Nat) (c : AV), m[j]? = some c → ∃ d, l[j]? = some d ∧ p d c
  | [], [], _ => ⟨rfl, fun j c hj => by simp at hj⟩
  | x :: r, y :: s, h => by
    obtain ⟨h1, h2⟩ := sleL_spec h.2
    refine ⟨by simp [h1], fun j c hj => ?_⟩
    cases j with
    | zero => simp at hj; subst hj; exact ⟨x, rfl, h.1⟩
    | succ j => simpa using h2 j c (by simpa using hj)
  | [], _ :: _, h => h.elim
  | _ :: _, [], h => h.elim

theorem sle0_sound {x y : AV} (h : sle0 x y) : RoLe x y := by
  intro O w v hv
  unfold sle0 at h
  split at h
  · obtain ⟨rfl, h⟩ := h
    cases hv with
    | int _ _ n hn => exact .int _ _ _ (h ▸ hn)
  · cases hv with
    | bool _ b hb => exact .bool _ _ (h ▸ hb)
  · obtain ⟨rfl, rfl⟩ := h; exact hv
  · subst h; cases hv with
    | s0 => exact .sliN _ none 0
  · cases hv with
    | s0 => exact .slcN _ _ _ none 0 h
  · subst h; exact hv
  · obtain ⟨h, rfl⟩ := h
    cases hv with
    | slc _ _ _ a cap Y hs ho h0 hp hl hc hr =>
      rw [h]
      exact .sliN _ _ _
    | slcN _ _ _ A cap h => exact .sliN _ _ _
  · exact .un _
  · subst h; exact hv

theorem sle1_sound {x y : AV} (h : sle1 x y) : RoLe x y := by
  unfold sle1 at h
  split at h
  · rename_i sz n f sz' n' f'
    obtain ⟨rfl, h1, h2⟩ := h
    intro O w v hv
    cases hv with
    | slc _ _ _ a cap Y hs ho h0 hp hl hc hr =>
      rw [h1]
      refine .slc _ n' f' a cap Y hs ho (by omega) (by omega) (fun i hi => ?_) (fun i j c hi hj => ?_) (fun i j c hi hj => ?_)
      · rw [← (sleL_spec (h2 i (by omega))).1]; exact hl i (by omega)
      · obtain ⟨d, hd, _⟩ := (sleL_spec (h2 i (by omega))).2 j c hj
        exact hc i j d (by omega) hd
      · obtain ⟨d, hd, hs⟩ := (sleL_spec (h2 i (by omega))).2 j c hj
        exact sle0_sound hs _ _ _ (hr i j d (by omega) hd)
    | slcN _ _ _ A cap h => exact .slcN _ _ _ _ _ (by omega)
  · exact sle0_sound h

theorem sle2_sound {x y : AV} (h : sle2 x y) : RoLe x y := by
  unfold sle2 at h
  split at h
  · intro O w v hv
    obtain ⟨h1, h2⟩ := sleL_spec h
    cases hv with
    | agg _ ys hl hh =>
      refine .agg _ _ (by omega) (fun j c hj => ?_)
      obtain ⟨d, hd, hs⟩ := h2 j c hj
      exact sle1_sound hs _ _ _ (hh j d hd)
  · exact sle1_sound h

theorem sle_sound {x y : AV} (h : sle x y) : RoLe x y := by
  unfold sle at h
  split at h
  · intro O w v hv
    obtain ⟨h1, h2⟩ := sleL_spec h
    cases hv with
    | tup _ ys hl hh =>
      refine .tup _ _ (by omega) (fun j c hj => ?_)
      obtain ⟨d, hd, hs⟩ := h2 j c hj
      exact sle2_sound hs _ _ _ (hh j d hd)
  · exact sle2_sound h

/-! ### functions -/
/-- What is asked of a function's text. -/
def fnOK (fn : Func) (n : Nat) : Bool :=
  !(fn.name == "runtime.NumGoroutine") && Nat.ble n fn.ntmps && match fn.body with
    | some c => codeOK fn.ntmps c
    | none => false

/-- The end of a call: what it gives, handed on. -/
def finish (E : Env) (h : List Blk) (v : AV) (K : AV → Prop) : Prop :=
  match v with
  | .tup vs => cleanA h vs ∧ match frzA E h vs with
    | some (ys, _) => K (.tup ys)
    | none => False
  | v => clean h v ∧ match frz E h v with
    | some (y, _) => K y
    | none => False

section
variable {P : Program} {G : Nat → TI} {base : Nat} {O0 : Nat → Prop} {μ : Nat → Nat} {hp : List Blk} {w w' : World}

theorem params_look : ∀ (n : Nat) (l : List AV) (t : Nat), lookT (params n l) t = if n ≤ t then (l[t - n]?).getD .un else .un
  | n, [], t => by simp [params, lookT]
  | n, a :: r, t => by
    simp only [params, lookT]
    cases hb : Nat.beq n t with
    | true =>
      have := Nat.eq_of_beq_eq_true hb
      subst this
      simp
    | false =>
      have hne : n ≠ t := by intro e; rw [e, Nat.beq_refl] at hb; cases hb
      rw [cond_false, params_look (n + 1) r t]
      by_cases h1 : n + 1 ≤ t
      · rw [if_pos h1, if_pos (by omega), show t - n = (t - (n + 1)) + 1 by omega]
        simp
      · rw [if_neg h1]
        rw [if_neg (by omega)]

/-- one result -/
def resOne (tmps : Array Value) : ResultVar → Sem Value
  | .tmp t => pure (tmps.getD t undef)
  | .cell a t => do loadVar t (← asAddr (tmps.getD a undef))

theorem evRes_sound (hG : GOK P G) (H : HR base O0 μ hp w) {tt : List (Nat × AV)} {a : Act} (hT : TR (mkX base O0 μ hp w) tt a) : ∀ (l : List ResultVar) (K : List AV → Prop), evRes (realE P) G ⟨tt, hp⟩ l K →
    ∃ vs ys, K vs ∧ (l.mapM (resOne a.tmps)).run P w = .ok ys w ∧ vs.length = ys.length ∧ ∀ (j : Nat) (c : AV), vs[j]? = some c → RelV (mkX base O0 μ hp w) c (ys.getD j undef)
  | [], K, h => ⟨[], [], h, rfl, rfl, fun j c hj => by simp at hj⟩
  | .tmp t :: r, K, h => by
    obtain ⟨vs, ys, h1, h2, h3, h4⟩ := evRes_sound hG H hT r _ h
    refine ⟨_, a.tmps.getD t undef :: ys, h1, ?_, by simp [h3], fun j c hj => ?_⟩
    · simp only [List.mapM_cons, resOne, Sem.run_bind, Sem.run_pure, Result.andThen_ok, h2]
    · cases j with
      | zero => simp at hj; subst hj; exact hT t
      | succ j => simpa using h4 j c (by simpa using hj)
  | .cell p t :: r, K, h => by
    simp only [evRes] at h
    obtain ⟨v, hv, val, hrun, hrel⟩ := load_sound hG H (hT p) h
    obtain ⟨vs, ys, h1, h2, h3, h4⟩ := evRes_sound hG H hT r _ hv
    refine ⟨_, val :: ys, h1, ?_, by simp [h3], fun j c hj => ?_⟩
    · have : (resOne a.tmps (.cell p t)).run P w = .ok val w := by
        simp only [Instr.loadAt, Sem.run_bind] at hrun
        simp only [resOne, Sem.run_bind]
        generalize a.tmps.getD p undef = pv at hrun ⊢
        cases pv with
        | pointer o => cases o with
          | some ad => exact hrun
          | none => cases hrun
        | _ => cases hrun
      simp only [List.mapM_cons, Sem.run_bind, this, Sem.run_pure, Result.andThen_ok, h2]
    · cases j with
      | zero => simp at hj; subst hj; exact hrel
      | succ j => simpa using h4 j c (by simpa using hj)

theorem evF_sound (hG : GOK P G) (hm : P.follows .mixedOrders = true) {f : FuncId} {fn : Func} (hf : P.funcs[f]? = some fn) {args : List AV} (ho : fnOK fn args.length = true)
    {lp : Code → St → (Ex → St → Prop) → Prop} (hlp : ∀ b s K, codeOK fn.ntmps b = true → lp b s K → lpR P fn.ntmps b s K) {h : List Blk} {K : AV → List Blk → Prop}
    (hv : evF (realE P) G lp fn args h K) : CallsH P f args h K := by
  unfold fnOK at ho
  simp only [Bool.and_eq_true, Bool.not_eq_true'] at ho
  obtain ⟨⟨hname, hn⟩, hc⟩ := ho
  have hn' := Nat.le_of_ble_eq_true hn
  unfold evF at hv
  cases hb : fn.body with
  | none => rw [hb] at hc; cases hc
  | some c =>
    rw [hb] at hc hv
    dsimp only at hc hv
    refine fun base O0 μ w vals H hl hr => .inl ⟨⟨fn, hf, hname, by rw [hb]; rfl⟩, ?_⟩
    let I : X := mkX base O0 μ h w
    have R : SR base O0 I fn.ntmps ⟨params 0 args, h⟩ μ { tmps := vals ++ Array.replicate (fn.ntmps - vals.size) undef, defers := [] } w := by
      refine ⟨by simp; omega, rfl, H, fun t => ?_, Ext.refl _, Below.refl _ _⟩
      rw [params_look, if_pos (Nat.zero_le t), Nat.sub_zero]
      by_cases ht : t < args.length
      · rw [List.getElem?_eq_getElem ht]
        have := hr t args[t] (List.getElem?_eq_getElem ht)
        simp only [Option.getD_some]
        rw [getD_append, if_pos (by omega)]
        exact this
      · rw [List.getElem?_eq_none (by omega)]
        exact RoV.un _
    have hwp := ev_sound hG hm hlp c _ _ _ _ _ hc R hv
    refine calls_of_wp hf hb (wp_mono hwp ?_)
    have fin : ∀ s μ' a w', SR base O0 I fn.ntmps s μ' a w' → evRes (realE P) G s fn.results.toList (retOf K s.h) →
        a.defers = [] ∧ ∃ v, (results fn a.tmps).run P w' = .ok v w' ∧ ∃ val r h' μ', Ending.returned v = .returned val ∧ K r h' ∧ RelV (mkX base O0 μ' h' w') r val ∧ HR base O0 μ' h' w' ∧
          Ext (mkX base O0 μ h w) (mkX base O0 μ' h' w') ∧ Below base w w' := by
      intro s μ' a w' R' hres
      refine ⟨R'.defers, ?_⟩
      obtain ⟨vs, ys, h1, h2, h3, h4⟩ := evRes_sound hG R'.hr R'.tmps fn.results.toList _ hres
      have hrun : (results fn a.tmps).run P w' = .ok (if h : ys.toArray.size = 1 then ys.toArray[0] else .tuple ys.toArray) w' := by
        have e : results fn a.tmps = (do
            let vs ← (List.toArray <$> fn.results.toList.mapM (resOne a.tmps) : Sem (Array Value))
            pure (if h : vs.size = 1 then vs[0] else .tuple vs)) := by
          unfold results
          rw [← Array.mapM_eq_mapM_toList]
          congr 2
        rw [e]
        simp only [Sem.run_bind, map_eq_pure_bind, h2, Sem.run_pure, Result.andThen_ok]
      refine ⟨_, hrun, (if h : ys.toArray.size = 1 then ys.toArray[0] else .tuple ys.toArray), ?_⟩
      have tup : retOf K s.h vs = (bif allB AV.noTup vs then K (.tup vs) s.h else False) → ∃ r h' μ', Ending.returned (.tuple ys.toArray) = .returned (.tuple ys.toArray) ∧ K r h' ∧ RelV (mkX base O0 μ' h' w') r (.tuple ys.toArray) ∧ HR base O0 μ' h' w' ∧
          Ext (mkX base O0 μ h w) (mkX base O0 μ' h' w') ∧ Below base w w' := by
        intro e1
        rw [e1] at h1
        cases hall : allB AV.noTup vs with
        | false => rw [hall] at h1; exact h1.elim
        | true =>
          rw [hall, cond_true] at h1
          refine ⟨.tup vs, s.h, μ', rfl, h1, ⟨ys.toArray, rfl, by simpa using h3, fun j c hj => ?_⟩, R'.hr, R'.ext, R'.below⟩
          have hr := h4 j c hj
          rw [allB_eq, List.all_eq_true] at hall
          have hnt := hall c (List.mem_of_getElem? hj)
          have e2 : ys.toArray.getD j undef = ys.getD j undef := by simp [Array.getD_eq_getD_getElem?, List.getD]
          rw [e2]
          cases c <;> first | exact hr | (exact absurd hnt (by simp [AV.noTup]))
      match vs, ys, h3, h4, h1, tup with
      | [v], [y], _, h4, h1, _ => exact ⟨v, s.h, μ', rfl, h1, by simpa using h4 0 v rfl, R'.hr, R'.ext, R'.below⟩
      | [], [], _, h4, h1, tup => exact tup rfl
      | v :: v' :: vs, y :: y' :: ys, h3, h4, h1, tup =>
        have : ¬ (y :: y' :: ys).toArray.size = 1 := by simp
        rw [dif_neg this]
        exact tup rfl
    intro e a w' hq
    cases e with
    | normal => obtain ⟨s, μ', R', h'⟩ := hq; exact fin s μ' a w' R' h'
    | ret => obtain ⟨s, μ', R', h'⟩ := hq; exact fin s μ' a w' R' h'
    | exit i => obtain ⟨s, μ', R', h'⟩ := hq; exact h'.elim
    | goto i => obtain ⟨s, μ', R', h'⟩ := hq; exact h'.elim
    | panic ch => exact hq.elim
    | outgrown => exact hq.elim
end
end Go.Proofs.Ytaiillbjhdoikaa.Ev

/- What a proof uses: a function's contract, calls, loops. -/
namespace Go.Proofs.Ytaiillbjhdoikaa.Ev
open Go Go.RowKit
set_option linter.unusedVariables false
set_option linter.unusedSimpArgs false

section
variable {P : Program} {G : Nat → TI} {base : Nat} {O0 : Nat → Prop} {μ : Nat → Nat} {hp : List Blk} {w w' : World}

theorem frz_notup {E : Env} {hp : List Blk} {v : AV} {r : AV × List Blk} (h : frz E hp v = some r) : ∀ vs, v ≠ .tup vs := by
  rintro vs rfl
  simp [frz, frz1] at h

theorem frzA_notup {E : Env} : ∀ {l : List AV} {hp : List Blk} {r : List AV × List Blk}, frzA E hp l = some r → ∀ c ∈ l, ∀ vs, c ≠ .tup vs
  | [], _, _, _, c, hc, _ => by cases hc
  | x :: l, hp, r, h, c, hc, vs => by
    simp only [frzA] at h
    split at h
    · rename_i y h1 he
      split at h
      · rename_i he2
        rcases List.mem_cons.1 hc with rfl | hc
        · exact frz_notup he vs
        · exact frzA_notup he2 c hc vs
      · cases h
    · cases h

theorem aggR_of_rel {x : X} {c : AV} {v : Value} (h : RelV x c v) (hn : ∀ vs, c ≠ .tup vs) : AggR x c v := by
  unfold RelV at h
  split at h
  · exact absurd rfl (hn _)
  · exact h

/-- THE CALL: of a function of which the contract is known. -/
theorem call_real {f : FuncId} {args cargs : List AV} {r : AV} (hC : CallsA P f cargs r) {ys : List AV} {h h' : List Blk} (hf : frzA (realE P) h args = some (ys, h')) (hc : cleanA h args)
    (hle : sleL sle2 ys cargs) {K : AV → List Blk → Prop} (hK : K r h') : CallsH P f args h K := by
  refine fun base O0 μ w vals H hl hr => ?_
  obtain ⟨F, q1, q2⟩ := frzA_sound args h (fun j => vals.getD j undef) H (fun j c hj => aggR_of_rel (hr j c hj) (frzA_notup hf c (List.mem_of_getElem? hj))) hc hf
  obtain ⟨e1, e2⟩ := sleL_spec hle
  refine (hC (okO base O0 μ h' w) w vals (fun n hn => okO_lt H.all hn) F.hr.glob (by omega) (fun j c hj => ?_)).mono ?_
  · obtain ⟨d, hd, hs⟩ := e2 j c hj
    exact sle2_sound hs _ _ _ (q2 j d hd)
  · rintro e w' ⟨val, rfl, hv, hb⟩
    exact ⟨val, r, h', μ, rfl, hK, relV_of_ro (hv.mono (sub_okO F.hr hb) (fun _ _ _ h => h)), F.hr.grow hb, F.ext.trans (Ext.grow H.all hb), hb.mono H.all⟩

/-- THE CONTRACT: out of the run. -/
theorem callsA_real {f : FuncId} {args : List AV} {r : AV} (h : CallsH P f args [] (fun v h => finish (realE P) h v (fun y => sle y r))) : CallsA P f args r := by
  refine fun O w vals hO hg hl hr => ?_
  have H : HR w.heap.size O (fun _ => 0) [] w := ⟨Nat.le_refl _, fun b x hb => by simp at hb, fun b hb => by simp [dimB, Blk.dim] at hb, fun b b' hb => by simp [wrB, Blk.wr] at hb, fun b x hb => by simp at hb, hg.mono (fun n hn => ⟨hO n hn, hn⟩) (fun _ _ _ h => h)⟩
  refine (h w.heap.size O (fun _ => 0) w vals H hl (fun j c hj => relV_of_ro ((hr j c hj).mono (fun n hn => .inl ⟨hO n hn, hn⟩) (fun _ _ _ h => h)))).mono ?_
  rintro e w' ⟨val, v, h', μ', rfl, hK, hv, hH, hX, hB⟩
  have okn : ∀ hq, ∀ n, okO w.heap.size O μ' hq w' n → newO O w w' n := by
    rintro hq n (⟨_, h1⟩ | ⟨h1, h2, _⟩)
    · exact .inl h1
    · exact .inr ⟨h1, h2⟩
  refine ⟨val, rfl, ?_, hB⟩
  unfold finish at hK
  split at hK
  · rename_i vs
    obtain ⟨hc, hK⟩ := hK
    split at hK
    · rename_i ys h2 hf
      obtain ⟨zs, rfl, hl2, hh⟩ := hv
      obtain ⟨F, q1, q2⟩ := frzA_sound vs h' (fun j => zs.getD j undef) hH hh hc hf
      refine sle_sound hK _ _ _ ?_
      exact (RoV.tup _ _ (by omega) q2).mono (okn _) (fun _ _ _ h => h)
    · exact hK.elim
  · rename_i hnt
    obtain ⟨hc, hK⟩ := hK
    split at hK
    · rename_i y h2 hf
      obtain ⟨F, q⟩ := frz_sound hH (aggR_of_rel hv (fun vs e => hnt vs e)) hc hf
      exact sle_sound hK _ _ _ (q.mono (okn _) (fun _ _ _ h => h))
    · exact hK.elim

/-- what a loop is, to the evaluator -/
def Loops (P : Program) (n : Nat) (lp : Code → St → (Ex → St → Prop) → Prop) : Prop := lp = fun b s K => codeOK n b = true → lpR P n b s K

/-- The evaluator's run is a contract. -/
theorem callsA_of (hG : GOK P G) (hm : P.follows .mixedOrders = true) {f : FuncId} {fn : Func} (hf : P.funcs[f]? = some fn) {args : List AV} (ho : fnOK fn args.length = true) {r : AV}
    (h : ∀ E, E = realE P → ∀ lp, Loops P fn.ntmps lp → evF E G lp fn args [] (fun v h => finish E h v (fun y => sle y r))) : CallsA P f args r :=
  callsA_real (evF_sound hG hm hf ho (lp := fun b s K => codeOK fn.ntmps b = true → lpR P fn.ntmps b s K) (fun b s K hc h => h hc) (h _ rfl _ rfl))

theorem Goes.calls {f : FuncId} {vals : Array Value} {w : World} {Q : Ending → World → Prop} (hf : FOK P f) (h : Goes P f vals w Q) : Calls P f vals w Q := by
  rcases h with ⟨_, h⟩ | ⟨val, h, _⟩
  · exact h
  · rw [run_callFunc hf] at h; cases h

theorem E_br {E : Env} (hE : E = realE P) {b : Bool} {t f : Unit → Prop} (h1 : b = true → t ()) (h2 : b = false → f ()) : E.br b t f := by
  subst hE; exact ⟨h1, h2⟩

theorem E_nm {E : Env} (hE : E = realE P) {n : Int} {K : Int → Prop} (h : ∀ v, v = n → K v) : E.nm n K := by
  subst hE; exact h n rfl

theorem E_call {E : Env} (hE : E = realE P) {f : FuncId} {args cargs : List AV} {r : AV} (hC : CallsA P f cargs r) {ys : List AV} {h h' : List Blk} {fz : Option (List AV × List Blk)} (hf : frzA E h args = some (ys, h')) (hc : cleanA h args)
    (hle : sleL sle2 ys cargs) {K : AV → List Blk → Prop} (hK : K r h') : E.call f args h fz K := by
  subst hE; exact call_real hC hf hc hle hK

theorem E_pcall {E : Env} (hE : E = realE P) {f : FuncId} {args : List AV} {r : AV} (hC : CallsA P f args r) (hm : allB AV.mf args = true) {K : AV → Prop} (hK : K r) : E.pcall f args K := by
  subst hE; exact ⟨r, hK, hm, hC⟩

/-- A call within the run: over the same memory. -/
theorem E_in {E : Env} (hE : E = realE P) (hG : GOK P G) (hm : P.follows .mixedOrders = true) {f : FuncId} {fn : Func} (hf : P.funcs[f]? = some fn) {args : List AV} (ho : fnOK fn args.length = true)
    {h : List Blk} {fz : Option (List AV × List Blk)} {K : AV → List Blk → Prop} (hv : ∀ lp, Loops P fn.ntmps lp → evF E G lp fn args h K) : E.call f args h fz K := by
  subst hE
  exact evF_sound hG hm hf ho (lp := fun b s K => codeOK fn.ntmps b = true → lpR P fn.ntmps b s K) (fun b s K hc h => h hc) (hv _ rfl)

/-- A LOOP. -/
theorem E_loop {ι : Type} {E : Env} (hE : E = realE P) (hG : GOK P G) (hm : P.follows .mixedOrders = true) {n : Nat} {lp : Code → St → (Ex → St → Prop) → Prop} (hlp : Loops P n lp) {b : Code} {s : St} {K : Ex → St → Prop}
    (S : ι → St) (m : ι → Nat) (ok : ι → Prop) (h0 : ∃ i, ok i ∧ StLe s (S i))
    (hr : ∀ i, ok i → ev E G lp b (S i) (fun e s => match e with
      | .normal => ∃ j, m j < m i ∧ ok j ∧ StLe s (S j)
      | .exit x => K (.exit x) s
      | .goto x => K (.goto x) s
      | .ret => K .ret s)) : lp (.loop b) s K := by
  subst hE
  subst hlp
  intro hc
  exact loop_real hG hm (lp := fun b s K => codeOK n b = true → lpR P n b s K) (fun b s K hc h => h hc) (b := b) (show codeOK n b = true from hc) S m ok h0 hr

/-- A LABEL. -/
theorem E_scope {ι : Type} {E : Env} (hE : E = realE P) (hG : GOK P G) (hm : P.follows .mixedOrders = true) {n : Nat} {lp : Code → St → (Ex → St → Prop) → Prop} (hlp : Loops P n lp) {b rest : Code} {s : St} {K : Ex → St → Prop}
    (l : Nat) (hf : findLabel b l = some rest) (S : ι → St) (m : ι → Nat) (ok : ι → Prop)
    (h0 : ev E G lp b s (fun e s => match e with
      | .goto x => x = l ∧ ∃ i, ok i ∧ StLe s (S i)
      | .normal => K .normal s
      | .exit x => K (.exit x) s
      | .ret => K .ret s))
    (hr : ∀ i, ok i → ev E G lp rest (S i) (fun e s => match e with
      | .goto x => x = l ∧ ∃ j, m j < m i ∧ ok j ∧ StLe s (S j)
      | .normal => K .normal s
      | .exit x => K (.exit x) s
      | .ret => K .ret s)) : lp (.scope b) s K := by
  subst hE
  subst hlp
  intro hc
  exact scope_real hG hm (lp := fun b s K => codeOK n b = true → lpR P n b s K) (fun b s K hc h => h hc) (b := b) (show codeOK n b = true from hc) hf S m ok h0 hr

/-! ### states that say less -/
theorem leaf_le {x : X} {c d : AV} (h : sle1 c d) {v : Value} (hv : LeafR x c v) : LeafR x d v := by
  have own : ∀ {c d : AV}, (∃ b s r l, c = .ms b s r l) ∨ (∃ b s r l, c = .ptr b s r l) → sle1 c d → d = c ∨ d = .un := by
    rintro c d (⟨b, s, r, l, rfl⟩ | ⟨b, s, r, l, rfl⟩) h <;> (cases d <;> first | exact .inr rfl | exact .inl (show _ = _ from h).symm)
  by_cases hc : (∃ b s r l, c = .ms b s r l) ∨ (∃ b s r l, c = .ptr b s r l)
  · rcases own hc h with rfl | rfl
    · exact hv
    · exact RoV.un _
  · have : RoV x.O x.w c v := by
      unfold LeafR at hv
      split at hv
      · exact absurd (.inl ⟨_, _, _, _, rfl⟩) hc
      · exact absurd (.inr ⟨_, _, _, _, rfl⟩) hc
      · exact hv
    exact leafR_of_ro (sle1_sound h _ _ _ this)

theorem rel_le {x : X} {c d : AV} (h : sle2 c d) {v : Value} (hv : RelV x c v) : RelV x d v := by
  have easy : sle1 c d → RelV x d v := by
    intro h
    have same : d = c ∨ d = .un → RelV x d v := by
      rintro (rfl | rfl)
      · exact hv
      · exact RoV.un _
    cases c with
    | agg cs => exact same (by cases d <;> first | exact .inr rfl | exact .inl (show _ = _ from h).symm)
    | tup cs => exact same (by cases d <;> first | exact .inr rfl | exact .inl (show _ = _ from h).symm)
    | fn f cs => exact same (by cases d <;> first | exact .inr rfl | exact .inl (show _ = _ from h).symm)
    | _ => exact relV_of_leaf (leaf_le h hv)
  unfold sle2 at h
  split at h
  · obtain ⟨ys, rfl, hl, hh⟩ := hv
    obtain ⟨h1, h2⟩ := sleL_spec h
    refine ⟨ys, rfl, by omega, fun j c hj => ?_⟩
    obtain ⟨d, hd, hs⟩ := h2 j c hj
    exact leaf_le hs (hh j d hd)
  · exact easy h

def leT (t : List (Nat × AV)) : List (Nat × AV) → Prop
  | [] => True
  | (i, v) :: r => sle2 (lookT t i) v ∧ leT t r

theorem leT_spec {t : List (Nat × AV)} : ∀ {t' : List (Nat × AV)}, leT t t' → ∀ u, AVle (lookT t u) (lookT t' u)
  | [], _, u => AVle.un _
  | (i, v) :: r, h, u => by
    simp only [lookT]
    cases hb : Nat.beq i u with
    | true =>
      have := Nat.eq_of_beq_eq_true hb
      subst this
      exact fun x val hv => rel_le h.1 hv
    | false => exact leT_spec h.2 u

theorem stLe {t t' : List (Nat × AV)} {h h' : List Blk} (e : h = h') (l : leT t t') : StLe ⟨t, h⟩ ⟨t', h'⟩ := ⟨e, leT_spec l⟩

/-- what a loop keeps of the temporaries -/
def keep (t : List (Nat × AV)) : List Nat → List (Nat × AV)
  | [] => []
  | i :: r => (i, lookT t i) :: keep t r
end
end Go.Proofs.Ytaiillbjhdoikaa.Ev

/- What a proof uses: calls by contract, what is told fitting itself, loops unrolled. -/
namespace Go.Proofs.Ytaiillbjhdoikaa.Ev
open Go Go.RowKit
set_option linter.unusedVariables false
set_option linter.unusedSimpArgs false

section
variable {P : Program} {G : Nat → TI}

/-- THE CALL, of a function that gives one of many: whatever it gives. -/
theorem E_callX {τ : Type} {Q : τ → Prop} {g : τ → AV} {E : Env} (hE : E = realE P) {f : FuncId} {args cargs : List AV} (hC : ∃ t, Q t ∧ CallsA P f cargs (g t)) {ys : List AV} {h h' : List Blk}
    {fz : Option (List AV × List Blk)} (hf : frzA E h args = some (ys, h')) (hc : cleanA h args) (hle : sleL sle2 ys cargs) {K : AV → List Blk → Prop} (hK : ∀ t, Q t → K (g t) h') : E.call f args h fz K := by
  obtain ⟨t, h1, h2⟩ := hC
  exact E_call hE h2 hf hc hle (hK t h1)

theorem callsA_le {f : FuncId} {args cargs : List AV} {r : AV} (hC : CallsA P f cargs r) (hle : sleL sle2 args cargs) : CallsA P f args r := by
  obtain ⟨e1, e2⟩ := sleL_spec hle
  refine fun O w vals hO hg hl hr => hC O w vals hO hg (by omega) (fun j c hj => ?_)
  obtain ⟨d, hd, hs⟩ := e2 j c hj
  exact sle2_sound hs _ _ _ (hr j d hd)

/-- THE CALL among operations whose order is open. -/
theorem E_pcallX {τ : Type} {Q : τ → Prop} {g : τ → AV} {E : Env} (hE : E = realE P) {f : FuncId} {args cargs : List AV} (hC : ∃ t, Q t ∧ CallsA P f cargs (g t)) (hm : allB AV.mf args = true)
    (hle : sleL sle2 args cargs) {K : AV → Prop} (hK : ∀ t, Q t → K (g t)) : E.pcall f args K := by
  obtain ⟨t, h1, h2⟩ := hC
  exact E_pcall hE (callsA_le h2 hle) hm (hK t h1)

/-- So many rounds of a loop, at most. -/
def evRounds (E : Env) (G : Nat → TI) (lp : Code → St → (Ex → St → Prop) → Prop) (b : Code) : Nat → St → (Ex → St → Prop) → Prop
  | 0, _, _ => False
  | n + 1, s, K => ev E G lp b s (fun e s => match e with
      | .normal => evRounds E G lp b n s K
      | .exit x => K (.exit x) s
      | .goto x => K (.goto x) s
      | .ret => K .ret s)

theorem E_rounds {E : Env} (hE : E = realE P) (hG : GOK P G) (hm : P.follows .mixedOrders = true) {n : Nat} {lp : Code → St → (Ex → St → Prop) → Prop} (hlp : Loops P n lp) {b : Code} {s : St} {K : Ex → St → Prop}
    (m : Nat) (h : evRounds E G lp b m s K) : lp (.loop b) s K := by
  subst hE
  subst hlp
  intro hc base O0 I μ a w R
  refine wp_loop_rounds m ?_
  induction m generalizing s μ a w with
  | zero => exact h.elim
  | succ m ih =>
    refine wp_mono (ev_sound hG hm (lp := fun b s K => codeOK n b = true → lpR P n b s K) (fun b s K hc h => h hc) b _ s μ a w (show codeOK n b = true from hc) R h) ?_
    intro e a w hq
    cases e with
    | normal =>
      obtain ⟨s', μ', R', h'⟩ := hq
      exact ih h' μ' a w R'
    | exit i => exact hq
    | goto i => exact hq
    | ret => exact hq
    | panic ch => exact hq.elim
    | outgrown => exact hq.elim

/-! ### what the true operations are -/
theorem cmp_eql (a b : Int) : cmpR .eql a b = decide (a = b) := by simp only [cmpR]; by_cases h : a = b <;> simp [h]
theorem cmp_neq (a b : Int) : cmpR .neq a b = decide (a ≠ b) := by simp only [cmpR]; by_cases h : a = b <;> simp [h]
theorem cmp_lss (a b : Int) : cmpR .lss a b = decide (a < b) := rfl
theorem cmp_leq (a b : Int) : cmpR .leq a b = decide (a ≤ b) := rfl
theorem cmp_gtr (a b : Int) : cmpR .gtr a b = decide (b < a) := rfl
theorem cmp_geq (a b : Int) : cmpR .geq a b = decide (b ≤ a) := rfl

/-! ### what is told fits itself -/
theorem u_nil {p : AV → AV → Prop} : sleL p [] [] := trivial
theorem u_cons {p : AV → AV → Prop} {x y : AV} {r s : List AV} (h : p x y) (k : sleL p r s) : sleL p (x :: r) (y :: s) := ⟨h, k⟩
theorem u2_int {k : IntKind} {a : SI} : sle2 (.int k a) (.int k (.s a.val)) := ⟨rfl, rfl⟩
theorem u1_int {k : IntKind} {a : SI} : sle1 (.int k a) (.int k (.s a.val)) := ⟨rfl, rfl⟩
theorem u2_bool {a : SB} : sle2 (.bool a) (.bool (.s a.val)) := rfl
theorem u1_bool {a : SB} : sle1 (.bool a) (.bool (.s a.val)) := rfl
theorem u2_sli {k : IntKind} {l : List Int} : sle2 (.sli k l) (.sli k l) := ⟨rfl, rfl⟩
theorem u1_sli {k : IntKind} {l : List Int} : sle1 (.sli k l) (.sli k l) := ⟨rfl, rfl⟩
theorem u2_s0 {k : IntKind} : sle2 .s0 (.sli k []) := rfl
theorem u1_s0 {k : IntKind} : sle1 .s0 (.sli k []) := rfl
theorem u2_agg {cs ds : List AV} (h : sleL sle1 cs ds) : sle2 (.agg cs) (.agg ds) := h
/-! what is told of a value, so that it fits a contract's arguments -/
def up1 : AV → AV
  | .int k a => .int k (.s a.val)
  | .bool a => .bool (.s a.val)
  | x => x
def up2 : AV → AV
  | .agg cs => .agg (cs.map up1)
  | x => up1 x
theorem s0_self (x : AV) : sle0 x x := by
  cases x <;> simp [sle0]
theorem s0_selfL : ∀ (l : List AV), sleL sle0 l l
  | [] => trivial
  | y :: r => ⟨s0_self y, s0_selfL r⟩
theorem s1_up (x : AV) : sle1 x (up1 x) := by
  cases x with
  | slc sz n f => exact ⟨rfl, rfl, fun i _ => s0_selfL _⟩
  | _ => simp [sle1, sle0, up1, SI.val, SB.val]
theorem s1_upL : ∀ (l : List AV), sleL sle1 l (l.map up1)
  | [] => trivial
  | y :: r => ⟨s1_up y, s1_upL r⟩
theorem s2_up (x : AV) : sle2 x (up2 x) := by
  cases x with
  | slc sz n f => exact ⟨rfl, rfl, fun i _ => s0_selfL _⟩
  | agg cs => exact s1_upL cs
  | _ => simp [sle2, sle1, sle0, up2, up1, SI.val, SB.val]
theorem u_up : ∀ {ys : List AV}, sleL sle2 ys (ys.map up2)
  | [] => trivial
  | x :: r => ⟨s2_up x, u_up⟩
end
end Go.Proofs.Ytaiillbjhdoikaa.Ev

/- Handing on within: a place in the call's own memory becomes what is only read, ahead of a loop. -/
namespace Go.Proofs.Ytaiillbjhdoikaa.Ev
open Go Go.RowKit
set_option linter.unusedVariables false
set_option linter.unusedSimpArgs false

def isMs : AV → Bool
  | .ms _ _ _ _ => true
  | _ => false

section
variable {P : Program} {G : Nat → TI}

/-- AHEAD OF A LOOP: what a temporary has of the call's own memory is only read from here on. -/
theorem E_frz {E : Env} (hE : E = realE P) {n : Nat} {lp : Code → St → (Ex → St → Prop) → Prop} (hlp : Loops P n lp) {c : Code} {t : List (Nat × AV)} {h : List Blk} {K : Ex → St → Prop}
    (d : Nat) {y : AV} {h' : List Blk} {v : AV} (hd : lookT t d = v) (hv : isMs v = true) (hf : frz1 E h v = some (y, h')) (hcl : clean1 h v) (hk : lp c ⟨(d, y) :: t, h'⟩ K) : lp c ⟨t, h⟩ K := by
  subst hE
  subst hlp
  subst hd
  intro hc base O0 I μ a w R
  have hr := R.tmps d
  have hl : LeafR (mkX base O0 μ h w) (lookT t d) (a.tmps.getD d undef) := by
    revert hv hr
    generalize lookT t d = v
    cases v <;> intro hv hr <;> first | exact hr | cases hv
  obtain ⟨F, q⟩ := frz1_sound R.hr hl hcl hf
  exact hk hc base O0 I μ a w ⟨R.size, R.defers, F.hr, (R.tmps.mono F.ext).refine (relV_of_ro q), R.ext.trans F.ext, R.below⟩
end
end Go.Proofs.Ytaiillbjhdoikaa.Ev

/- The types' table of this seat. -/
namespace Go.Proofs.Ytaiillbjhdoikaa.Ev
open Go Go.Proofs
def tab : List (Nat × TI) :=
  [(3, ⟨.int .i64, 1, 8, [.int .i64 (.l 0)], (some [some .i64])⟩),
   (4, ⟨.bool, 1, 1, [.bool (.l false)], (some [none])⟩),
   (5, ⟨.int .u8, 1, 1, [.int .u8 (.l 0)], (some [some .u8])⟩),
   (9, ⟨.str, 1, 16, [.str ⟨#[]⟩], none⟩),
   (23, ⟨.slice 67, 1, 24, [.s0], none⟩),
   (25, ⟨.struct [(0, 1, false), (1, 1, false)], 2, 32, [.bool (.l false), .s0], none⟩),
   (36, ⟨.int .u64, 1, 8, [.int .u64 (.l 0)], (some [some .u64])⟩),
   (38, ⟨.struct [(0, 1, false), (1, 1, false), (2, 1, false), (3, 1, false)], 4, 32, [.int .i64 (.l 0), .bool (.l false), .int .u64 (.l 0), .int .i64 (.l 0)], (some [some .i64, none, some .u64, some .i64])⟩),
   (46, ⟨.struct [(0, 2, true), (2, 1, false)], 3, 40, [.bool (.l false), .s0, .int .i64 (.l 0)], none⟩),
   (60, ⟨.struct [(0, 1, false), (1, 4, true), (5, 4, true)], 9, 72, [.bool (.l false), .int .i64 (.l 0), .bool (.l false), .int .u64 (.l 0), .int .i64 (.l 0), .int .i64 (.l 0), .bool (.l false), .int .u64 (.l 0), .int .i64 (.l 0)], (some [none, some .i64, none, some .u64, some .i64, some .i64, none, some .u64, some .i64])⟩),
   (67, ⟨.int .u32, 1, 4, [.int .u32 (.l 0)], (some [some .u32])⟩),
   (68, ⟨.int .u64, 1, 8, [.int .u64 (.l 0)], (some [some .u64])⟩),
   (74, ⟨.slice 25, 1, 24, [.s0], none⟩),
   (80, ⟨.struct [(0, 2, true), (2, 1, false)], 3, 40, [.bool (.l false), .s0, .int .i64 (.l 0)], none⟩),
   (96, ⟨.int .i64, 1, 8, [.int .i64 (.l 0)], (some [some .i64])⟩),
   (110, ⟨.one, 1, 16, [.lit .nilIface], none⟩),
   (126, ⟨.slice 5, 1, 24, [.s0], none⟩),
   (129, ⟨.struct [(0, 1, false), (1, 1, false)], 2, 32, [.lit (.pointer none), .s0], none⟩)]
def G : Nat → TI := lookG tab
theorem hG : GOK Try.prog G := tabOK (by kernel_rfl) (by kernel_rfl)
theorem hm : Try.prog.follows .mixedOrders = true := by kernel_rfl
end Go.Proofs.Ytaiillbjhdoikaa.Ev

/- Numbers and intervals, and what the program's functions make of them: plain Lean. -/
namespace Go.Proofs.Ytaiillbjhdoikaa.Ev
open Go

structure Num where
  kind : Int
  neg : Bool
  m : Int
  e : Int
  deriving DecidableEq

structure Iv where
  empty : Bool
  lo : Num
  hi : Num
  deriving DecidableEq

theorem Num.eq_iff (a b : Num) : a = b ↔ a.kind = b.kind ∧ a.neg = b.neg ∧ a.m = b.m ∧ a.e = b.e := by
  cases a; cases b; simp
theorem Iv.eq_iff (a b : Iv) : a = b ↔ a.empty = b.empty ∧ a.lo = b.lo ∧ a.hi = b.hi := by
  cases a; cases b; simp

theorem Num.eta (n : Num) : (⟨n.kind, n.neg, n.m, n.e⟩ : Num) = n := rfl
theorem Iv.eta (x : Iv) : (⟨x.empty, x.lo, x.hi⟩ : Iv) = x := rfl

def Num.cells (n : Num) : List AV := [.int .i64 (.s n.kind), .bool (.s n.neg), .int .u64 (.s n.m), .int .i64 (.s n.e)]
def Num.av (n : Num) : AV := .agg [.int .i64 (.s n.kind), .bool (.s n.neg), .int .u64 (.s n.m), .int .i64 (.s n.e)]
def Iv.av (x : Iv) : AV := .agg [.bool (.s x.empty), .int .i64 (.s x.lo.kind), .bool (.s x.lo.neg), .int .u64 (.s x.lo.m), .int .i64 (.s x.lo.e),
  .int .i64 (.s x.hi.kind), .bool (.s x.hi.neg), .int .u64 (.s x.hi.m), .int .i64 (.s x.hi.e)]

def Num.zero : Num := ⟨0, false, 0, 0⟩
def Num.top : Int := 9223372036854775808
def Num.may (n : Num) : Bool :=
  if n.kind = 0 then decide (n = Num.zero) else if n.kind = 1 then decide (9223372036854775808 ≤ n.m) && decide (-1048576 ≤ n.e) && decide (n.e ≤ 1048576) else if n.kind = 2 then decide (n.m = 0) && decide (n.e = 0) else false
def Num.fair (n : Num) : Num := if n.may then n else Num.zero
def Num.inf (b : Bool) : Num := ⟨2, b, 0, 0⟩
def Num.huge (b : Bool) : Num := ⟨1, b, 18446744073709551615, 1048576⟩
def Num.tiny (b : Bool) : Num := ⟨1, b, Num.top, -1048576⟩
def Num.bound (neg : Bool) (m e : Int) (away : Bool) : Num :=
  if 1048576 < e then (if away then Num.inf neg else Num.huge neg) else if e < -1048576 then (if away then Num.tiny neg else Num.zero) else ⟨1, neg, m, e⟩
def Num.grow (neg : Bool) (m e : Int) (cut away : Bool) : Num :=
  if cut && away then (if IntKind.u64.wrap (m + 1) = 0 then Num.bound neg Num.top (IntKind.i64.wrap (e + 1)) away else Num.bound neg (IntKind.u64.wrap (m + 1)) e away) else Num.bound neg m e away
def Num.sign (n : Num) : Int := if n.fair.kind = 0 then 0 else if n.fair.neg then -1 else 1
def Num.farther (a b : Num) : Bool := if a.kind ≠ b.kind then decide (b.kind < a.kind) else if a.e ≠ b.e then decide (b.e < a.e) else decide (b.m < a.m)
def Num.cmp (a b : Num) : Int :=
  if a.fair.sign < b.fair.sign then -1 else if b.fair.sign < a.fair.sign then 1 else if a.fair.farther b.fair then a.fair.sign else if b.fair.farther a.fair then IntKind.i64.wrap (0 - a.fair.sign) else 0
def Num.opp (n : Num) : Num := ⟨n.fair.kind, decide (n.fair.kind ≠ 0) && !n.fair.neg, n.fair.m, n.fair.e⟩
end Go.Proofs.Ytaiillbjhdoikaa.Ev

/- Contracts: numbers. Printed by gen.py out of C1.spec. -/
namespace Go.Proofs.Ytaiillbjhdoikaa.Ev
open Go Go.Proofs
set_option linter.unusedVariables false
set_option linter.unusedSimpArgs false

theorem c_May (n : Num)  : ∃ t : Bool, t = n.may ∧ CallsA Try.prog 23 [n.av] (.bool (.s t)) := by
  refine ⟨_, rfl, ?_⟩
  generalize hr : n.may = r
  refine callsA_of hG hm Try.func23 (by kernel_rfl) ?_
  intro E hE lp hl
  cbv
  repeat' (first
    | (refine E_br hE (fun h => ?_) (fun h => ?_) <;> cbv)
    | (refine E_nm hE (fun v hv => ?_); cbv)
    | fail)
  all_goals (subst hE; subst hr)
  all_goals (try simp only [realE, cmp_eql, cmp_neq, cmp_lss, cmp_leq, cmp_gtr, cmp_geq, intBinR, decide_eq_true_eq, decide_eq_false_iff_not, SI.val, SB.val, Num.eta, Iv.eta] at *)
  all_goals (simp only [Num.may, Num.zero, Num.top, Num.eq_iff])
  all_goals (try simp_all)
  all_goals (try (intros; omega))
  all_goals (try (simp only [decide_eq_true_eq]; intros; omega))

theorem c_fair (n : Num)  : ∃ t : Num, t = n.fair ∧ CallsA Try.prog 73 [n.av] (t.av) := by
  refine ⟨_, rfl, ?_⟩
  generalize hr : n.fair = r
  refine callsA_of hG hm Try.func73 (by kernel_rfl) ?_
  intro E hE lp hl
  cbv
  repeat' (first
    | (refine E_br hE (fun h => ?_) (fun h => ?_) <;> cbv)
    | (refine E_nm hE (fun v hv => ?_); cbv)
    | (apply E_callX hE (c_May ⟨_, _, _, _⟩); (case hf => rfl); (case hc => (cbv <;> trivial)); (case hle => exact u_up); intro t ht; cbv)
    | fail)
  all_goals (subst hE; subst hr)
  all_goals (try simp only [realE, cmp_eql, cmp_neq, cmp_lss, cmp_leq, cmp_gtr, cmp_geq, intBinR, decide_eq_true_eq, decide_eq_false_iff_not, SI.val, SB.val, Num.eta, Iv.eta] at *)
  all_goals (try simp_all [Num.fair, Num.zero])
  all_goals (try omega)
  all_goals (try simp only [Bool.and_assoc])
  all_goals (try rfl)
  all_goals ((repeat' split) <;> (try simp_all) <;> (try omega))

theorem c_Inf (b : Bool)  : ∃ t : Num, t = Num.inf b ∧ CallsA Try.prog 49 [.bool (.s b)] (t.av) := by
  refine ⟨_, rfl, ?_⟩
  generalize hr : Num.inf b = r
  refine callsA_of hG hm Try.func49 (by kernel_rfl) ?_
  intro E hE lp hl
  cbv
  repeat' (first
    | (refine E_br hE (fun h => ?_) (fun h => ?_) <;> cbv)
    | (refine E_nm hE (fun v hv => ?_); cbv)
    | fail)
  all_goals (subst hE; subst hr)
  all_goals (try simp only [realE, cmp_eql, cmp_neq, cmp_lss, cmp_leq, cmp_gtr, cmp_geq, intBinR, decide_eq_true_eq, decide_eq_false_iff_not, SI.val, SB.val, Num.eta, Iv.eta] at *)
  all_goals (try simp_all [Num.inf])
  all_goals (try omega)
  all_goals (try simp only [Bool.and_assoc])
  all_goals (try rfl)
  all_goals ((repeat' split) <;> (try simp_all) <;> (try omega))

theorem c_huge (b : Bool)  : ∃ t : Num, t = Num.huge b ∧ CallsA Try.prog 79 [.bool (.s b)] (t.av) := by
  refine ⟨_, rfl, ?_⟩
  generalize hr : Num.huge b = r
  refine callsA_of hG hm Try.func79 (by kernel_rfl) ?_
  intro E hE lp hl
  cbv
  repeat' (first
    | (refine E_br hE (fun h => ?_) (fun h => ?_) <;> cbv)
    | (refine E_nm hE (fun v hv => ?_); cbv)
    | fail)
  all_goals (subst hE; subst hr)
  all_goals (try simp only [realE, cmp_eql, cmp_neq, cmp_lss, cmp_leq, cmp_gtr, cmp_geq, intBinR, decide_eq_true_eq, decide_eq_false_iff_not, SI.val, SB.val, Num.eta, Iv.eta] at *)
  all_goals (try simp_all [Num.huge])
  all_goals (try omega)
  all_goals (try simp only [Bool.and_assoc])
  all_goals (try rfl)
  all_goals ((repeat' split) <;> (try simp_all) <;> (try omega))

theorem c_tiny (b : Bool)  : ∃ t : Num, t = Num.tiny b ∧ CallsA Try.prog 78 [.bool (.s b)] (t.av) := by
  refine ⟨_, rfl, ?_⟩
  generalize hr : Num.tiny b = r
  refine callsA_of hG hm Try.func78 (by kernel_rfl) ?_
  intro E hE lp hl
  cbv
  repeat' (first
    | (refine E_br hE (fun h => ?_) (fun h => ?_) <;> cbv)
    | (refine E_nm hE (fun v hv => ?_); cbv)
    | fail)
  all_goals (subst hE; subst hr)
  all_goals (try simp only [realE, cmp_eql, cmp_neq, cmp_lss, cmp_leq, cmp_gtr, cmp_geq, intBinR, decide_eq_true_eq, decide_eq_false_iff_not, SI.val, SB.val, Num.eta, Iv.eta] at *)
  all_goals (try simp_all [Num.tiny, Num.top])
  all_goals (try omega)
  all_goals (try simp only [Bool.and_assoc])
  all_goals (try rfl)
  all_goals ((repeat' split) <;> (try simp_all) <;> (try omega))

theorem c_Bound (neg : Bool) (m : Int) (e : Int) (away : Bool)  : ∃ t : Num, t = Num.bound neg m e away ∧ CallsA Try.prog 80 [.bool (.s neg), .int .u64 (.s m), .int .i64 (.s e), .bool (.s away)] (t.av) := by
  refine ⟨_, rfl, ?_⟩
  generalize hr : Num.bound neg m e away = r
  refine callsA_of hG hm Try.func80 (by kernel_rfl) ?_
  intro E hE lp hl
  cbv
  repeat' (first
    | (refine E_br hE (fun h => ?_) (fun h => ?_) <;> cbv)
    | (refine E_nm hE (fun v hv => ?_); cbv)
    | (apply E_callX hE (c_Inf _); (case hf => rfl); (case hc => (cbv <;> trivial)); (case hle => exact u_up); intro t ht; cbv)
    | (apply E_callX hE (c_huge _); (case hf => rfl); (case hc => (cbv <;> trivial)); (case hle => exact u_up); intro t ht; cbv)
    | (apply E_callX hE (c_tiny _); (case hf => rfl); (case hc => (cbv <;> trivial)); (case hle => exact u_up); intro t ht; cbv)
    | fail)
  all_goals (subst hE; subst hr)
  all_goals (try simp only [realE, cmp_eql, cmp_neq, cmp_lss, cmp_leq, cmp_gtr, cmp_geq, intBinR, decide_eq_true_eq, decide_eq_false_iff_not, SI.val, SB.val, Num.eta, Iv.eta] at *)
  all_goals (try simp_all [Num.bound, Num.zero])
  all_goals (try omega)
  all_goals (try simp only [Bool.and_assoc])
  all_goals (try rfl)
  all_goals ((repeat' split) <;> (try simp_all) <;> (try omega))

theorem c_Grow (neg : Bool) (m : Int) (e : Int) (cut : Bool) (away : Bool)  : ∃ t : Num, t = Num.grow neg m e cut away ∧ CallsA Try.prog 51 [.bool (.s neg), .int .u64 (.s m), .int .i64 (.s e), .bool (.s cut), .bool (.s away)] (t.av) := by
  refine ⟨_, rfl, ?_⟩
  generalize hr : Num.grow neg m e cut away = r
  refine callsA_of hG hm Try.func51 (by kernel_rfl) ?_
  intro E hE lp hl
  cbv
  repeat' (first
    | (refine E_br hE (fun h => ?_) (fun h => ?_) <;> cbv)
    | (refine E_nm hE (fun v hv => ?_); cbv)
    | (apply E_callX hE (c_Bound _ _ _ _); (case hf => rfl); (case hc => (cbv <;> trivial)); (case hle => exact u_up); intro t ht; cbv)
    | fail)
  all_goals (subst hE; subst hr)
  all_goals (try simp only [realE, cmp_eql, cmp_neq, cmp_lss, cmp_leq, cmp_gtr, cmp_geq, intBinR, decide_eq_true_eq, decide_eq_false_iff_not, SI.val, SB.val, Num.eta, Iv.eta] at *)
  all_goals (try simp_all [Num.grow, Num.top])
  all_goals (try omega)
  all_goals (try simp only [Bool.and_assoc])
  all_goals (try rfl)
  all_goals ((repeat' split) <;> (try simp_all) <;> (try omega))

theorem c_Sign (n : Num)  : ∃ t : Int, t = n.sign ∧ CallsA Try.prog 31 [n.av] (.int .i64 (.s t)) := by
  refine ⟨_, rfl, ?_⟩
  generalize hr : n.sign = r
  refine callsA_of hG hm Try.func31 (by kernel_rfl) ?_
  intro E hE lp hl
  cbv
  repeat' (first
    | (refine E_br hE (fun h => ?_) (fun h => ?_) <;> cbv)
    | (refine E_nm hE (fun v hv => ?_); cbv)
    | (apply E_callX hE (c_fair ⟨_, _, _, _⟩); (case hf => rfl); (case hc => (cbv <;> trivial)); (case hle => exact u_up); intro t ht; cbv)
    | fail)
  all_goals (subst hE; subst hr)
  all_goals (try simp only [realE, cmp_eql, cmp_neq, cmp_lss, cmp_leq, cmp_gtr, cmp_geq, intBinR, decide_eq_true_eq, decide_eq_false_iff_not, SI.val, SB.val, Num.eta, Iv.eta] at *)
  all_goals (try simp_all [Num.sign])
  all_goals (try omega)
  all_goals (try simp only [Bool.and_assoc])
  all_goals (try rfl)
  all_goals ((repeat' split) <;> (try simp_all) <;> (try omega))

theorem c_farther (a : Num) (b : Num)  : ∃ t : Bool, t = a.farther b ∧ CallsA Try.prog 77 [a.av, b.av] (.bool (.s t)) := by
  refine ⟨_, rfl, ?_⟩
  generalize hr : a.farther b = r
  refine callsA_of hG hm Try.func77 (by kernel_rfl) ?_
  intro E hE lp hl
  cbv
  repeat' (first
    | (refine E_br hE (fun h => ?_) (fun h => ?_) <;> cbv)
    | (refine E_nm hE (fun v hv => ?_); cbv)
    | fail)
  all_goals (subst hE; subst hr)
  all_goals (try simp only [realE, cmp_eql, cmp_neq, cmp_lss, cmp_leq, cmp_gtr, cmp_geq, intBinR, decide_eq_true_eq, decide_eq_false_iff_not, SI.val, SB.val, Num.eta, Iv.eta] at *)
  all_goals (try simp_all [Num.farther])
  all_goals (try omega)
  all_goals (try simp only [Bool.and_assoc])
  all_goals (try rfl)
  all_goals ((repeat' split) <;> (try simp_all) <;> (try omega))

theorem c_Cmp (a : Num) (b : Num)  : ∃ t : Int, t = a.cmp b ∧ CallsA Try.prog 35 [a.av, b.av] (.int .i64 (.s t)) := by
  refine ⟨_, rfl, ?_⟩
  generalize hr : a.cmp b = r
  refine callsA_of hG hm Try.func35 (by kernel_rfl) ?_
  intro E hE lp hl
  cbv
  repeat' (first
    | (refine E_br hE (fun h => ?_) (fun h => ?_) <;> cbv)
    | (refine E_nm hE (fun v hv => ?_); cbv)
    | (apply E_pcallX hE (c_fair ⟨_, _, _, _⟩); (case hm => rfl); (case hle => exact u_up); intro t ht; cbv)
    | (apply E_pcallX hE (c_Sign ⟨_, _, _, _⟩); (case hm => rfl); (case hle => exact u_up); intro t ht; cbv)
    | (apply E_callX hE (c_farther ⟨_, _, _, _⟩ ⟨_, _, _, _⟩); (case hf => rfl); (case hc => (cbv <;> trivial)); (case hle => exact u_up); intro t ht; cbv)
    | fail)
  all_goals (subst hE; subst hr)
  all_goals (try simp only [realE, cmp_eql, cmp_neq, cmp_lss, cmp_leq, cmp_gtr, cmp_geq, intBinR, decide_eq_true_eq, decide_eq_false_iff_not, SI.val, SB.val, Num.eta, Iv.eta] at *)
  all_goals (try simp_all [Num.cmp])
  all_goals (try omega)
  all_goals (try simp only [Bool.and_assoc])
  all_goals (try rfl)
  all_goals ((repeat' split) <;> (try simp_all) <;> (try omega))

theorem c_Neg (n : Num)  : ∃ t : Num, t = n.opp ∧ CallsA Try.prog 32 [n.av] (t.av) := by
  refine ⟨_, rfl, ?_⟩
  generalize hr : n.opp = r
  refine callsA_of hG hm Try.func32 (by kernel_rfl) ?_
  intro E hE lp hl
  cbv
  repeat' (first
    | (refine E_br hE (fun h => ?_) (fun h => ?_) <;> cbv)
    | (refine E_nm hE (fun v hv => ?_); cbv)
    | (apply E_callX hE (c_fair ⟨_, _, _, _⟩); (case hf => rfl); (case hc => (cbv <;> trivial)); (case hle => exact u_up); intro t ht; cbv)
    | fail)
  all_goals (subst hE; subst hr)
  all_goals (try simp only [realE, cmp_eql, cmp_neq, cmp_lss, cmp_leq, cmp_gtr, cmp_geq, intBinR, decide_eq_true_eq, decide_eq_false_iff_not, SI.val, SB.val, Num.eta, Iv.eta] at *)
  all_goals (try simp_all [Num.opp])
  all_goals (try omega)
  all_goals (try simp only [Bool.and_assoc])
  all_goals (try rfl)
  all_goals ((repeat' split) <;> (try simp_all) <;> (try omega))

end Go.Proofs.Ytaiillbjhdoikaa.Ev

/- Intervals: plain Lean. -/
namespace Go.Proofs.Ytaiillbjhdoikaa.Ev
open Go

def Iv.none : Iv := ⟨true, Num.zero, Num.zero⟩
def Iv.all : Iv := ⟨false, Num.inf true, Num.inf false⟩
def Iv.may (x : Iv) : Bool :=
  if x.empty then decide (x = Iv.none) else x.lo.may && x.hi.may && decide (x.lo.cmp x.hi ≤ 0) && decide (x.lo ≠ Num.inf false) && decide (x.hi ≠ Num.inf true)
def Iv.fair (x : Iv) : Iv := if x.may then x else Iv.none
def Iv.make (lo hi : Num) : Iv := Iv.fair ⟨false, lo.opp.opp, hi.opp.opp⟩
def Iv.point (n : Num) : Iv := Iv.make n n
def Iv.within (a b : Iv) : Bool := a.fair.empty || (!b.fair.empty && decide (b.fair.lo.cmp a.fair.lo ≤ 0) && decide (a.fair.hi.cmp b.fair.hi ≤ 0))
def Iv.has (x : Iv) (n : Num) : Bool := !(Iv.point n).empty && (Iv.point n).within x
end Go.Proofs.Ytaiillbjhdoikaa.Ev

/- Contracts: intervals. Printed by gen.py out of C2.spec. -/
namespace Go.Proofs.Ytaiillbjhdoikaa.Ev
open Go Go.Proofs
set_option linter.unusedVariables false
set_option linter.unusedSimpArgs false

theorem c_arFair (n : Num)  : ∃ t : Num, t = n.fair ∧ CallsA Try.prog 119 [n.av] (t.av) := by
  refine ⟨_, rfl, ?_⟩
  generalize hr : n.fair = r
  refine callsA_of hG hm Try.func119 (by kernel_rfl) ?_
  intro E hE lp hl
  cbv
  repeat' (first
    | (refine E_br hE (fun h => ?_) (fun h => ?_) <;> cbv)
    | (refine E_nm hE (fun v hv => ?_); cbv)
    | (apply E_callX hE (c_May ⟨_, _, _, _⟩); (case hf => rfl); (case hc => (cbv <;> trivial)); (case hle => exact u_up); intro t ht; cbv)
    | fail)
  all_goals (subst hE; subst hr)
  all_goals (try simp only [realE, cmp_eql, cmp_neq, cmp_lss, cmp_leq, cmp_gtr, cmp_geq, intBinR, decide_eq_true_eq, decide_eq_false_iff_not, SI.val, SB.val, Num.eta, Iv.eta] at *)
  all_goals (try simp_all [Num.fair, Num.zero])
  all_goals (try omega)
  all_goals (try simp only [Bool.and_assoc])
  all_goals (try rfl)
  all_goals ((repeat' split) <;> (try simp_all) <;> (try omega))

theorem c_quFair (n : Num)  : ∃ t : Num, t = n.fair ∧ CallsA Try.prog 48 [n.av] (t.av) := by
  refine ⟨_, rfl, ?_⟩
  generalize hr : n.fair = r
  refine callsA_of hG hm Try.func48 (by kernel_rfl) ?_
  intro E hE lp hl
  cbv
  repeat' (first
    | (refine E_br hE (fun h => ?_) (fun h => ?_) <;> cbv)
    | (refine E_nm hE (fun v hv => ?_); cbv)
    | (apply E_callX hE (c_May ⟨_, _, _, _⟩); (case hf => rfl); (case hc => (cbv <;> trivial)); (case hle => exact u_up); intro t ht; cbv)
    | fail)
  all_goals (subst hE; subst hr)
  all_goals (try simp only [realE, cmp_eql, cmp_neq, cmp_lss, cmp_leq, cmp_gtr, cmp_geq, intBinR, decide_eq_true_eq, decide_eq_false_iff_not, SI.val, SB.val, Num.eta, Iv.eta] at *)
  all_goals (try simp_all [Num.fair, Num.zero])
  all_goals (try omega)
  all_goals (try simp only [Bool.and_assoc])
  all_goals (try rfl)
  all_goals ((repeat' split) <;> (try simp_all) <;> (try omega))

end Go.Proofs.Ytaiillbjhdoikaa.Ev

/- Words of 64 bits: plain Lean. -/
namespace Go.Proofs.Ytaiillbjhdoikaa.Ev
open Go

theorem wu8 (n : Int) : IntKind.u8.wrap n = n % 256 := IntKind.wrap_u8 n
theorem wu32 (n : Int) : IntKind.u32.wrap n = n % 4294967296 := IntKind.wrap_u32 n
theorem wu64 (n : Int) : IntKind.u64.wrap n = n % 18446744073709551616 := IntKind.wrap_u64 n
theorem wi64 (n : Int) : IntKind.i64.wrap n = (n + 9223372036854775808) % 18446744073709551616 - 9223372036854775808 := IntKind.wrap_i64 n

theorem fdiv_pos (n : Int) (d : Nat) : n.fdiv (d : Int) = n / (d : Int) := Int.fdiv_eq_ediv_of_nonneg n (Int.natCast_nonneg d)
theorem shr_lit {n d : Int} (h : 0 ≤ d) : n.fdiv d = n / d := Int.fdiv_eq_ediv_of_nonneg n h

theorem ofInt_toNat (x : Int) : ((BitVec.ofInt 64 x).toNat : Int) = x % 18446744073709551616 := by
  rw [BitVec.toNat_ofInt]
  omega

theorem and_low (x : Int) (k : Nat) (hk : k ≤ 64) : ((BitVec.ofInt 64 x &&& BitVec.ofInt 64 (2 ^ k - 1 : Int)).toNat : Int) = x % 2 ^ k := by
  rw [BitVec.toNat_and]
  have h2 : (BitVec.ofInt 64 (2 ^ k - 1 : Int)).toNat = 2 ^ k - 1 := by
    have h1 : ((BitVec.ofInt 64 (2 ^ k - 1 : Int)).toNat : Int) = ((2 ^ k - 1 : Nat) : Int) := by
      rw [ofInt_toNat]
      have e : (2 ^ k - 1 : Int) = ((2 ^ k - 1 : Nat) : Int) := by
        have : 1 ≤ 2 ^ k := Nat.one_le_two_pow
        push_cast [Int.ofNat_sub this]
        rfl
      rw [e]
      have : (2 : Nat) ^ k ≤ 2 ^ 64 := Nat.pow_le_pow_right (by omega) hk
      omega
    omega
  rw [h2, Nat.and_two_pow_sub_one_eq_mod]
  have h3 := ofInt_toNat x
  have hd : (2 ^ k : Int) ∣ 18446744073709551616 := ⟨2 ^ (64 - k), by
    rw [← Int.pow_add]
    rw [show k + (64 - k) = 64 by omega]
    rfl⟩
  push_cast
  rw [h3]
  exact Int.emod_emod_of_dvd x hd

theorem and_32 (x : Int) : IntKind.u64.wrap ((BitVec.ofInt 64 x &&& BitVec.ofInt 64 4294967295).toNat : Int) = x % 4294967296 := by
  have := and_low x 32 (by omega)
  rw [show (2 ^ 32 - 1 : Int) = 4294967295 by decide, show (2 ^ 32 : Int) = 4294967296 by decide] at this
  rw [this, wu64]
  omega

theorem and_32' (x : Int) : IntKind.u64.wrap ((BitVec.ofInt IntKind.u64.bits x &&& BitVec.ofInt IntKind.u64.bits 4294967295).toNat : Int) = x % 4294967296 := and_32 x

theorem shr1 (x : Int) : x.fdiv (2 ^ min (Int.toNat 1) IntKind.u64.bits) = x / 2 := shr_lit (by decide)
theorem shr8 (x : Int) : x.fdiv (2 ^ min (Int.toNat 8) IntKind.u64.bits) = x / 256 := shr_lit (by decide)
theorem shr16 (x : Int) : x.fdiv (2 ^ min (Int.toNat 16) IntKind.u64.bits) = x / 65536 := shr_lit (by decide)
theorem shr32 (x : Int) : x.fdiv (2 ^ min (Int.toNat 32) IntKind.u64.bits) = x / 4294967296 := shr_lit (by decide)
theorem shr63 (x : Int) : x.fdiv (2 ^ min (Int.toNat 63) IntKind.u64.bits) = x / 9223372036854775808 := shr_lit (by decide)
theorem shl1 : (2 : Int) ^ min (Int.toNat 1) IntKind.u64.bits = 2 := by decide
theorem shl63 : (2 : Int) ^ min (Int.toNat 63) IntKind.u64.bits = 9223372036854775808 := by decide
theorem shl32 : (2 : Int) ^ min (Int.toNat 32) IntKind.u64.bits = 4294967296 := by decide

/-- the product of two words -/
theorem mul64 {x y : Int} (hx : 0 ≤ x) (hx' : x < 18446744073709551616) (hy : 0 ≤ y) (hy' : y < 18446744073709551616) {x0 x1 y0 y1 w0 t w1 w2 w1' hi : Int}
    (h1 : x0 = x % 4294967296) (h2 : x1 = x / 4294967296) (h3 : y0 = y % 4294967296) (h4 : y1 = y / 4294967296) (h5 : w0 = x0 * y0 % 18446744073709551616)
    (h6 : t = (x1 * y0 % 18446744073709551616 + w0 / 4294967296) % 18446744073709551616) (h7 : w1 = t % 4294967296) (h8 : w2 = t / 4294967296)
    (h9 : w1' = (w1 + x0 * y1 % 18446744073709551616) % 18446744073709551616)
    (h10 : hi = ((x1 * y1 % 18446744073709551616 + w2) % 18446744073709551616 + w1' / 4294967296) % 18446744073709551616) : hi = x * y / 18446744073709551616 := by
  have b : ∀ {a b : Int}, 0 ≤ a → a < 4294967296 → 0 ≤ b → b < 4294967296 → 0 ≤ a * b ∧ a * b ≤ 18446744065119617025 := by
    intro a b ha ha' hb hb'
    refine ⟨Int.mul_nonneg ha hb, ?_⟩
    have := Int.mul_le_mul (show a ≤ 4294967295 by omega) (show b ≤ 4294967295 by omega) hb (by omega)
    omega
  have e00 := b (a := x0) (b := y0) (by omega) (by omega) (by omega) (by omega)
  have e10 := b (a := x1) (b := y0) (by omega) (by omega) (by omega) (by omega)
  have e01 := b (a := x0) (b := y1) (by omega) (by omega) (by omega) (by omega)
  have e11 := b (a := x1) (b := y1) (by omega) (by omega) (by omega) (by omega)
  have ex : x = x1 * 4294967296 + x0 := by omega
  have ey : y = y1 * 4294967296 + y0 := by omega
  have exy : x * y = x1 * y1 * 18446744073709551616 + (x1 * y0 + x0 * y1) * 4294967296 + x0 * y0 := by
    rw [ex, ey]
    grind
  rw [exy]
  generalize x0 * y0 = p00 at *
  generalize x1 * y0 = p10 at *
  generalize x0 * y1 = p01 at *
  generalize x1 * y1 = p11 at *
  clear exy ex ey h1 h2 h3 h4
  omega

/-! ### how long a word is -/
def blen (x : Int) : Int := if x ≤ 0 then 0 else (Nat.log2 x.toNat : Int) + 1

theorem blen_iff {x : Int} (hx : 0 < x) (n : Nat) : blen x = (n : Int) + 1 ↔ (2 : Int) ^ n ≤ x ∧ x < 2 ^ (n + 1) := by
  unfold blen
  rw [if_neg (by omega)]
  have h := Nat.log2_eq_iff (n := x.toNat) (k := n) (by omega)
  have e1 : ((2 ^ n : Nat) : Int) = (2 : Int) ^ n := by push_cast; rfl
  have e2 : ((2 ^ (n + 1) : Nat) : Int) = (2 : Int) ^ (n + 1) := by push_cast; rfl
  rw [← e1, ← e2]
  constructor
  · intro h1
    have := h.1 (by omega)
    omega
  · rintro ⟨h1, h2⟩
    have := h.2 ⟨by omega, by omega⟩
    omega

theorem blen_pos {x : Int} (hx : 0 < x) : ∃ n : Nat, blen x = (n : Int) + 1 ∧ (2 : Int) ^ n ≤ x ∧ x < 2 ^ (n + 1) := by
  refine ⟨Nat.log2 x.toNat, ?_, ?_⟩
  · unfold blen; rw [if_neg (by omega)]
  · exact (blen_iff hx _).1 (by unfold blen; rw [if_neg (by omega)])

theorem blen_div {x : Int} (k : Nat) (h : (2 : Int) ^ k ≤ x) : blen (x / 2 ^ k) = blen x - k := by
  have hk : (0 : Int) < 2 ^ k := Int.pow_pos (by omega)
  obtain ⟨n, h1, h2, h3⟩ := blen_pos (x := x) (by omega)
  have hkn : k ≤ n := by
    rcases Nat.lt_or_ge n k with h4 | h4
    · exfalso
      have : (2 : Int) ^ (n + 1) ≤ 2 ^ k := by
        have := Nat.pow_le_pow_right (n := 2) (by omega) h4
        exact_mod_cast this
      omega
    · exact h4
  have hq : 0 < x / 2 ^ k := by
    have := Int.le_ediv_of_mul_le hk (show 1 * 2 ^ k ≤ x by omega)
    omega
  have : blen (x / 2 ^ k) = ((n - k : Nat) : Int) + 1 := by
    rw [blen_iff hq]
    have e1 : (2 : Int) ^ n = 2 ^ (n - k) * 2 ^ k := by rw [← Int.pow_add]; congr 1; omega
    have e2 : (2 : Int) ^ (n + 1) = 2 ^ (n - k + 1) * 2 ^ k := by rw [← Int.pow_add]; congr 1; omega
    constructor
    · exact (Int.le_ediv_iff_mul_le hk).2 (by rw [← e1]; exact h2)
    · exact (Int.ediv_lt_iff_lt_mul hk).2 (by rw [← e2]; exact h3)
  omega

theorem blen_le {x : Int} (k : Nat) (h : x < 2 ^ k) : blen x ≤ k := by
  by_cases hx : x ≤ 0
  · unfold blen; rw [if_pos hx]; omega
  · obtain ⟨n, h1, h2, h3⟩ := blen_pos (x := x) (by omega)
    have : n < k := by
      rcases Nat.lt_or_ge n k with h4 | h4
      · exact h4
      · exfalso
        have : (2 : Int) ^ k ≤ 2 ^ n := by
          have := Nat.pow_le_pow_right (n := 2) (by omega) h4
          exact_mod_cast this
        omega
    omega
theorem blen_nonneg (x : Int) : 0 ≤ blen x := by
  unfold blen; split <;> omega

theorem len8_all : (List.range 256).all (fun i => (([0, 1, 2, 2, 3, 3, 3, 3, 4, 4, 4, 4, 4, 4, 4, 4, 5, 5, 5, 5, 5, 5, 5, 5, 5, 5, 5, 5, 5, 5, 5, 5, 6, 6, 6, 6, 6, 6, 6, 6, 6, 6, 6, 6, 6, 6, 6, 6, 6, 6, 6, 6, 6, 6, 6, 6, 6, 6, 6, 6, 6, 6, 6, 6, 7, 7, 7, 7, 7, 7, 7, 7, 7, 7, 7, 7, 7, 7, 7, 7, 7, 7, 7, 7, 7, 7, 7, 7, 7, 7, 7, 7, 7, 7, 7, 7, 7, 7, 7, 7, 7, 7, 7, 7, 7, 7, 7, 7, 7, 7, 7, 7, 7, 7, 7, 7, 7, 7, 7, 7, 7, 7, 7, 7, 7, 7, 7, 7, 8, 8, 8, 8, 8, 8, 8, 8, 8, 8, 8, 8, 8, 8, 8, 8, 8, 8, 8, 8, 8, 8, 8, 8, 8, 8, 8, 8, 8, 8, 8, 8, 8, 8, 8, 8, 8, 8, 8, 8, 8, 8, 8, 8, 8, 8, 8, 8, 8, 8, 8, 8, 8, 8, 8, 8, 8, 8, 8, 8, 8, 8, 8, 8, 8, 8, 8, 8, 8, 8, 8, 8, 8, 8, 8, 8, 8, 8, 8, 8, 8, 8, 8, 8, 8, 8, 8, 8, 8, 8, 8, 8, 8, 8, 8, 8, 8, 8, 8, 8, 8, 8, 8, 8, 8, 8, 8, 8, 8, 8, 8, 8, 8, 8, 8, 8, 8, 8, 8, 8, 8, 8, 8, 8, 8, 8, 8, 8] : List UInt8).getD i 0).toNat == (blen i).toNat) = true := by decide +kernel
theorem len8_at (i : Int) (h0 : 0 ≤ i) (h1 : i < 256) : (((([0, 1, 2, 2, 3, 3, 3, 3, 4, 4, 4, 4, 4, 4, 4, 4, 5, 5, 5, 5, 5, 5, 5, 5, 5, 5, 5, 5, 5, 5, 5, 5, 6, 6, 6, 6, 6, 6, 6, 6, 6, 6, 6, 6, 6, 6, 6, 6, 6, 6, 6, 6, 6, 6, 6, 6, 6, 6, 6, 6, 6, 6, 6, 6, 7, 7, 7, 7, 7, 7, 7, 7, 7, 7, 7, 7, 7, 7, 7, 7, 7, 7, 7, 7, 7, 7, 7, 7, 7, 7, 7, 7, 7, 7, 7, 7, 7, 7, 7, 7, 7, 7, 7, 7, 7, 7, 7, 7, 7, 7, 7, 7, 7, 7, 7, 7, 7, 7, 7, 7, 7, 7, 7, 7, 7, 7, 7, 7, 8, 8, 8, 8, 8, 8, 8, 8, 8, 8, 8, 8, 8, 8, 8, 8, 8, 8, 8, 8, 8, 8, 8, 8, 8, 8, 8, 8, 8, 8, 8, 8, 8, 8, 8, 8, 8, 8, 8, 8, 8, 8, 8, 8, 8, 8, 8, 8, 8, 8, 8, 8, 8, 8, 8, 8, 8, 8, 8, 8, 8, 8, 8, 8, 8, 8, 8, 8, 8, 8, 8, 8, 8, 8, 8, 8, 8, 8, 8, 8, 8, 8, 8, 8, 8, 8, 8, 8, 8, 8, 8, 8, 8, 8, 8, 8, 8, 8, 8, 8, 8, 8, 8, 8, 8, 8, 8, 8, 8, 8, 8, 8, 8, 8, 8, 8, 8, 8, 8, 8, 8, 8, 8, 8, 8, 8, 8, 8] : List UInt8).getD i.toNat 0).toNat : Nat) : Int) = blen i := by
  have := List.all_eq_true.1 len8_all i.toNat (List.mem_range.2 (by omega))
  have h2 := blen_nonneg i
  rw [beq_iff_eq] at this
  rw [this, Int.toNat_of_nonneg h0]
  omega

theorem getD_lit (l : List UInt8) (n : Nat) : (⟨⟨l⟩⟩ : ByteArray).data.getD n 0 = l.getD n 0 := by
  simp only [Array.getD_eq_getD_getElem?, List.getElem?_toArray, List.getD_eq_getElem?_getD]

theorem len8_str {L : ByteArray} (h : (⟨⟨[0, 1, 2, 2, 3, 3, 3, 3, 4, 4, 4, 4, 4, 4, 4, 4, 5, 5, 5, 5, 5, 5, 5, 5, 5, 5, 5, 5, 5, 5, 5, 5, 6, 6, 6, 6, 6, 6, 6, 6, 6, 6, 6, 6, 6, 6, 6, 6, 6, 6, 6, 6, 6, 6, 6, 6, 6, 6, 6, 6, 6, 6, 6, 6, 7, 7, 7, 7, 7, 7, 7, 7, 7, 7, 7, 7, 7, 7, 7, 7, 7, 7, 7, 7, 7, 7, 7, 7, 7, 7, 7, 7, 7, 7, 7, 7, 7, 7, 7, 7, 7, 7, 7, 7, 7, 7, 7, 7, 7, 7, 7, 7, 7, 7, 7, 7, 7, 7, 7, 7, 7, 7, 7, 7, 7, 7, 7, 7, 8, 8, 8, 8, 8, 8, 8, 8, 8, 8, 8, 8, 8, 8, 8, 8, 8, 8, 8, 8, 8, 8, 8, 8, 8, 8, 8, 8, 8, 8, 8, 8, 8, 8, 8, 8, 8, 8, 8, 8, 8, 8, 8, 8, 8, 8, 8, 8, 8, 8, 8, 8, 8, 8, 8, 8, 8, 8, 8, 8, 8, 8, 8, 8, 8, 8, 8, 8, 8, 8, 8, 8, 8, 8, 8, 8, 8, 8, 8, 8, 8, 8, 8, 8, 8, 8, 8, 8, 8, 8, 8, 8, 8, 8, 8, 8, 8, 8, 8, 8, 8, 8, 8, 8, 8, 8, 8, 8, 8, 8, 8, 8, 8, 8, 8, 8, 8, 8, 8, 8, 8, 8, 8, 8, 8, 8, 8, 8]⟩⟩ : ByteArray) = L) : L.size = 256 ∧ ∀ i : Int, 0 ≤ i → i < 256 → (((L.data.getD (i % 256).toNat 0).toNat : Nat) : Int) = blen i := by
  subst h
  refine ⟨by decide +kernel, fun i h0 h1 => ?_⟩
  rw [Int.emod_eq_of_lt h0 h1, ← len8_at i h0 h1, getD_lit]

theorem len32 {x y : Int} (h : 4294967296 ≤ x) (hy : y = x / 4294967296) : blen y = blen x - 32 := by subst hy; exact blen_div 32 h
theorem len16 {x y : Int} (h : 65536 ≤ x) (hy : y = x / 65536) : blen y = blen x - 16 := by subst hy; exact blen_div 16 h
theorem len8 {x y : Int} (h : 256 ≤ x) (hy : y = x / 256) : blen y = blen x - 8 := by subst hy; exact blen_div 8 h
end Go.Proofs.Ytaiillbjhdoikaa.Ev

/- Limbs of 32 bits, the lowest first, and the natural numbers that they are: plain Lean. -/
namespace Go.Proofs.Ytaiillbjhdoikaa.Ev
open Go

/-- what limbs come to -/
def lv : List Int → Nat
  | [] => 0
  | x :: r => x.toNat + 4294967296 * lv r

/-- each of them one of 32 bits -/
def Lb (a : List Int) : Prop := ∀ x ∈ a, 0 ≤ x ∧ x < 4294967296

def limF : Nat → Nat → List Int
  | 0, _ => []
  | f + 1, n => if n = 0 then [] else ((n % 4294967296 : Nat) : Int) :: limF f (n / 4294967296)
/-- a number's limbs, none too many -/
def lim (n : Nat) : List Int := limF (n.log2 + 1) n

/-- no nought at the end -/
def Cn : List Int → Prop
  | [] => True
  | x :: r => (0 ≤ x ∧ x < 4294967296) ∧ Cn r ∧ (r = [] → x ≠ 0)

theorem Cn.lb : ∀ {a : List Int}, Cn a → Lb a
  | [], _, x, hx => by cases hx
  | y :: r, h, x, hx => by
    rcases List.mem_cons.1 hx with rfl | hx
    · exact h.1
    · exact Cn.lb h.2.1 x hx

theorem Lb.tail {x : Int} {r : List Int} (h : Lb (x :: r)) : Lb r := fun y hy => h y (List.mem_cons_of_mem _ hy)
theorem Lb.head {x : Int} {r : List Int} (h : Lb (x :: r)) : 0 ≤ x ∧ x < 4294967296 := h x (List.mem_cons_self ..)
theorem Lb.nil : Lb [] := fun x hx => by cases hx
theorem Lb.cons {x : Int} {r : List Int} (h0 : 0 ≤ x) (h1 : x < 4294967296) (h : Lb r) : Lb (x :: r) := by
  intro y hy
  rcases List.mem_cons.1 hy with rfl | hy
  · exact ⟨h0, h1⟩
  · exact h y hy
theorem Lb.take {a : List Int} (h : Lb a) (n : Nat) : Lb (a.take n) := fun x hx => h x (List.mem_of_mem_take hx)
theorem Lb.drop {a : List Int} (h : Lb a) (n : Nat) : Lb (a.drop n) := fun x hx => h x (List.mem_of_mem_drop hx)
theorem Lb.set {a : List Int} (h : Lb a) (n : Nat) {v : Int} (h0 : 0 ≤ v) (h1 : v < 4294967296) : Lb (a.set n v) := by
  intro x hx
  rcases List.mem_or_eq_of_mem_set hx with hx | rfl
  · exact h x hx
  · exact ⟨h0, h1⟩
theorem Lb.append {a b : List Int} (h : Lb a) (k : Lb b) : Lb (a ++ b) := by
  intro x hx
  rcases List.mem_append.1 hx with hx | hx
  · exact h x hx
  · exact k x hx
theorem Lb.replicate (n : Nat) : Lb (List.replicate n 0) := by
  intro x hx
  have := List.eq_of_mem_replicate hx
  omega
theorem Lb.getD {a : List Int} (h : Lb a) (i : Nat) : 0 ≤ a.getD i 0 ∧ a.getD i 0 < 4294967296 := by
  rcases Nat.lt_or_ge i a.length with hi | hi
  · have : a.getD i 0 = a[i] := by simp [List.getD, List.getElem?_eq_getElem hi]
    rw [this]
    exact h _ (List.getElem_mem hi)
  · have : a.getD i 0 = 0 := by simp [List.getD, List.getElem?_eq_none hi]
    omega

theorem limF_spec : ∀ (f n : Nat), n < 4294967296 ^ f → lv (limF f n) = n ∧ Cn (limF f n)
  | 0, n, h => by
    have : n = 0 := by simpa using h
    subst this
    exact ⟨rfl, trivial⟩
  | f + 1, n, h => by
    simp only [limF]
    by_cases hn : n = 0
    · subst hn; exact ⟨rfl, trivial⟩
    · rw [if_neg hn]
      have hd : n / 4294967296 < 4294967296 ^ f := by
        rw [Nat.pow_succ] at h
        exact Nat.div_lt_of_lt_mul (by rw [Nat.mul_comm]; exact h)
      obtain ⟨h1, h2⟩ := limF_spec f (n / 4294967296) hd
      refine ⟨?_, ⟨?_, ?_⟩, h2, ?_⟩
      · simp only [lv, h1]
        rw [Int.toNat_natCast]
        omega
      · omega
      · omega
      · intro he
        rw [he] at h1
        simp only [lv] at h1
        omega

theorem lt_pow_log (n : Nat) : n < 4294967296 ^ (n.log2 + 1) := by
  rcases Nat.eq_zero_or_pos n with h | h
  · subst h; decide
  · have h1 : n < 2 ^ (n.log2 + 1) := Nat.lt_log2_self
    have h2 : 2 ^ (n.log2 + 1) ≤ 4294967296 ^ (n.log2 + 1) := Nat.pow_le_pow_left (by omega) _
    omega

theorem lv_lim (n : Nat) : lv (lim n) = n := (limF_spec _ n (lt_pow_log n)).1
theorem lim_cn (n : Nat) : Cn (lim n) := (limF_spec _ n (lt_pow_log n)).2
theorem lim_lb (n : Nat) : Lb (lim n) := (lim_cn n).lb

theorem Cn.pos : ∀ {a : List Int}, Cn a → a ≠ [] → 0 < lv a
  | [], _, h => absurd rfl h
  | x :: r, h, _ => by
    obtain ⟨h1, h2, h3⟩ := h
    simp only [lv]
    by_cases hr : r = []
    · have := h3 hr
      omega
    · have := Cn.pos h2 hr
      omega

theorem Cn.inj : ∀ {a b : List Int}, Cn a → Cn b → lv a = lv b → a = b
  | [], b, _, hb, h => by
    by_cases e : b = []
    · exact e.symm
    · have := hb.pos e
      simp only [lv] at h
      omega
  | x :: r, [], ha, _, h => by
    have := ha.pos (by simp)
    simp only [lv] at h this
    omega
  | x :: r, y :: s, ha, hb, h => by
    obtain ⟨h1, h2, _⟩ := ha
    obtain ⟨k1, k2, _⟩ := hb
    simp only [lv] at h
    have e1 : x = y := by omega
    have e2 : lv r = lv s := by omega
    rw [e1, Cn.inj h2 k2 e2]

theorem Cn.eq_lim {a : List Int} (h : Cn a) : a = lim (lv a) := h.inj (lim_cn _) (lv_lim _).symm
theorem lim_inj {m n : Nat} (h : lim m = lim n) : m = n := by rw [← lv_lim m, h, lv_lim]
theorem lim_zero : lim 0 = [] := rfl
theorem lim_eq_nil {n : Nat} : lim n = [] ↔ n = 0 := by
  constructor
  · intro h
    have := lv_lim n
    rw [h] at this
    exact this.symm
  · rintro rfl; rfl

theorem Cn.of_last : ∀ {a : List Int}, Lb a → (a ≠ [] → a.getD (a.length - 1) 0 ≠ 0) → Cn a
  | [], _, _ => trivial
  | [x], h, k => ⟨h.head, trivial, fun _ => by simpa using k (by simp)⟩
  | x :: y :: r, h, k => by
    refine ⟨h.head, Cn.of_last h.tail (fun _ => ?_), fun e => by cases e⟩
    have := k (by simp)
    simpa using this

theorem Cn.last : ∀ {a : List Int}, Cn a → a ≠ [] → a.getD (a.length - 1) 0 ≠ 0
  | [], _, h => absurd rfl h
  | [x], h, _ => by simpa using h.2.2 rfl
  | x :: y :: r, h, _ => by
    have := Cn.last h.2.1 (by simp)
    simpa using this

theorem lv_append : ∀ (a b : List Int), lv (a ++ b) = lv a + 4294967296 ^ a.length * lv b
  | [], b => by simp [lv]
  | x :: r, b => by
    simp only [List.cons_append, lv, lv_append r b, List.length_cons, Nat.pow_succ]
    grind

theorem lv_lt : ∀ {a : List Int}, Lb a → lv a < 4294967296 ^ a.length
  | [], _ => by simp [lv]
  | x :: r, h => by
    have h1 := h.head
    have h2 := lv_lt h.tail
    simp only [lv, List.length_cons, Nat.pow_succ]
    have : x.toNat < 4294967296 := by omega
    omega

theorem lv_replicate (n : Nat) : lv (List.replicate n 0) = 0 := by
  induction n with
  | zero => rfl
  | succ n ih => simp only [List.replicate_succ, lv, ih]; rfl

theorem lv_take_succ {a : List Int} {i : Nat} (h : i < a.length) : lv (a.take (i + 1)) = lv (a.take i) + 4294967296 ^ i * (a.getD i 0).toNat := by
  have e : a.take (i + 1) = a.take i ++ [a.getD i 0] := by
    rw [List.take_add_one, List.getElem?_eq_getElem h]
    simp [List.getD, List.getElem?_eq_getElem h]
  rw [e, lv_append]
  have : (a.take i).length = i := by simp; omega
  rw [this]
  simp [lv]

theorem lv_take_next (a : List Int) (i : Nat) : lv (a.take (i + 1)) = lv (a.take i) + 4294967296 ^ i * (a.getD i 0).toNat := by
  rcases Nat.lt_or_ge i a.length with h | h
  · exact lv_take_succ h
  · rw [List.take_of_length_le (by omega), List.take_of_length_le h]
    simp [List.getD, List.getElem?_eq_none h]

theorem lv_take_drop (a : List Int) (i : Nat) (h : i ≤ a.length) : lv a = lv (a.take i) + 4294967296 ^ i * lv (a.drop i) := by
  have e := lv_append (a.take i) (a.drop i)
  rw [List.take_append_drop] at e
  rw [e]
  have : (a.take i).length = i := by simp; omega
  rw [this]

theorem lv_set : ∀ {l : List Int} {i : Nat} (v : Int), i < l.length → lv (l.set i v) + 4294967296 ^ i * (l.getD i 0).toNat = lv l + 4294967296 ^ i * v.toNat
  | [], i, _, h => by simp at h
  | x :: r, 0, v, _ => by simp [lv]; omega
  | x :: r, i + 1, v, h => by
    have ih := lv_set (l := r) (i := i) v (by simpa using h)
    simp only [List.set_cons_succ, lv, List.getD_cons_succ, Nat.pow_succ]
    grind

theorem lv_take_lt {a : List Int} (h : Lb a) (i : Nat) (hi : i ≤ a.length) : lv (a.take i) < 4294967296 ^ i := by
  have := lv_lt (h.take i)
  have e : (a.take i).length = i := by simp; omega
  rwa [e] at this

theorem lv_take_all (a : List Int) : lv (a.take a.length) = lv a := by rw [List.take_length]

theorem getD_take {a : List Int} {i k : Nat} (h : i < k) : (a.take k).getD i 0 = a.getD i 0 := by
  simp only [List.getD_eq_getElem?_getD, List.getElem?_take, if_pos h]
theorem getD_drop {a : List Int} {i k : Nat} : (a.drop k).getD i 0 = a.getD (k + i) 0 := by
  simp only [List.getD_eq_getElem?_getD, List.getElem?_drop]
theorem getD_set_ne {a : List Int} {i k : Nat} {v : Int} (h : i ≠ k) : (a.set i v).getD k 0 = a.getD k 0 := by
  simp only [List.getD_eq_getElem?_getD, List.getElem?_set_ne h]
theorem getD_set_self {a : List Int} {i : Nat} {v : Int} (h : i < a.length) : (a.set i v).getD i 0 = v := by
  simp [List.getD_eq_getElem?_getD, List.getElem?_set_self h]
theorem getD_replicate0 (n i : Nat) : (List.replicate n (0 : Int)).getD i 0 = 0 := by
  simp only [List.getD_eq_getElem?_getD, List.getElem?_replicate]
  split <;> rfl

/-- Noughts at the end count nothing. -/
theorem lv_cut_step {a : List Int} {k : Nat} (hk : 0 < k) (hl : k ≤ a.length) (h0 : a.getD (k - 1) 0 = 0) : lv (a.take (k - 1)) = lv (a.take k) := by
  obtain ⟨j, rfl⟩ : ∃ j, k = j + 1 := ⟨k - 1, by omega⟩
  have := lv_take_succ (a := a) (i := j) (by omega)
  rw [show j + 1 - 1 = j by omega] at h0 ⊢
  rw [this, h0]
  simp
theorem cut_end {a : List Int} (h : Lb a) {k : Nat} (hl : k ≤ a.length) (h0 : k = 0 ∨ a.getD (k - 1) 0 ≠ 0) (hv : lv (a.take k) = lv a) : a.take k = lim (lv a) := by
  rw [← hv]
  refine (Cn.of_last (h.take k) (fun hne => ?_)).eq_lim
  have e : (a.take k).length = k := by simp; omega
  rw [e]
  rcases h0 with rfl | h0
  · simp at hne
  · rcases Nat.eq_zero_or_pos k with rfl | hk
    · simp at hne
    · rw [getD_take (by omega)]; exact h0

/-! ### how long -/
theorem lim_length_le {n k : Nat} (h : n < 4294967296 ^ k) : (lim n).length ≤ k := by
  rcases Nat.lt_or_ge k (lim n).length with hlt | hge
  · exfalso
    have hne : lim n ≠ [] := by intro e; rw [e] at hlt; simp at hlt
    have h1 := (lim_cn n).last hne
    have h2 := lv_take_drop (lim n) ((lim n).length - 1) (by omega)
    rw [lv_lim] at h2
    have h3 : lv ((lim n).drop ((lim n).length - 1)) ≠ 0 := by
      have e : (lim n).drop ((lim n).length - 1) = [(lim n).getD ((lim n).length - 1) 0] := by
        rw [List.drop_eq_getElem_cons (by omega)]
        rw [List.drop_eq_nil_of_le (by omega)]
        simp [List.getD, List.getElem?_eq_getElem (show (lim n).length - 1 < (lim n).length by omega)]
      rw [e]
      simp only [lv]
      have := (lim_lb n).getD ((lim n).length - 1)
      omega
    have h4 : 4294967296 ^ k ≤ 4294967296 ^ ((lim n).length - 1) := Nat.pow_le_pow_right (by omega) (by omega)
    have h5 : 4294967296 ^ ((lim n).length - 1) * 1 ≤ 4294967296 ^ ((lim n).length - 1) * lv ((lim n).drop ((lim n).length - 1)) := Nat.mul_le_mul_left _ (by omega)
    omega
  · exact hge

theorem lim_length_lt {n k : Nat} (h : 4294967296 ^ k ≤ n) : k < (lim n).length := by
  rcases Nat.lt_or_ge k (lim n).length with hlt | hge
  · exact hlt
  · exfalso
    have h1 := lv_lt (lim_lb n)
    rw [lv_lim] at h1
    have h2 : 4294967296 ^ (lim n).length ≤ 4294967296 ^ k := Nat.pow_le_pow_right (by omega) hge
    omega

/-- Which of two is less: by their lengths, and then by the limb that parts them. -/
theorem lim_len_lt {m n : Nat} (h : (lim m).length < (lim n).length) : m < n := by
  have h1 := lv_lt (lim_lb m)
  rw [lv_lim] at h1
  rcases Nat.lt_or_ge m n with h2 | h2
  · exact h2
  · exfalso
    have : (lim n).length ≤ (lim m).length := lim_length_le (by omega)
    omega

theorem cmp_step {a b : List Int} (ha : Lb a) (hb : Lb b) {k : Nat} (hl : a.length = b.length) (hk : k < a.length) (he : a.drop (k + 1) = b.drop (k + 1)) (h : a.getD k 0 < b.getD k 0) : lv a < lv b := by
  have e1 := lv_take_drop a (k + 1) (by omega)
  have e2 := lv_take_drop b (k + 1) (by omega)
  rw [lv_take_succ hk] at e1
  rw [lv_take_succ (by omega)] at e2
  rw [he] at e1
  have h1 := lv_take_lt ha k (by omega)
  have h2 := ha.getD k
  have h3 := hb.getD k
  have h4 : 4294967296 ^ k * ((a.getD k 0).toNat + 1) ≤ 4294967296 ^ k * (b.getD k 0).toNat := Nat.mul_le_mul_left _ (by omega)
  rw [Nat.mul_add] at h4
  omega
theorem drop_step {a b : List Int} {k : Nat} (hl : a.length = b.length) (hk : k < a.length) (he : a.drop (k + 1) = b.drop (k + 1)) (h : a.getD k 0 = b.getD k 0) : a.drop k = b.drop k := by
  rw [List.drop_eq_getElem_cons hk, List.drop_eq_getElem_cons (show k < b.length by omega), he]
  congr 1
  simpa [List.getD, List.getElem?_eq_getElem hk, List.getElem?_eq_getElem (show k < b.length by omega)] using h
end Go.Proofs.Ytaiillbjhdoikaa.Ev

/- Sums, differences and products of limbs, limb by limb: plain Lean. -/
namespace Go.Proofs.Ytaiillbjhdoikaa.Ev
open Go

/-! ### the sum -/
structure AddInv (a b out : List Int) (i : Nat) (c : Int) : Prop where
  len : out.length = a.length + 1
  lb : Lb out
  zero : ∀ j, i ≤ j → out.getD j 0 = 0
  c0 : 0 ≤ c
  c1 : c ≤ 1
  val : lv out + 4294967296 ^ i * c.toNat = lv (a.take i) + lv (b.take i)

theorem AddInv.start (a b : List Int) : AddInv a b (List.replicate (a.length + 1) 0) 0 0 :=
  ⟨by simp, Lb.replicate _, fun j _ => getD_replicate0 _ _, by omega, by omega, by rw [lv_replicate]; simp [lv]⟩

theorem AddInv.step {a b out : List Int} {i : Nat} {c : Int} (ha : Lb a) (hb : Lb b) (h : AddInv a b out i c) (hi : i < a.length) :
    AddInv a b (out.set i ((a.getD i 0 + b.getD i 0 + c) % 4294967296)) (i + 1) ((a.getD i 0 + b.getD i 0 + c) / 4294967296) := by
  obtain ⟨h1, h2, h3, h4, h5, h6⟩ := h
  have hx := ha.getD i
  have hy := hb.getD i
  have e1 := lv_take_next a i
  have e2 := lv_take_next b i
  have e3 := lv_set (l := out) (i := i) ((a.getD i 0 + b.getD i 0 + c) % 4294967296) (by omega)
  rw [h3 i (Nat.le_refl i)] at e3
  generalize a.getD i 0 = x at *
  generalize b.getD i 0 = y at *
  refine ⟨by simp [h1], h2.set _ (by omega) (by omega), fun j hj => ?_, by omega, by omega, ?_⟩
  · rw [getD_set_ne (by omega)]; exact h3 j (by omega)
  · rw [e1, e2]
    have e4 : ((x + y + c) % 4294967296).toNat + 4294967296 * ((x + y + c) / 4294967296).toNat = x.toNat + y.toNat + c.toNat := by omega
    have e5 := congrArg (4294967296 ^ i * ·) e4
    simp only [Nat.mul_add] at e5
    rw [Nat.pow_succ, Nat.mul_assoc]
    simp only [Int.toNat_zero, Nat.mul_zero] at e3
    omega

theorem AddInv.stop {a b out : List Int} {c : Int} (hl : b.length ≤ a.length) (h : AddInv a b out a.length c) :
    Lb (out.set a.length c) ∧ lv (out.set a.length c) = lv a + lv b := by
  obtain ⟨h1, h2, h3, h4, h5, h6⟩ := h
  refine ⟨h2.set _ h4 (by omega), ?_⟩
  have e3 := lv_set (l := out) (i := a.length) c (by omega)
  rw [h3 _ (Nat.le_refl _)] at e3
  rw [lv_take_all, List.take_of_length_le hl] at h6
  simp only [Int.toNat_zero, Nat.mul_zero] at e3
  omega

/-! ### the difference -/
structure SubInv (a b out : List Int) (i : Nat) (c : Int) : Prop where
  len : out.length = a.length
  lb : Lb out
  zero : ∀ j, i ≤ j → out.getD j 0 = 0
  c0 : 0 ≤ c
  c1 : c ≤ 1
  val : lv out + lv (b.take i) = lv (a.take i) + 4294967296 ^ i * c.toNat

theorem SubInv.start (a b : List Int) : SubInv a b (List.replicate a.length 0) 0 0 :=
  ⟨by simp, Lb.replicate _, fun j _ => getD_replicate0 _ _, by omega, by omega, by rw [lv_replicate]; simp [lv]⟩

theorem SubInv.step {a b out : List Int} {i : Nat} {c : Int} (ha : Lb a) (hb : Lb b) (h : SubInv a b out i c) (hi : i < a.length) :
    SubInv a b (out.set i ((a.getD i 0 - b.getD i 0 - c) % 4294967296)) (i + 1) (if a.getD i 0 < b.getD i 0 + c then 1 else 0) := by
  obtain ⟨h1, h2, h3, h4, h5, h6⟩ := h
  have hx := ha.getD i
  have hy := hb.getD i
  have e1 := lv_take_next a i
  have e2 := lv_take_next b i
  have e3 := lv_set (l := out) (i := i) ((a.getD i 0 - b.getD i 0 - c) % 4294967296) (by omega)
  rw [h3 i (Nat.le_refl i)] at e3
  generalize a.getD i 0 = x at *
  generalize b.getD i 0 = y at *
  refine ⟨by simp [h1], h2.set _ (by omega) (by omega), fun j hj => ?_, by split <;> omega, by split <;> omega, ?_⟩
  · rw [getD_set_ne (by omega)]; exact h3 j (by omega)
  · rw [e1, e2]
    have e4 : ((x - y - c) % 4294967296).toNat + y.toNat + c.toNat = x.toNat + 4294967296 * (if x < y + c then 1 else 0 : Int).toNat := by split <;> omega
    have e5 := congrArg (4294967296 ^ i * ·) e4
    simp only [Nat.mul_add] at e5
    rw [Nat.pow_succ, Nat.mul_assoc]
    simp only [Int.toNat_zero, Nat.mul_zero] at e3
    omega

theorem SubInv.stop {a b out : List Int} {c : Int} (ha : Lb a) (hle : lv b ≤ lv a) (hl : b.length ≤ a.length) (h : SubInv a b out a.length c) : lv out = lv a - lv b := by
  obtain ⟨h1, h2, h3, h4, h5, h6⟩ := h
  rw [lv_take_all, List.take_of_length_le hl] at h6
  have := lv_lt h2
  rw [h1] at this
  rcases (show c = 0 ∨ c = 1 by omega) with rfl | rfl
  · simp at h6; omega
  · simp at h6; omega

/-! ### the product -/
structure MulInv (a b out : List Int) (i k : Nat) (c : Int) : Prop where
  len : out.length = a.length + b.length
  lb : Lb out
  zero : ∀ j, i + b.length ≤ j → out.getD j 0 = 0
  c0 : 0 ≤ c
  c1 : c < 4294967296
  val : lv out + 4294967296 ^ (i + k) * c.toNat = lv (a.take i) * lv b + 4294967296 ^ i * ((a.getD i 0).toNat * lv (b.take k))

theorem MulInv.start (a b : List Int) : MulInv a b (List.replicate (a.length + b.length) 0) 0 0 0 :=
  ⟨by simp, Lb.replicate _, fun j _ => getD_replicate0 _ _, by omega, by omega, by rw [lv_replicate]; simp [lv]⟩

theorem mul_digit {x y z c : Int} (hx : 0 ≤ x ∧ x < 4294967296) (hy : 0 ≤ y ∧ y < 4294967296) (hz : 0 ≤ z ∧ z < 4294967296) (hc : 0 ≤ c ∧ c < 4294967296) :
    0 ≤ x * y ∧ x * y + z + c < 18446744073709551616 := by
  have h0 : 0 ≤ x * y := Int.mul_nonneg hx.1 hy.1
  have h1 : x * y ≤ 4294967295 * 4294967295 := Int.mul_le_mul (by omega) (by omega) hy.1 (by omega)
  omega

set_option maxHeartbeats 1000000 in
theorem MulInv.step {a b out : List Int} {i k : Nat} {c : Int} (ha : Lb a) (hb : Lb b) (h : MulInv a b out i k c) (hi : i < a.length) (hk : k < b.length) :
    MulInv a b (out.set (i + k) ((a.getD i 0 * b.getD k 0 + out.getD (i + k) 0 + c) % 4294967296)) i (k + 1) ((a.getD i 0 * b.getD k 0 + out.getD (i + k) 0 + c) / 4294967296) := by
  obtain ⟨h1, h2, h3, h4, h5, h6⟩ := h
  have hx := ha.getD i
  have hy := hb.getD k
  have hz := h2.getD (i + k)
  have e2 := lv_take_next b k
  have e3 := lv_set (l := out) (i := i + k) ((a.getD i 0 * b.getD k 0 + out.getD (i + k) 0 + c) % 4294967296) (by omega)
  generalize hxe : a.getD i 0 = x at *
  generalize b.getD k 0 = y at *
  generalize out.getD (i + k) 0 = z at *
  have hm := mul_digit hx hy hz ⟨h4, h5⟩
  have hxy : (x * y).toNat = x.toNat * y.toNat := by
    rw [Int.toNat_mul hx.1 hy.1]
  refine ⟨by simp [h1], h2.set _ (by omega) (by omega), fun j hj => ?_, by omega, by omega, ?_⟩
  · rw [getD_set_ne (by omega)]; exact h3 j hj
  · rw [e2, hxe]
    have e4 : ((x * y + z + c) % 4294967296).toNat + 4294967296 * ((x * y + z + c) / 4294967296).toNat = x.toNat * y.toNat + z.toNat + c.toNat := by omega
    have e5 := congrArg (4294967296 ^ (i + k) * ·) e4
    simp only [Nat.mul_add] at e5
    have e6 : 4294967296 ^ (i + (k + 1)) * ((x * y + z + c) / 4294967296).toNat = 4294967296 ^ (i + k) * (4294967296 * ((x * y + z + c) / 4294967296).toNat) := by
      rw [← Nat.add_assoc, Nat.pow_succ, Nat.mul_assoc]
    have e7 : 4294967296 ^ i * (x.toNat * (lv (b.take k) + 4294967296 ^ k * y.toNat)) = 4294967296 ^ i * (x.toNat * lv (b.take k)) + 4294967296 ^ (i + k) * (x.toNat * y.toNat) := by
      rw [Nat.pow_add]
      grind
    rw [e6, e7]
    omega

theorem MulInv.next {a b out : List Int} {i : Nat} {c : Int} (h : MulInv a b out i b.length c) (hi : i < a.length) : MulInv a b (out.set (i + b.length) c) (i + 1) 0 0 := by
  obtain ⟨h1, h2, h3, h4, h5, h6⟩ := h
  have e3 := lv_set (l := out) (i := i + b.length) c (by omega)
  rw [h3 _ (Nat.le_refl _)] at e3
  refine ⟨by simp [h1], h2.set _ h4 h5, fun j hj => ?_, by omega, by omega, ?_⟩
  · rw [getD_set_ne (by omega)]; exact h3 j (by omega)
  · rw [lv_take_all] at h6
    rw [lv_take_next a i, Nat.add_mul]
    simp only [Int.toNat_zero, Nat.mul_zero, List.take_zero, lv] at e3 ⊢
    rw [Nat.mul_assoc]
    omega

theorem MulInv.stop {a b out : List Int} (h : MulInv a b out a.length 0 0) : lv out = lv a * lv b := by
  have := h.val
  rw [lv_take_all] at this
  simpa [lv] using this
end Go.Proofs.Ytaiillbjhdoikaa.Ev

/- Limbs moved by bits, how many bits there are, and the quotient by one limb: plain Lean. -/
namespace Go.Proofs.Ytaiillbjhdoikaa.Ev
open Go

theorem or_nat {k m l : Nat} (h : l < 2 ^ k) : 2 ^ k * m ||| l = 2 ^ k * m + l := (Nat.two_pow_add_eq_or_of_lt h m).symm
theorem or_nat' {k m l : Nat} (h : l < 2 ^ k) : l ||| 2 ^ k * m = l + 2 ^ k * m := by rw [Nat.or_comm, or_nat h, Nat.add_comm]

theorem toNat_ofInt32 {x : Int} (h : 0 ≤ x) (h' : x < 4294967296) : (BitVec.ofInt 32 x).toNat = x.toNat := by
  rw [BitVec.toNat_ofInt]; omega
theorem toNat_ofInt64 {x : Int} (h : 0 ≤ x) (h' : x < 18446744073709551616) : (BitVec.ofInt 64 x).toNat = x.toNat := by
  rw [BitVec.toNat_ofInt]; omega

/-- low bits and higher ones, together -/
theorem or32 {l m : Int} {k : Nat} (h0 : 0 ≤ l) (h1 : l < 2 ^ k) (hm : 0 ≤ m) (hs : l + 2 ^ k * m < 4294967296) :
    IntKind.u32.wrap ((BitVec.ofInt 32 l ||| BitVec.ofInt 32 (2 ^ k * m)).toNat : Int) = l + 2 ^ k * m := by
  obtain ⟨L, rfl⟩ := Int.eq_ofNat_of_zero_le h0
  obtain ⟨M, rfl⟩ := Int.eq_ofNat_of_zero_le hm
  have e : (2 ^ k * (M : Int)) = ((2 ^ k * M : Nat) : Int) := by push_cast; rfl
  have hl : L < 2 ^ k := by
    have : ((L : Nat) : Int) < ((2 ^ k : Nat) : Int) := by push_cast; exact h1
    omega
  rw [e] at hs ⊢
  rw [BitVec.toNat_or, toNat_ofInt32 (by omega) (by omega), toNat_ofInt32 (by omega) (by omega), Int.toNat_natCast, Int.toNat_natCast, or_nat' hl, wu32]
  omega

theorem or32z {l : Int} (h0 : 0 ≤ l) (h1 : l < 4294967296) : IntKind.u32.wrap ((BitVec.ofInt 32 0 ||| BitVec.ofInt 32 l).toNat : Int) = l := by
  rw [BitVec.toNat_or, toNat_ofInt32 (by omega) (by omega), toNat_ofInt32 h0 h1]
  simp only [Int.toNat_zero, Nat.zero_or]
  rw [wu32]; omega

theorem or64 {l m : Int} (h0 : 0 ≤ l) (h1 : l < 4294967296) (hm : 0 ≤ m) (hm1 : m < 4294967296) :
    IntKind.u64.wrap ((BitVec.ofInt 64 l ||| BitVec.ofInt 64 (m * 4294967296)).toNat : Int) = l + m * 4294967296 := by
  obtain ⟨L, rfl⟩ := Int.eq_ofNat_of_zero_le h0
  obtain ⟨M, rfl⟩ := Int.eq_ofNat_of_zero_le hm
  rw [BitVec.toNat_or, toNat_ofInt64 (by omega) (by omega), toNat_ofInt64 (by omega) (by omega)]
  rw [show ((M : Int) * 4294967296).toNat = 2 ^ 32 * M by omega, Int.toNat_natCast, or_nat' (k := 32) (by omega), wu64]
  omega
theorem or64' {l m : Int} (h0 : 0 ≤ l) (h1 : l < 4294967296) (hm : 0 ≤ m) (hm1 : m < 4294967296) :
    IntKind.u64.wrap ((BitVec.ofInt 64 (m * 4294967296) ||| BitVec.ofInt 64 l).toNat : Int) = m * 4294967296 + l := by
  have := or64 h0 h1 hm hm1
  rw [BitVec.or_comm, this]; omega

/-! ### up -/
structure ShlInv (a out : List Int) (L by_ : Nat) (i : Nat) : Prop where
  len : out.length = a.length + L + 1
  lb : Lb out
  zero : ∀ j, i + L + 1 ≤ j → out.getD j 0 = 0
  low : out.getD (i + L) 0 < 2 ^ by_
  val : lv out = lv (a.take i) * 2 ^ by_ * 4294967296 ^ L

theorem ShlInv.start (a : List Int) (L by_ : Nat) : ShlInv a (List.replicate (a.length + L + 1) 0) L by_ 0 :=
  ⟨by simp, Lb.replicate _, fun j _ => getD_replicate0 _ _, by rw [getD_replicate0]; exact Int.pow_pos (by omega), by rw [lv_replicate]; simp [lv]⟩

theorem two_pow_split {k : Nat} (h : k ≤ 32) : (2 : Nat) ^ k * 2 ^ (32 - k) = 4294967296 := by
  rw [← Nat.pow_add, show k + (32 - k) = 32 by omega]
theorem two_pow_le {k : Nat} (h : k ≤ 32) : (2 : Nat) ^ k ≤ 4294967296 := by
  have := Nat.pow_le_pow_right (n := 2) (by omega) h
  exact this

/-- A limb moved up: what stays in its place, and what goes into the next one. -/
theorem shl_digit {x : Int} {k : Nat} (h0 : 0 ≤ x) (h1 : x < 4294967296) (hk : k < 32) :
    x * 2 ^ k < 18446744073709551616 ∧ 0 ≤ x * 2 ^ k ∧ (∃ m : Int, 0 ≤ m ∧ (x * 2 ^ k) % 4294967296 = 2 ^ k * m ∧ 2 ^ k * m + 2 ^ k ≤ 4294967296) ∧ 0 ≤ x * 2 ^ k / 4294967296 ∧ x * 2 ^ k / 4294967296 < 2 ^ k := by
  obtain ⟨X, rfl⟩ := Int.eq_ofNat_of_zero_le h0
  have e : (2 : Int) ^ k = ((2 ^ k : Nat) : Int) := by push_cast; rfl
  rw [e]
  have hs := two_pow_split (k := k) (by omega)
  have hp : 0 < 2 ^ k := Nat.two_pow_pos k
  have hp2 : 0 < 2 ^ (32 - k) := Nat.two_pow_pos _
  have hle := two_pow_le (k := k) (by omega)
  have hX : X < 4294967296 := by omega
  have h2 : X * 2 ^ k < 4294967296 * 2 ^ k := Nat.mul_lt_mul_of_pos_right hX hp
  have h3 : X * 2 ^ k % 4294967296 = 2 ^ k * (X % 2 ^ (32 - k)) := by
    rw [← hs, Nat.mul_comm X, Nat.mul_mod_mul_left]
  have h4 : X % 2 ^ (32 - k) < 2 ^ (32 - k) := Nat.mod_lt _ hp2
  have h5 : 2 ^ k * (X % 2 ^ (32 - k) + 1) ≤ 2 ^ k * 2 ^ (32 - k) := Nat.mul_le_mul_left _ h4
  rw [hs, Nat.mul_add] at h5
  have h6 : X * 2 ^ k / 4294967296 < 2 ^ k := Nat.div_lt_of_lt_mul h2
  refine ⟨?_, ?_, ⟨((X % 2 ^ (32 - k) : Nat) : Int), by omega, ?_, ?_⟩, ?_, ?_⟩
  · have : ((X : Int) * ((2 ^ k : Nat) : Int)) = ((X * 2 ^ k : Nat) : Int) := by push_cast; rfl
    rw [this]
    have : X * 2 ^ k < 18446744073709551616 := by
      have : 4294967296 * 2 ^ k ≤ 4294967296 * 4294967296 := Nat.mul_le_mul_left _ hle
      omega
    omega
  · exact Int.mul_nonneg (by omega) (by omega)
  · have : ((X : Int) * ((2 ^ k : Nat) : Int)) = ((X * 2 ^ k : Nat) : Int) := by push_cast; rfl
    rw [this]
    have h7 : ((X * 2 ^ k % 4294967296 : Nat) : Int) = ((2 ^ k * (X % 2 ^ (32 - k)) : Nat) : Int) := by rw [h3]
    rw [← Int.natCast_mul]
    omega
  · have : (((2 ^ k : Nat) : Int) * ((X % 2 ^ (32 - k) : Nat) : Int)) = ((2 ^ k * (X % 2 ^ (32 - k)) : Nat) : Int) := (Int.natCast_mul ..).symm
    rw [this]
    omega
  · exact Int.ediv_nonneg (Int.mul_nonneg (by omega) (by omega)) (by omega)
  · have : ((X : Int) * ((2 ^ k : Nat) : Int)) = ((X * 2 ^ k : Nat) : Int) := by push_cast; rfl
    rw [this]
    omega

set_option maxHeartbeats 1000000 in
theorem ShlInv.step {a out : List Int} {L k i : Nat} (ha : Lb a) (hk : k < 32) (h : ShlInv a out L k i) (hi : i < a.length) :
    ShlInv a ((out.set (i + L) (out.getD (i + L) 0 + (a.getD i 0 * 2 ^ k) % 4294967296)).set (i + L + 1) (a.getD i 0 * 2 ^ k / 4294967296)) L k (i + 1) := by
  obtain ⟨h1, h2, h3, h4, h5⟩ := h
  have hx := ha.getD i
  have hz := h2.getD (i + L)
  have e1 := lv_take_next a i
  obtain ⟨b1, b0, ⟨m, hm, b2, b3⟩, b4, b5⟩ := shl_digit hx.1 hx.2 hk
  have e2 := lv_set (l := out) (i := i + L) (out.getD (i + L) 0 + (a.getD i 0 * 2 ^ k) % 4294967296) (by omega)
  have e3 := lv_set (l := out.set (i + L) (out.getD (i + L) 0 + (a.getD i 0 * 2 ^ k) % 4294967296)) (i := i + L + 1) (a.getD i 0 * 2 ^ k / 4294967296) (by simp; omega)
  rw [getD_set_ne (by omega), h3 _ (Nat.le_refl _)] at e3
  have hpow : (2 : Int) ^ k ≤ 4294967296 := by
    have e : (2 : Int) ^ k = ((2 ^ k : Nat) : Int) := by push_cast; rfl
    have := two_pow_le (k := k) (by omega)
    omega
  have hexp : (a.getD i 0 * 2 ^ k).toNat = (a.getD i 0).toNat * 2 ^ k := by
    have e : (2 : Int) ^ k = ((2 ^ k : Nat) : Int) := by push_cast; rfl
    rw [Int.toNat_mul hx.1 (Int.le_of_lt (Int.pow_pos (by omega))), e, Int.toNat_natCast]
  generalize a.getD i 0 = x at *
  generalize out.getD (i + L) 0 = z at *
  have b6 := Int.emod_nonneg (x * 2 ^ k) (show (4294967296 : Int) ≠ 0 by omega)
  have b7 : x * 2 ^ k / 4294967296 < 4294967296 := by omega
  have b8 : z + x * 2 ^ k % 4294967296 < 4294967296 := by omega
  refine ⟨by simp [h1], (h2.set _ (by omega) b8).set _ b4 b7, fun j hj => ?_, ?_, ?_⟩
  · rw [getD_set_ne (by omega), getD_set_ne (by omega)]; exact h3 j (by omega)
  · rw [show i + 1 + L = i + L + 1 by omega, getD_set_self (by simp; omega)]
    exact b5
  · rw [e1]
    have e4 : (z + x * 2 ^ k % 4294967296).toNat + 4294967296 * (x * 2 ^ k / 4294967296).toNat = z.toNat + x.toNat * 2 ^ k := by
      rw [← hexp]; omega
    have e5 := congrArg (4294967296 ^ (i + L) * ·) e4
    simp only [Nat.mul_add] at e5
    have e6 : 4294967296 ^ (i + L + 1) * (x * 2 ^ k / 4294967296).toNat = 4294967296 ^ (i + L) * (4294967296 * (x * 2 ^ k / 4294967296).toNat) := by
      rw [Nat.pow_succ, Nat.mul_assoc]
    rw [e6] at e3
    have e7 : (lv (a.take i) + 4294967296 ^ i * x.toNat) * 2 ^ k * 4294967296 ^ L = lv (a.take i) * 2 ^ k * 4294967296 ^ L + 4294967296 ^ (i + L) * (x.toNat * 2 ^ k) := by
      rw [Nat.pow_add]; grind
    rw [e7, ← h5]
    simp only [Int.toNat_zero, Nat.mul_zero] at e3
    omega

theorem ShlInv.stop {a out : List Int} {L k : Nat} (h : ShlInv a out L k a.length) : lv out = lv a * 2 ^ (32 * L + k) := by
  have := h.val
  rw [lv_take_all] at this
  rw [this, Nat.pow_add, Nat.pow_mul, Nat.mul_assoc, Nat.mul_comm (2 ^ k)]

/-! ### down -/
theorem lv_drop {a : List Int} (h : Lb a) (L : Nat) (hl : L ≤ a.length) : lv (a.drop L) = lv a / 4294967296 ^ L := by
  have h1 := lv_take_drop a L hl
  have h2 := lv_take_lt h L hl
  have hp : 0 < 4294967296 ^ L := Nat.pow_pos (by omega)
  rw [h1, Nat.add_mul_div_left _ _ hp, Nat.div_eq_of_lt h2, Nat.zero_add]

theorem lv_drop_cons (a : List Int) (i : Nat) : lv (a.drop i) = (a.getD i 0).toNat + 4294967296 * lv (a.drop (i + 1)) := by
  rcases Nat.lt_or_ge i a.length with h | h
  · rw [List.drop_eq_getElem_cons h]
    simp [lv, List.getD, List.getElem?_eq_getElem h]
  · rw [List.drop_eq_nil_of_le h, List.drop_eq_nil_of_le (by omega)]
    simp [lv, List.getD, List.getElem?_eq_none h]

structure ShrInv (a out : List Int) (L k : Nat) (i : Nat) : Prop where
  len : out.length = a.length - L
  lb : Lb out
  zero : ∀ j, i ≤ j → out.getD j 0 = 0
  val : lv out = lv a / 2 ^ (32 * L + k) % 4294967296 ^ i

theorem ShrInv.start (a : List Int) (L k : Nat) : ShrInv a (List.replicate (a.length - L) 0) L k 0 :=
  ⟨by simp, Lb.replicate _, fun j _ => getD_replicate0 _ _, by rw [lv_replicate, Nat.pow_zero, Nat.mod_one]⟩

set_option maxHeartbeats 1000000 in
theorem ShrInv.step {a out : List Int} {L k i : Nat} (ha : Lb a) (hk : k < 32) (hL : L < a.length) (h : ShrInv a out L k i) (hi : i < a.length - L) :
    ShrInv a (out.set i (((a.getD (i + L) 0 + a.getD (i + L + 1) 0 * 4294967296) / 2 ^ k) % 4294967296)) L k (i + 1) := by
  obtain ⟨h1, h2, h3, h4⟩ := h
  have hx := ha.getD (i + L)
  have hy := ha.getD (i + L + 1)
  have e3 := lv_set (l := out) (i := i) (((a.getD (i + L) 0 + a.getD (i + L + 1) 0 * 4294967296) / 2 ^ k) % 4294967296) (by omega)
  rw [h3 i (Nat.le_refl i)] at e3
  have d0 := lv_drop ha (i + L) (by omega)
  have d1 := lv_drop_cons a (i + L)
  have d2 := lv_drop_cons a (i + L + 1)
  generalize a.getD (i + L) 0 = x at *
  generalize a.getD (i + L + 1) 0 = y at *
  generalize lv (a.drop (i + L + 1 + 1)) = rest at *
  obtain ⟨X, rfl⟩ := Int.eq_ofNat_of_zero_le hx.1
  obtain ⟨Y, rfl⟩ := Int.eq_ofNat_of_zero_le hy.1
  simp only [Int.toNat_natCast] at d1 d2
  have ek : (2 : Int) ^ k = ((2 ^ k : Nat) : Int) := by push_cast; rfl
  have ev : (((X : Int) + (Y : Int) * 4294967296) / 2 ^ k) % 4294967296 = (((X + Y * 4294967296) / 2 ^ k % 4294967296 : Nat) : Int) := by
    rw [ek, show (X : Int) + (Y : Int) * 4294967296 = ((X + Y * 4294967296 : Nat) : Int) by omega, ← Int.natCast_ediv]
    omega
  rw [ev] at e3 ⊢
  refine ⟨by simp [h1], h2.set _ (by omega) (by omega), fun j hj => ?_, ?_⟩
  · rw [getD_set_ne (by omega)]; exact h3 j (by omega)
  · -- the next limb of the number moved down
    have hs := two_pow_split (k := k) (by omega)
    have hp : 0 < 2 ^ k := Nat.two_pow_pos k
    have key : lv a / 2 ^ (32 * L + k) / 4294967296 ^ i % 4294967296 = (X + Y * 4294967296) / 2 ^ k % 4294967296 := by
      have q1 : lv a / 2 ^ (32 * L + k) / 4294967296 ^ i = lv a / 4294967296 ^ (i + L) / 2 ^ k := by
        rw [Nat.div_div_eq_div_mul, Nat.div_div_eq_div_mul]
        congr 1
        rw [Nat.pow_add, Nat.pow_add 4294967296, Nat.pow_mul]
        rw [show (2 : Nat) ^ 32 = 4294967296 by rfl]
        grind
      rw [q1, ← d0, d1, d2]
      have q2 : X + 4294967296 * (Y + 4294967296 * rest) = (X + Y * 4294967296) + 2 ^ k * (4294967296 * (2 ^ (32 - k) * rest)) := by
        have : 4294967296 * rest = 2 ^ k * (2 ^ (32 - k) * rest) := by rw [← Nat.mul_assoc, hs]
        grind
      rw [q2, Nat.add_mul_div_left _ _ hp, Nat.add_mul_mod_self_left]
    rw [Nat.pow_succ, Nat.mod_mul, key]
    rw [Int.toNat_natCast, Int.toNat_zero, Nat.mul_zero, Nat.add_zero] at e3
    rw [e3, h4]

theorem ShrInv.stop {a out : List Int} {L k : Nat} (ha : Lb a) (hL : L ≤ a.length) (h : ShrInv a out L k (a.length - L)) : lv out = lv a / 2 ^ (32 * L + k) := by
  have := h.val
  rw [this]
  refine Nat.mod_eq_of_lt ?_
  have h1 := lv_lt ha
  rw [show 4294967296 ^ a.length = 2 ^ (32 * L) * 4294967296 ^ (a.length - L) by
    rw [Nat.pow_mul, show (2 : Nat) ^ 32 = 4294967296 by rfl, ← Nat.pow_add]; congr 1; omega] at h1
  rw [Nat.pow_add, ← Nat.div_div_eq_div_mul]
  refine Nat.lt_of_le_of_lt (Nat.div_le_self _ _) ?_
  exact Nat.div_lt_of_lt_mul h1

/-! ### how many bits -/
theorem blen_nat_iff {v : Nat} (n : Nat) : blen (v : Int) = (n : Int) + 1 ↔ 2 ^ n ≤ v ∧ v < 2 ^ (n + 1) := by
  have e1 : ((2 ^ n : Nat) : Int) = (2 : Int) ^ n := by push_cast; rfl
  have e2 : ((2 ^ (n + 1) : Nat) : Int) = (2 : Int) ^ (n + 1) := by push_cast; rfl
  rcases Nat.eq_zero_or_pos v with h | h
  · subst h
    have hp : 0 < 2 ^ n := Nat.two_pow_pos n
    have hz : blen ((0 : Nat) : Int) = 0 := rfl
    rw [hz]
    constructor
    · intro h1; omega
    · intro h1; omega
  · rw [blen_iff (by omega) n, ← e1, ← e2]
    omega

theorem blen_len {a : List Int} (h : Lb a) (hne : a ≠ []) (h0 : a.getD (a.length - 1) 0 ≠ 0) : blen (lv a : Int) = 32 * ((a.length : Int) - 1) + blen (a.getD (a.length - 1) 0) := by
  have hl : 0 < a.length := List.length_pos_iff.2 hne
  have h1 := lv_take_succ (a := a) (i := a.length - 1) (by omega)
  rw [show a.length - 1 + 1 = a.length by omega, lv_take_all] at h1
  have h2 := lv_take_lt h (a.length - 1) (by omega)
  have h3 := h.getD (a.length - 1)
  generalize a.getD (a.length - 1) 0 = x at *
  obtain ⟨n, q1, q2, q3⟩ := blen_pos (x := x) (by omega)
  rw [q1]
  obtain ⟨X, rfl⟩ := Int.eq_ofNat_of_zero_le h3.1
  simp only [Int.toNat_natCast] at h1
  have e1 : ((2 ^ n : Nat) : Int) = (2 : Int) ^ n := by push_cast; rfl
  have e2 : ((2 ^ (n + 1) : Nat) : Int) = (2 : Int) ^ (n + 1) := by push_cast; rfl
  rw [← e1] at q2
  rw [← e2] at q3
  have k1 : (2 : Nat) ^ (32 * (a.length - 1) + n) = 4294967296 ^ (a.length - 1) * 2 ^ n := by
    rw [Nat.pow_add, Nat.pow_mul]
  have k2 : (2 : Nat) ^ (32 * (a.length - 1) + n + 1) = 4294967296 ^ (a.length - 1) * 2 ^ (n + 1) := by
    rw [Nat.add_assoc, Nat.pow_add, Nat.pow_mul]
  have m1 : 4294967296 ^ (a.length - 1) * 2 ^ n ≤ 4294967296 ^ (a.length - 1) * X := Nat.mul_le_mul_left _ (by omega)
  have m2 : 4294967296 ^ (a.length - 1) * (X + 1) ≤ 4294967296 ^ (a.length - 1) * 2 ^ (n + 1) := Nat.mul_le_mul_left _ (by omega)
  rw [Nat.mul_add] at m2
  have := (blen_nat_iff (v := lv a) (32 * (a.length - 1) + n)).2 ⟨by rw [k1]; omega, by rw [k2]; omega⟩
  rw [this]
  omega

/-! ### the quotient by one limb -/
structure ShortInv (a q : List Int) (d : Int) (k : Nat) (left : Int) : Prop where
  len : q.length = a.length
  lb : Lb q
  zero : ∀ j, j < k → q.getD j 0 = 0
  l0 : 0 ≤ left
  l1 : left < d
  val : lv q * d.toNat + 4294967296 ^ k * left.toNat + lv (a.take k) = lv a

theorem ShortInv.start (a : List Int) {d : Int} (hd : 0 < d) : ShortInv a (List.replicate a.length 0) d a.length 0 :=
  ⟨by simp, Lb.replicate _, fun j _ => getD_replicate0 _ _, by omega, hd, by rw [lv_replicate, lv_take_all]; simp⟩

set_option maxHeartbeats 1000000 in
theorem ShortInv.step {a q : List Int} {d left : Int} {k : Nat} (ha : Lb a) (hd : d < 4294967296) (h : ShortInv a q d (k + 1) left) (hk : k < a.length) :
    ShortInv a (q.set k ((left * 4294967296 + a.getD k 0) / d)) d k ((left * 4294967296 + a.getD k 0) % d) := by
  obtain ⟨h1, h2, h3, h4, h5, h6⟩ := h
  have hx := ha.getD k
  have e1 := lv_take_next a k
  have e3 := lv_set (l := q) (i := k) ((left * 4294967296 + a.getD k 0) / d) (by omega)
  rw [h3 k (by omega)] at e3
  generalize a.getD k 0 = x at *
  have b0 : 0 ≤ (left * 4294967296 + x) / d := Int.ediv_nonneg (by omega) (by omega)
  have b1 : (left * 4294967296 + x) / d < 4294967296 := by
    refine Int.ediv_lt_of_lt_mul (by omega) ?_
    have : (left + 1) * 4294967296 ≤ d * 4294967296 := Int.mul_le_mul_of_nonneg_right (by omega) (by omega)
    omega
  have b2 := Int.emod_nonneg (left * 4294967296 + x) (show d ≠ 0 by omega)
  have b3 := Int.emod_lt_of_pos (left * 4294967296 + x) (show 0 < d by omega)
  have b4 := Int.mul_ediv_add_emod (left * 4294967296 + x) d
  refine ⟨by simp [h1], h2.set _ b0 b1, fun j hj => ?_, b2, b3, ?_⟩
  · rw [getD_set_ne (by omega)]; exact h3 j (by omega)
  · generalize (left * 4294967296 + x) / d = Q at *
    generalize (left * 4294967296 + x) % d = R at *
    obtain ⟨D, rfl⟩ := Int.eq_ofNat_of_zero_le (show 0 ≤ d by omega)
    obtain ⟨Q', rfl⟩ := Int.eq_ofNat_of_zero_le b0
    obtain ⟨R', rfl⟩ := Int.eq_ofNat_of_zero_le b2
    obtain ⟨X, rfl⟩ := Int.eq_ofNat_of_zero_le hx.1
    obtain ⟨M, rfl⟩ := Int.eq_ofNat_of_zero_le h4
    simp only [Int.toNat_natCast, Int.toNat_zero, Nat.mul_zero, Nat.add_zero] at *
    have b5 : D * Q' + R' = M * 4294967296 + X := by
      have : (((D * Q' : Nat)) : Int) = (D : Int) * (Q' : Int) := Int.natCast_mul ..
      omega
    rw [e3, Nat.add_mul]
    rw [e1, Nat.pow_succ] at h6
    have e5 := congrArg (4294967296 ^ k * ·) b5
    simp only [Nat.mul_add] at e5
    have e6 : 4294967296 ^ k * Q' * D = 4294967296 ^ k * (D * Q') := by rw [Nat.mul_assoc, Nat.mul_comm Q']
    have e7 : 4294967296 ^ k * 4294967296 * M = 4294967296 ^ k * (M * 4294967296) := by rw [Nat.mul_assoc, Nat.mul_comm M]
    rw [e6]
    rw [e7] at h6
    omega

theorem ShortInv.stop {a q : List Int} {d left : Int} (h : ShortInv a q d 0 left) : lv q = lv a / d.toNat ∧ left = ((lv a % d.toNat : Nat) : Int) := by
  obtain ⟨h1, h2, h3, h4, h5, h6⟩ := h
  obtain ⟨M, rfl⟩ := Int.eq_ofNat_of_zero_le h4
  simp only [List.take_zero, lv, Nat.pow_zero, Nat.one_mul, Nat.add_zero, Int.toNat_natCast] at h6
  have hM : M < d.toNat := by omega
  have hd : 0 < d.toNat := by omega
  constructor
  · rw [← h6, Nat.mul_comm, Nat.add_comm, Nat.add_mul_div_left _ _ hd, Nat.div_eq_of_lt hM, Nat.zero_add]
  · rw [← h6, Nat.mul_comm, Nat.add_comm, Nat.add_mul_mod_self_left, Nat.mod_eq_of_lt hM]
end Go.Proofs.Ytaiillbjhdoikaa.Ev

/- The quotient of limbs, limb by limb: plain Lean. -/
namespace Go.Proofs.Ytaiillbjhdoikaa.Ev
open Go

/-! ### the guess of a limb -/
structure GuessInv (r2 r1 r0 d1 d0 q left : Int) : Prop where
  q0 : 0 ≤ q
  l0 : 0 ≤ left
  l1 : left < 4294967296
  eq : q * d1 + left = r2 * 4294967296 + r1
  up : ∀ k : Int, k * (d1 * 4294967296 + d0) ≤ (r2 * 4294967296 + r1) * 4294967296 + r0 → k ≤ 4294967295 → k ≤ q

structure GuessIn (r2 r1 r0 d1 d0 : Int) : Prop where
  r2b : 0 ≤ r2 ∧ r2 < 4294967296
  r1b : 0 ≤ r1 ∧ r1 < 4294967296
  r0b : 0 ≤ r0 ∧ r0 < 4294967296
  d1b : 0 < d1 ∧ d1 < 4294967296
  d0b : 0 ≤ d0 ∧ d0 < 4294967296
  le : r2 ≤ d1

structure GuessOK (r2 r1 r0 d1 d0 q : Int) : Prop where
  q0 : 0 ≤ q
  q1 : q ≤ 4294967295
  le : q * (d1 * 4294967296 + d0) ≤ (r2 * 4294967296 + r1) * 4294967296 + r0
  up : ∀ k : Int, k * (d1 * 4294967296 + d0) ≤ (r2 * 4294967296 + r1) * 4294967296 + r0 → k ≤ 4294967295 → k ≤ q

theorem GuessInv.start {r2 r1 r0 d1 d0 : Int} (I : GuessIn r2 r1 r0 d1 d0) :
    GuessInv r2 r1 r0 d1 d0 ((r2 * 4294967296 + r1) / d1) ((r2 * 4294967296 + r1) % d1) := by
  obtain ⟨h2, h1, h0, hd1, hd0, hle⟩ := I
  have hp := Int.emod_nonneg (r2 * 4294967296 + r1) (show d1 ≠ 0 by omega)
  have hq := Int.emod_lt_of_pos (r2 * 4294967296 + r1) (show 0 < d1 by omega)
  have he := Int.mul_ediv_add_emod (r2 * 4294967296 + r1) d1
  refine ⟨Int.ediv_nonneg (by omega) (by omega), hp, by omega, by rw [Int.mul_comm]; exact he, fun k hk hk1 => ?_⟩
  rcases Int.lt_or_le k 0 with hneg | hnn
  · have := Int.ediv_nonneg (show 0 ≤ r2 * 4294967296 + r1 by omega) (show 0 ≤ d1 by omega)
    omega
  · refine (Int.le_ediv_iff_mul_le hd1.1).2 ?_
    have e : k * (d1 * 4294967296 + d0) = k * d1 * 4294967296 + k * d0 := by rw [Int.mul_add, Int.mul_assoc]
    have : 0 ≤ k * d0 := Int.mul_nonneg hnn hd0.1
    rw [e] at hk
    omega

theorem guess_mul {q d0 : Int} (h0 : 0 ≤ q) (h1 : q ≤ 4294967295) (hd : 0 ≤ d0 ∧ d0 < 4294967296) : 0 ≤ q * d0 ∧ q * d0 < 18446744065119617026 := by
  refine ⟨Int.mul_nonneg h0 hd.1, ?_⟩
  have : q * d0 ≤ 4294967295 * 4294967295 := Int.mul_le_mul h1 (by omega) hd.1 (by omega)
  omega

theorem GuessInv.pos {r2 r1 r0 d1 d0 q left : Int} (I : GuessIn r2 r1 r0 d1 d0) (h : GuessInv r2 r1 r0 d1 d0 q left) (hc : 4294967295 < q ∨ left * 4294967296 + r0 < q * d0) : 1 ≤ q := by
  rcases Int.lt_or_le q 1 with h1 | h1
  · exfalso
    have hq := h.q0
    have hl := h.l0
    have hr := I.r0b
    have : q = 0 := by omega
    subst this
    simp at hc
    omega
  · exact h1

theorem GuessInv.top {r2 r1 r0 d1 d0 q left : Int} (I : GuessIn r2 r1 r0 d1 d0) (h : GuessInv r2 r1 r0 d1 d0 q left) : q ≤ 8589934592 * 4294967296 := by
  have h1 := I.r2b
  have h2 := I.r1b
  have h3 := I.d1b
  have h4 := h.eq
  have h5 := h.l0
  have h6 : q * 1 ≤ q * d1 := Int.mul_le_mul_of_nonneg_left (by omega) h.q0
  omega

theorem GuessInv.done {r2 r1 r0 d1 d0 q left : Int} (h : GuessInv r2 r1 r0 d1 d0 q left) (h1 : q ≤ 4294967295) (h2 : q * d0 ≤ left * 4294967296 + r0) : GuessOK r2 r1 r0 d1 d0 q := by
  refine ⟨h.q0, h1, ?_, h.up⟩
  have := h.eq
  rw [← this]
  have e1 : q * (d1 * 4294967296 + d0) = q * d1 * 4294967296 + q * d0 := by rw [Int.mul_add, Int.mul_assoc]
  rw [e1]
  omega

theorem GuessInv.step {r2 r1 r0 d1 d0 q left : Int} (I : GuessIn r2 r1 r0 d1 d0) (h : GuessInv r2 r1 r0 d1 d0 q left) (hc : 4294967295 < q ∨ left * 4294967296 + r0 < q * d0) (hl : left + d1 ≤ 4294967295) :
    GuessInv r2 r1 r0 d1 d0 (q - 1) (left + d1) := by
  have hq := h.pos I hc
  have hd := I.d1b
  refine ⟨by omega, by have := h.l0; omega, by omega, ?_, fun k hk hk1 => ?_⟩
  · have := h.eq
    rw [Int.sub_mul]
    omega
  · have hkq := h.up k hk hk1
    rcases (show k = q ∨ k ≤ q - 1 by omega) with rfl | h2
    · exfalso
      rcases hc with hc | hc
      · omega
      · have e1 : k * (d1 * 4294967296 + d0) = k * d1 * 4294967296 + k * d0 := by rw [Int.mul_add, Int.mul_assoc]
        have := h.eq
        rw [e1] at hk
        omega
    · exact h2

theorem GuessInv.brk {r2 r1 r0 d1 d0 q left : Int} (I : GuessIn r2 r1 r0 d1 d0) (h : GuessInv r2 r1 r0 d1 d0 q left) (hc : 4294967295 < q ∨ left * 4294967296 + r0 < q * d0) (hl : 4294967295 < left + d1) :
    GuessOK r2 r1 r0 d1 d0 (q - 1) := by
  have hq := h.pos I hc
  have hd := I.d1b
  have hr := I.r1b
  have hle := I.le
  have heq := h.eq
  have h0 := h.l0
  have e1 : (q - 1) * d1 + (left + d1) = r2 * 4294967296 + r1 := by rw [Int.sub_mul]; omega
  have hq1 : q - 1 ≤ 4294967295 := by
    rcases Int.lt_or_le 4294967295 (q - 1) with h1 | h1
    · exfalso
      have : 4294967296 * d1 ≤ (q - 1) * d1 := Int.mul_le_mul_of_nonneg_right (by omega) (by omega)
      omega
    · exact h1
  have hm := guess_mul (q := q - 1) (by omega) hq1 I.d0b
  refine ⟨by omega, hq1, ?_, fun k hk hk1 => ?_⟩
  · have e2 : (q - 1) * (d1 * 4294967296 + d0) = (q - 1) * d1 * 4294967296 + (q - 1) * d0 := by rw [Int.mul_add, Int.mul_assoc]
    rw [e2]
    have := I.r0b
    omega
  · have hkq := h.up k hk hk1
    rcases (show k = q ∨ k ≤ q - 1 by omega) with rfl | h2
    · exfalso
      rcases hc with hc | hc
      · omega
      · have e3 : k * (d1 * 4294967296 + d0) = k * d1 * 4294967296 + k * d0 := by rw [Int.mul_add, Int.mul_assoc]
        rw [e3] at hk
        omega
    · exact h2

/-- The guess is right, or one too great. -/
theorem guess_near {R D n at_ q : Nat} (hn : 2 ≤ n) (hD : 4294967296 ^ (n - 1) ≤ D) (hR : R < D * 4294967296 ^ (at_ + 1))
    (hle : q * (D / 4294967296 ^ (n - 2)) ≤ R / 4294967296 ^ (at_ + n - 2))
    (hup : ∀ k : Nat, k * (D / 4294967296 ^ (n - 2)) ≤ R / 4294967296 ^ (at_ + n - 2) → k ≤ 4294967295 → k ≤ q) :
    R / (4294967296 ^ at_ * D) ≤ q ∧ q ≤ R / (4294967296 ^ at_ * D) + 1 := by
  have hp : 0 < 4294967296 ^ (n - 2) := Nat.pow_pos (by omega)
  have hp2 : 0 < 4294967296 ^ (at_ + n - 2) := Nat.pow_pos (by omega)
  have hpa : 0 < 4294967296 ^ at_ := Nat.pow_pos (by omega)
  have hD0 : 0 < D := Nat.lt_of_lt_of_le (Nat.pow_pos (by omega)) hD
  have hsplit : 4294967296 ^ (at_ + n - 2) = 4294967296 ^ at_ * 4294967296 ^ (n - 2) := by
    rw [← Nat.pow_add]; congr 1; omega
  generalize hv : D / 4294967296 ^ (n - 2) = v at *
  generalize hu : R / 4294967296 ^ (at_ + n - 2) = u at *
  have hvB : 4294967296 ≤ v := by
    rw [← hv]
    refine (Nat.le_div_iff_mul_le hp).2 ?_
    rw [← Nat.pow_succ', show (n - 2).succ = n - 1 by omega]
    exact hD
  have v1 : v * 4294967296 ^ (n - 2) ≤ D := by rw [← hv]; exact Nat.div_mul_le_self _ _
  have v2 : D < (v + 1) * 4294967296 ^ (n - 2) := by
    rw [← hv]
    exact (Nat.div_lt_iff_lt_mul hp).1 (Nat.lt_succ_self _)
  have hM : 0 < 4294967296 ^ at_ * D := Nat.mul_pos hpa hD0
  generalize hs : R / (4294967296 ^ at_ * D) = s at *
  have s1 : s * (4294967296 ^ at_ * D) ≤ R := by rw [← hs]; exact Nat.div_mul_le_self _ _
  have s2 : R < (s + 1) * (4294967296 ^ at_ * D) := by
    rw [← hs]
    exact (Nat.div_lt_iff_lt_mul hM).1 (Nat.lt_succ_self _)
  have sB : s ≤ 4294967295 := by
    have : s < 4294967296 := by
      rw [← hs]
      refine (Nat.div_lt_iff_lt_mul hM).2 ?_
      rw [Nat.pow_succ] at hR
      calc R < D * (4294967296 ^ at_ * 4294967296) := hR
        _ = 4294967296 * (4294967296 ^ at_ * D) := by grind
    omega
  constructor
  · refine hup s ?_ sB
    rw [← hu]
    refine (Nat.le_div_iff_mul_le hp2).2 ?_
    rw [hsplit]
    calc s * v * (4294967296 ^ at_ * 4294967296 ^ (n - 2)) = s * (4294967296 ^ at_ * (v * 4294967296 ^ (n - 2))) := by grind
      _ ≤ s * (4294967296 ^ at_ * D) := Nat.mul_le_mul_left _ (Nat.mul_le_mul_left _ v1)
      _ ≤ R := s1
  · rcases Nat.lt_or_ge (s + 1) q with hlt | hge
    · exfalso
      have h1 : (s + 2) * v ≤ u := Nat.le_trans (Nat.mul_le_mul_right _ (by omega)) hle
      have h2 : u * 4294967296 ^ (at_ + n - 2) ≤ R := by rw [← hu]; exact Nat.div_mul_le_self _ _
      have h3 : (s + 1) * (4294967296 ^ at_ * D) ≤ (s + 1) * (4294967296 ^ at_ * ((v + 1) * 4294967296 ^ (n - 2))) :=
        Nat.mul_le_mul_left _ (Nat.mul_le_mul_left _ (Nat.le_of_lt v2))
      have h4 : u * 4294967296 ^ (at_ + n - 2) < (s + 1) * (v + 1) * 4294967296 ^ (at_ + n - 2) := by
        have : (s + 1) * (4294967296 ^ at_ * ((v + 1) * 4294967296 ^ (n - 2))) = (s + 1) * (v + 1) * 4294967296 ^ (at_ + n - 2) := by
          rw [hsplit]; grind
        omega
      have h5 : u < (s + 1) * (v + 1) := Nat.lt_of_mul_lt_mul_right h4
      have h6 : (s + 2) * v = s * v + 2 * v := Nat.add_mul s 2 v
      have h7 : (s + 1) * (v + 1) = s * v + s + v + 1 := by grind
      omega
    · exact hge

/-! ### a multiple taken away -/
structure LessInv (r0 d : List Int) (q : Int) (at_ : Nat) (r : List Int) (i : Nat) (carry borrow : Int) : Prop where
  len : r.length = r0.length
  lb : Lb r
  same : ∀ j, at_ + i ≤ j → r.getD j 0 = r0.getD j 0
  c0 : 0 ≤ carry
  c1 : carry < 4294967296
  b0 : 0 ≤ borrow
  b1 : borrow ≤ 1
  val : lv r + 4294967296 ^ at_ * (q.toNat * lv (d.take i)) = lv r0 + 4294967296 ^ (at_ + i) * (carry.toNat + borrow.toNat)

theorem LessInv.start {r0 : List Int} (d : List Int) (q : Int) (at_ : Nat) (h : Lb r0) : LessInv r0 d q at_ r0 0 0 0 :=
  ⟨rfl, h, fun _ _ => rfl, by omega, by omega, by omega, by omega, by simp [lv]⟩

theorem less_digit {y q c : Int} (hy : 0 ≤ y ∧ y < 4294967296) (hq : 0 ≤ q ∧ q < 4294967296) (hc : 0 ≤ c ∧ c < 4294967296) : 0 ≤ y * q ∧ y * q + c < 18446744073709551616 := by
  have h0 : 0 ≤ y * q := Int.mul_nonneg hy.1 hq.1
  have h1 : y * q ≤ 4294967295 * 4294967295 := Int.mul_le_mul (by omega) (by omega) hq.1 (by omega)
  omega

set_option maxHeartbeats 1000000 in
theorem LessInv.step {r0 d r : List Int} {q : Int} {at_ i : Nat} {carry borrow : Int} (hd : Lb d) (hq : 0 ≤ q ∧ q < 4294967296) (h : LessInv r0 d q at_ r i carry borrow) (hi : at_ + i < r0.length) :
    LessInv r0 d q at_ (r.set (at_ + i) ((r.getD (at_ + i) 0 - (d.getD i 0 * q + carry) % 4294967296 - borrow) % 4294967296)) (i + 1) ((d.getD i 0 * q + carry) / 4294967296)
      (if r.getD (at_ + i) 0 < (d.getD i 0 * q + carry) % 4294967296 + borrow then 1 else 0) := by
  obtain ⟨h1, h2, h3, h4, h5, h6, h7, h8⟩ := h
  have hx := h2.getD (at_ + i)
  have hy := hd.getD i
  have e2 := lv_take_next d i
  have e3 := lv_set (l := r) (i := at_ + i) ((r.getD (at_ + i) 0 - (d.getD i 0 * q + carry) % 4294967296 - borrow) % 4294967296) (by omega)
  generalize r.getD (at_ + i) 0 = x at *
  generalize d.getD i 0 = y at *
  have hm := less_digit hy hq ⟨h4, h5⟩
  have hyq : (y * q).toNat = y.toNat * q.toNat := Int.toNat_mul hy.1 hq.1
  refine ⟨by simp [h1], h2.set _ (by omega) (by omega), fun j hj => ?_, by omega, by omega, by split <;> omega, by split <;> omega, ?_⟩
  · rw [getD_set_ne (by omega)]; exact h3 j (by omega)
  · rw [e2]
    have e4 : ((x - (y * q + carry) % 4294967296 - borrow) % 4294967296).toNat + y.toNat * q.toNat + carry.toNat + borrow.toNat
        = x.toNat + 4294967296 * (((y * q + carry) / 4294967296).toNat + (if x < (y * q + carry) % 4294967296 + borrow then 1 else 0 : Int).toNat) := by
      rw [← hyq]; split <;> omega
    have e5 := congrArg (4294967296 ^ (at_ + i) * ·) e4
    simp only [Nat.mul_add] at e5
    have e6 : 4294967296 ^ at_ * (q.toNat * (lv (d.take i) + 4294967296 ^ i * y.toNat)) = 4294967296 ^ at_ * (q.toNat * lv (d.take i)) + 4294967296 ^ (at_ + i) * (y.toNat * q.toNat) := by
      rw [Nat.pow_add]; grind
    rw [e6, ← Nat.add_assoc at_ i 1, Nat.pow_succ, Nat.mul_assoc]
    simp only [Nat.mul_add] at h8 e3 ⊢
    omega

theorem LessInv.stop {r0 d r : List Int} {q : Int} {at_ : Nat} {carry borrow : Int} (h : LessInv r0 d q at_ r d.length carry borrow) (hi : at_ + d.length < r0.length) :
    (r.set (at_ + d.length) ((r.getD (at_ + d.length) 0 - carry - borrow) % 4294967296)).length = r0.length ∧
    Lb (r.set (at_ + d.length) ((r.getD (at_ + d.length) 0 - carry - borrow) % 4294967296)) ∧
    (∀ j, at_ + d.length + 1 ≤ j → (r.set (at_ + d.length) ((r.getD (at_ + d.length) 0 - carry - borrow) % 4294967296)).getD j 0 = r0.getD j 0) ∧
    lv (r.set (at_ + d.length) ((r.getD (at_ + d.length) 0 - carry - borrow) % 4294967296)) + 4294967296 ^ at_ * (q.toNat * lv d)
      = lv r0 + 4294967296 ^ (at_ + d.length + 1) * (if r.getD (at_ + d.length) 0 < carry + borrow then 1 else 0 : Int).toNat := by
  obtain ⟨h1, h2, h3, h4, h5, h6, h7, h8⟩ := h
  have hx := h2.getD (at_ + d.length)
  have e3 := lv_set (l := r) (i := at_ + d.length) ((r.getD (at_ + d.length) 0 - carry - borrow) % 4294967296) (by omega)
  rw [lv_take_all] at h8
  generalize r.getD (at_ + d.length) 0 = x at *
  refine ⟨by simp [h1], h2.set _ (by omega) (by omega), fun j hj => ?_, ?_⟩
  · rw [getD_set_ne (by omega)]; exact h3 j (by omega)
  · have e4 : ((x - carry - borrow) % 4294967296).toNat + carry.toNat + borrow.toNat = x.toNat + 4294967296 * (if x < carry + borrow then 1 else 0 : Int).toNat := by
      split <;> omega
    have e5 := congrArg (4294967296 ^ (at_ + d.length) * ·) e4
    simp only [Nat.mul_add] at e5 h8
    rw [Nat.pow_succ, Nat.mul_assoc]
    omega

/-! ### and given back -/
structure MoreInv (r0 d : List Int) (at_ : Nat) (r : List Int) (i : Nat) (c : Int) : Prop where
  len : r.length = r0.length
  lb : Lb r
  same : ∀ j, at_ + i ≤ j → r.getD j 0 = r0.getD j 0
  c0 : 0 ≤ c
  c1 : c ≤ 1
  val : lv r + 4294967296 ^ (at_ + i) * c.toNat = lv r0 + 4294967296 ^ at_ * lv (d.take i)

theorem MoreInv.start {r0 : List Int} (d : List Int) (at_ : Nat) (h : Lb r0) : MoreInv r0 d at_ r0 0 0 :=
  ⟨rfl, h, fun _ _ => rfl, by omega, by omega, by simp [lv]⟩

theorem MoreInv.step {r0 d r : List Int} {at_ i : Nat} {c : Int} (hd : Lb d) (h : MoreInv r0 d at_ r i c) (hi : at_ + i < r0.length) :
    MoreInv r0 d at_ (r.set (at_ + i) ((r.getD (at_ + i) 0 + d.getD i 0 + c) % 4294967296)) (i + 1) ((r.getD (at_ + i) 0 + d.getD i 0 + c) / 4294967296) := by
  obtain ⟨h1, h2, h3, h4, h5, h6⟩ := h
  have hx := h2.getD (at_ + i)
  have hy := hd.getD i
  have e2 := lv_take_next d i
  have e3 := lv_set (l := r) (i := at_ + i) ((r.getD (at_ + i) 0 + d.getD i 0 + c) % 4294967296) (by omega)
  generalize r.getD (at_ + i) 0 = x at *
  generalize d.getD i 0 = y at *
  refine ⟨by simp [h1], h2.set _ (by omega) (by omega), fun j hj => ?_, by omega, by omega, ?_⟩
  · rw [getD_set_ne (by omega)]; exact h3 j (by omega)
  · rw [e2]
    have e4 : ((x + y + c) % 4294967296).toNat + 4294967296 * ((x + y + c) / 4294967296).toNat = x.toNat + y.toNat + c.toNat := by omega
    have e5 := congrArg (4294967296 ^ (at_ + i) * ·) e4
    simp only [Nat.mul_add] at e5
    have e6 : 4294967296 ^ at_ * (lv (d.take i) + 4294967296 ^ i * y.toNat) = 4294967296 ^ at_ * lv (d.take i) + 4294967296 ^ (at_ + i) * y.toNat := by
      rw [Nat.pow_add]; grind
    rw [e6, ← Nat.add_assoc at_ i 1, Nat.pow_succ, Nat.mul_assoc]
    omega

theorem MoreInv.stop {r0 d r : List Int} {at_ : Nat} {c : Int} (h : MoreInv r0 d at_ r d.length c) (hi : at_ + d.length < r0.length) :
    (r.set (at_ + d.length) ((r.getD (at_ + d.length) 0 + c) % 4294967296)).length = r0.length ∧
    Lb (r.set (at_ + d.length) ((r.getD (at_ + d.length) 0 + c) % 4294967296)) ∧
    (∀ j, at_ + d.length + 1 ≤ j → (r.set (at_ + d.length) ((r.getD (at_ + d.length) 0 + c) % 4294967296)).getD j 0 = r0.getD j 0) ∧
    lv (r.set (at_ + d.length) ((r.getD (at_ + d.length) 0 + c) % 4294967296)) + 4294967296 ^ (at_ + d.length + 1) * ((r.getD (at_ + d.length) 0 + c) / 4294967296).toNat
      = lv r0 + 4294967296 ^ at_ * lv d := by
  obtain ⟨h1, h2, h3, h4, h5, h6⟩ := h
  have hx := h2.getD (at_ + d.length)
  have e3 := lv_set (l := r) (i := at_ + d.length) ((r.getD (at_ + d.length) 0 + c) % 4294967296) (by omega)
  rw [lv_take_all] at h6
  generalize r.getD (at_ + d.length) 0 = x at *
  refine ⟨by simp [h1], h2.set _ (by omega) (by omega), fun j hj => ?_, ?_⟩
  · rw [getD_set_ne (by omega)]; exact h3 j (by omega)
  · have e4 : ((x + c) % 4294967296).toNat + 4294967296 * ((x + c) / 4294967296).toNat = x.toNat + c.toNat := by omega
    have e5 := congrArg (4294967296 ^ (at_ + d.length) * ·) e4
    simp only [Nat.mul_add] at e5
    rw [Nat.pow_succ, Nat.mul_assoc]
    omega

/-! ### limb by limb -/
theorem lv_lt_of_zero {r : List Int} (h : Lb r) {k : Nat} (h0 : ∀ j, k ≤ j → r.getD j 0 = 0) : lv r < 4294967296 ^ k := by
  rcases Nat.lt_or_ge r.length k with hk | hk
  · exact Nat.lt_of_lt_of_le (lv_lt h) (Nat.pow_le_pow_right (by omega) (by omega))
  · have h1 := lv_take_drop r k hk
    have h2 := lv_take_lt h k hk
    have h3 : lv (r.drop k) = 0 := by
      have : ∀ (l : List Int), (∀ j, l.getD j 0 = 0) → lv l = 0 := by
        intro l
        induction l with
        | nil => intro _; rfl
        | cons x l ih =>
          intro hz
          have e1 := hz 0
          have e2 := ih (fun j => by have := hz (j + 1); simpa using this)
          simp at e1
          simp [lv, e1, e2]
      refine this _ (fun j => ?_)
      rw [getD_drop]
      exact h0 _ (by omega)
    rw [h3] at h1
    omega

theorem zero_of_lv_lt {r : List Int} (h : Lb r) {k : Nat} (hlt : lv r < 4294967296 ^ k) : ∀ j, k ≤ j → r.getD j 0 = 0 := by
  intro j hj
  rcases Nat.lt_or_ge j r.length with hl | hl
  · have h1 := lv_take_drop r j (by omega)
    have h2 := lv_drop_cons r j
    have h3 := h.getD j
    rcases (show r.getD j 0 = 0 ∨ 0 < r.getD j 0 by omega) with h4 | h4
    · exact h4
    · exfalso
      have h5 : 4294967296 ^ j * 1 ≤ 4294967296 ^ j * lv (r.drop j) := Nat.mul_le_mul_left _ (by omega)
      have h6 : 4294967296 ^ k ≤ 4294967296 ^ j := Nat.pow_le_pow_right (by omega) hj
      omega
  · simp [List.getD, List.getElem?_eq_none hl]

structure DivInv (A D n : Nat) (r q : List Int) (at_ : Nat) : Prop where
  lenr : q.length + n ≤ r.length
  lbr : Lb r
  lbq : Lb q
  zero : ∀ j, j < at_ → q.getD j 0 = 0
  val : lv q * D + lv r = A
  lt : lv r < D * 4294967296 ^ at_

/-- The three highest limbs, and the divisor's two. -/
theorem DivInv.top {A D n at_ : Nat} {r q : List Int} (h : DivInv A D n r q (at_ + 1)) (hn : 2 ≤ n) (hD : D < 4294967296 ^ n) (hat : at_ < q.length) :
    ((r.getD (at_ + n) 0 * 4294967296 + r.getD (at_ + n - 1) 0) * 4294967296 + r.getD (at_ + n - 2) 0).toNat = lv r / 4294967296 ^ (at_ + n - 2) := by
  have h0 := h.lenr
  have b2 := h.lbr.getD (at_ + n)
  have b1 := h.lbr.getD (at_ + n - 1)
  have b0 := h.lbr.getD (at_ + n - 2)
  rw [← lv_drop h.lbr _ (by omega), lv_drop_cons, show at_ + n - 2 + 1 = at_ + n - 1 by omega, lv_drop_cons r (at_ + n - 1), show at_ + n - 1 + 1 = at_ + n by omega, lv_drop_cons r (at_ + n)]
  have hz : lv (r.drop (at_ + n + 1)) = 0 := by
    rw [lv_drop h.lbr _ (by omega)]
    refine Nat.div_eq_of_lt (Nat.lt_of_lt_of_le h.lt ?_)
    have : D * 4294967296 ^ (at_ + 1) ≤ 4294967296 ^ n * 4294967296 ^ (at_ + 1) := Nat.mul_le_mul_right _ (by omega)
    rw [← Nat.pow_add] at this
    rw [show at_ + n + 1 = n + (at_ + 1) by omega]
    exact this
  rw [hz]
  omega

theorem div_top {d : List Int} (hd : Lb d) (hn : 2 ≤ d.length) : (d.getD (d.length - 1) 0 * 4294967296 + d.getD (d.length - 2) 0).toNat = lv d / 4294967296 ^ (d.length - 2) := by
  have b1 := hd.getD (d.length - 1)
  have b0 := hd.getD (d.length - 2)
  rw [← lv_drop hd _ (by omega), lv_drop_cons, show d.length - 2 + 1 = d.length - 1 by omega, lv_drop_cons d (d.length - 1), show d.length - 1 + 1 = d.length by omega, List.drop_length]
  simp only [lv]
  omega

theorem DivInv.in_ {A n at_ : Nat} {r q d : List Int} (h : DivInv A (lv d) n r q (at_ + 1)) (hd : Lb d) (hn : 2 ≤ n) (hdn : d.length = n) (hat : at_ < q.length) (h0 : d.getD (n - 1) 0 ≠ 0) :
    GuessIn (r.getD (at_ + n) 0) (r.getD (at_ + n - 1) 0) (r.getD (at_ + n - 2) 0) (d.getD (n - 1) 0) (d.getD (n - 2) 0) := by
  have hD := lv_lt hd
  rw [hdn] at hD
  have e1 := h.top hn hD hat
  have e2 := div_top hd (by omega)
  rw [hdn] at e2
  have b2 := h.lbr.getD (at_ + n)
  have b1 := h.lbr.getD (at_ + n - 1)
  have b0 := h.lbr.getD (at_ + n - 2)
  have c1 := hd.getD (n - 1)
  have c0 := hd.getD (n - 2)
  refine ⟨b2, b1, b0, ⟨by omega, c1.2⟩, c0, ?_⟩
  have h1 : lv r / 4294967296 ^ (at_ + n - 2) < (lv d / 4294967296 ^ (n - 2) + 1) * 4294967296 := by
    have hp : 0 < 4294967296 ^ (n - 2) := Nat.pow_pos (by omega)
    refine (Nat.div_lt_iff_lt_mul (Nat.pow_pos (by omega))).2 ?_
    have h2 : lv d < (lv d / 4294967296 ^ (n - 2) + 1) * 4294967296 ^ (n - 2) := (Nat.div_lt_iff_lt_mul hp).1 (Nat.lt_succ_self _)
    have h3 := h.lt
    have h4 : lv d * 4294967296 ^ (at_ + 1) ≤ (lv d / 4294967296 ^ (n - 2) + 1) * 4294967296 ^ (n - 2) * 4294967296 ^ (at_ + 1) := Nat.mul_le_mul_right _ (by omega)
    have h5 : (lv d / 4294967296 ^ (n - 2) + 1) * 4294967296 ^ (n - 2) * 4294967296 ^ (at_ + 1) = (lv d / 4294967296 ^ (n - 2) + 1) * 4294967296 * 4294967296 ^ (at_ + n - 2) := by
      rw [show at_ + n - 2 = at_ + (n - 2) by omega, Nat.pow_add, Nat.pow_add]
      grind
    omega
  omega

theorem DivInv.near {A n at_ : Nat} {r q d : List Int} {g : Int} (h : DivInv A (lv d) n r q (at_ + 1)) (hd : Lb d) (hn : 2 ≤ n) (hdn : d.length = n) (hat : at_ < q.length) (h0 : d.getD (n - 1) 0 ≠ 0)
    (hg : GuessOK (r.getD (at_ + n) 0) (r.getD (at_ + n - 1) 0) (r.getD (at_ + n - 2) 0) (d.getD (n - 1) 0) (d.getD (n - 2) 0) g) :
    lv r / (4294967296 ^ at_ * lv d) ≤ g.toNat ∧ g.toNat ≤ lv r / (4294967296 ^ at_ * lv d) + 1 := by
  have hD := lv_lt hd
  rw [hdn] at hD
  have e1 := h.top hn hD hat
  have e2 := div_top hd (by omega)
  rw [hdn] at e2
  have b2 := h.lbr.getD (at_ + n)
  have b1 := h.lbr.getD (at_ + n - 1)
  have b0 := h.lbr.getD (at_ + n - 2)
  have c1 := hd.getD (n - 1)
  have c0 := hd.getD (n - 2)
  obtain ⟨g0, g1, g2, g3⟩ := hg
  obtain ⟨g', rfl⟩ := Int.eq_ofNat_of_zero_le g0
  have hDl : 4294967296 ^ (n - 1) ≤ lv d := by
    have := lv_take_drop d (n - 1) (by omega)
    rw [lv_drop_cons d (n - 1)] at this
    have h5 : 4294967296 ^ (n - 1) * 1 ≤ 4294967296 ^ (n - 1) * ((d.getD (n - 1) 0).toNat + 4294967296 * lv (d.drop (n - 1 + 1))) := Nat.mul_le_mul_left _ (by omega)
    omega
  have cast : ∀ k : Nat, (k : Int) * (d.getD (n - 1) 0 * 4294967296 + d.getD (n - 2) 0) ≤ (r.getD (at_ + n) 0 * 4294967296 + r.getD (at_ + n - 1) 0) * 4294967296 + r.getD (at_ + n - 2) 0 ↔
      k * (lv d / 4294967296 ^ (n - 2)) ≤ lv r / 4294967296 ^ (at_ + n - 2) := by
    intro k
    rw [← e1, ← e2]
    have p1 : 0 ≤ d.getD (n - 1) 0 * 4294967296 + d.getD (n - 2) 0 := by omega
    have p2 : 0 ≤ (r.getD (at_ + n) 0 * 4294967296 + r.getD (at_ + n - 1) 0) * 4294967296 + r.getD (at_ + n - 2) 0 := by omega
    generalize d.getD (n - 1) 0 * 4294967296 + d.getD (n - 2) 0 = V at *
    generalize (r.getD (at_ + n) 0 * 4294967296 + r.getD (at_ + n - 1) 0) * 4294967296 + r.getD (at_ + n - 2) 0 = U at *
    obtain ⟨V', rfl⟩ := Int.eq_ofNat_of_zero_le p1
    obtain ⟨U', rfl⟩ := Int.eq_ofNat_of_zero_le p2
    simp only [Int.toNat_natCast]
    rw [← Int.natCast_mul]
    exact Int.ofNat_le
  rw [Int.toNat_natCast]
  exact guess_near hn hDl h.lt ((cast g').1 g2) (fun k hk hk1 => by
    have := g3 k ((cast k).2 hk) (by omega)
    omega)

theorem DivInv.down {A D n at_ : Nat} {r r' q : List Int} {g : Int} (h : DivInv A D n r q (at_ + 1)) (hat : at_ < q.length) (hl : r'.length = r.length) (hb : Lb r') (hg : 0 ≤ g ∧ g < 4294967296)
    (hv : lv r' + 4294967296 ^ at_ * (g.toNat * D) = lv r) (hlt : lv r' < D * 4294967296 ^ at_) : DivInv A D n r' (q.set at_ g) at_ := by
  have e3 := lv_set (l := q) (i := at_) g hat
  rw [h.zero at_ (by omega)] at e3
  refine ⟨by simp [hl, h.lenr], hb, h.lbq.set _ hg.1 hg.2, fun j hj => ?_, ?_, hlt⟩
  · rw [getD_set_ne (by omega)]; exact h.zero j (by omega)
  · have := h.val
    simp only [Int.toNat_zero, Nat.mul_zero, Nat.add_zero] at e3
    rw [e3, Nat.add_mul]
    have : 4294967296 ^ at_ * g.toNat * D = 4294967296 ^ at_ * (g.toNat * D) := Nat.mul_assoc ..
    omega

theorem div_pick {R M s x : Nat} (hM : 0 < M) (h : R / M = s) (hx : x + s * M = R) : x < M := by
  have := Nat.div_add_mod R M
  have h2 := Nat.mod_lt R hM
  rw [h] at this
  have : M * s = s * M := Nat.mul_comm ..
  omega

/-- Where nothing was borrowed. -/
theorem DivInv.same {A D n at_ : Nat} {r r' q : List Int} {g : Int} (h : DivInv A D n r q (at_ + 1)) (hat : at_ < q.length) (hD : 0 < D) (hl : r'.length = r.length) (hb : Lb r') (hg : 0 ≤ g ∧ g < 4294967296)
    (hn : lv r / (4294967296 ^ at_ * D) ≤ g.toNat) (hv : lv r' + 4294967296 ^ at_ * (g.toNat * D) = lv r) : DivInv A D n r' (q.set at_ g) at_ := by
  have hM : 0 < 4294967296 ^ at_ * D := Nat.mul_pos (Nat.pow_pos (by omega)) hD
  have e : 4294967296 ^ at_ * (g.toNat * D) = g.toNat * (4294967296 ^ at_ * D) := Nat.mul_left_comm ..
  have hs : lv r / (4294967296 ^ at_ * D) = g.toNat := by
    have : g.toNat ≤ lv r / (4294967296 ^ at_ * D) := (Nat.le_div_iff_mul_le hM).2 (by omega)
    omega
  refine h.down hat hl hb hg hv ?_
  have := div_pick hM hs (x := lv r') (by omega)
  rw [Nat.mul_comm]
  exact this

set_option maxHeartbeats 1000000 in
/-- Where it was too much. -/
theorem DivInv.less {A D n at_ : Nat} {r r1 r' q : List Int} {g c : Int} (h : DivInv A D n r q (at_ + 1)) (hat : at_ < q.length) (hD : 0 < D) (hDn : D < 4294967296 ^ n) (hl : r'.length = r.length) (hb1 : Lb r1) (hb : Lb r') (hg : 0 ≤ g ∧ g < 4294967296)
    (hn : g.toNat ≤ lv r / (4294967296 ^ at_ * D) + 1) (hs : ∀ j, at_ + n + 1 ≤ j → r'.getD j 0 = r.getD j 0) (hs1 : ∀ j, at_ + n + 1 ≤ j → r1.getD j 0 = r.getD j 0) (hc : 0 ≤ c ∧ c ≤ 1)
    (hv1 : lv r1 + 4294967296 ^ at_ * (g.toNat * D) = lv r + 4294967296 ^ (at_ + n + 1)) (hv : lv r' + 4294967296 ^ (at_ + n + 1) * c.toNat = lv r1 + 4294967296 ^ at_ * D) :
    1 ≤ g ∧ DivInv A D n r' (q.set at_ (g - 1)) at_ := by
  have hM : 0 < 4294967296 ^ at_ * D := Nat.mul_pos (Nat.pow_pos (by omega)) hD
  have hrz : lv r < 4294967296 ^ (at_ + n + 1) := by
    refine Nat.lt_of_lt_of_le h.lt ?_
    have : D * 4294967296 ^ (at_ + 1) ≤ 4294967296 ^ n * 4294967296 ^ (at_ + 1) := Nat.mul_le_mul_right _ (by omega)
    rw [← Nat.pow_add] at this
    rw [show at_ + n + 1 = n + (at_ + 1) by omega]
    exact this
  have hz := zero_of_lv_lt h.lbr hrz
  have l1 := lv_lt_of_zero hb1 (k := at_ + n + 1) (fun j hj => by rw [hs1 j hj]; exact hz j hj)
  have l2 := lv_lt_of_zero hb (k := at_ + n + 1) (fun j hj => by rw [hs j hj]; exact hz j hj)
  have g1 : 1 ≤ g.toNat := by
    rcases Nat.eq_zero_or_pos g.toNat with e | e
    · exfalso
      rw [e] at hv1
      simp only [Nat.zero_mul, Nat.mul_zero] at hv1
      omega
    · exact e
  have e : 4294967296 ^ at_ * (g.toNat * D) = 4294967296 ^ at_ * ((g - 1).toNat * D) + 4294967296 ^ at_ * D := by
    rw [show g.toNat = (g - 1).toNat + 1 by omega, Nat.add_mul, Nat.mul_add, Nat.one_mul]
  have hle : 4294967296 ^ at_ * ((g - 1).toNat * D) ≤ lv r := by
    have h5 : (g - 1).toNat ≤ lv r / (4294967296 ^ at_ * D) := by omega
    have h6 := (Nat.le_div_iff_mul_le hM).1 h5
    have : 4294967296 ^ at_ * ((g - 1).toNat * D) = (g - 1).toNat * (4294967296 ^ at_ * D) := Nat.mul_left_comm ..
    omega
  have hc1 : c = 1 := by
    rcases (show c = 0 ∨ c = 1 by omega) with rfl | rfl
    · exfalso
      simp only [Int.toNat_zero, Nat.mul_zero] at hv
      omega
    · rfl
  subst hc1
  simp only [Int.toNat_one, Nat.mul_one] at hv
  refine ⟨by omega, ?_⟩
  have hv' : lv r' + 4294967296 ^ at_ * ((g - 1).toNat * D) = lv r := by omega
  refine h.same hat hD hl hb (by omega) ?_ hv'
  have h7 : lv r < 4294967296 ^ at_ * (g.toNat * D) := by omega
  have h8 : lv r < g.toNat * (4294967296 ^ at_ * D) := by
    rw [← Nat.mul_left_comm]
    exact h7
  have := (Nat.div_lt_iff_lt_mul hM).2 h8
  omega

theorem DivInv.stop {A D n : Nat} {r q : List Int} (h : DivInv A D n r q 0) : lv q = A / D ∧ lv r = A % D := by
  have h1 := h.val
  have h2 := h.lt
  simp only [Nat.pow_zero, Nat.mul_one] at h2
  have hD : 0 < D := by omega
  constructor
  · rw [← h1, Nat.mul_comm, Nat.add_comm, Nat.add_mul_div_left _ _ hD, Nat.div_eq_of_lt h2, Nat.zero_add]
  · rw [← h1, Nat.mul_comm, Nat.add_comm, Nat.add_mul_mod_self_left, Nat.mod_eq_of_lt h2]
end Go.Proofs.Ytaiillbjhdoikaa.Ev

/- Square roots of natural numbers: plain Lean. -/
namespace Go.Proofs.Ytaiillbjhdoikaa.Ev
open Go

def nsqrt : Nat → Nat
  | 0 => 0
  | n + 1 => if (nsqrt n + 1) * (nsqrt n + 1) ≤ n + 1 then nsqrt n + 1 else nsqrt n

theorem nsqrt_spec (n : Nat) : nsqrt n * nsqrt n ≤ n ∧ n < (nsqrt n + 1) * (nsqrt n + 1) := by
  induction n with
  | zero => exact ⟨by decide, by decide⟩
  | succ n ih =>
    obtain ⟨h1, h2⟩ := ih
    simp only [nsqrt]
    have e : ∀ s : Nat, (s + 1 + 1) * (s + 1 + 1) = (s + 1) * (s + 1) + 2 * s + 3 := by intro s; grind
    split
    · rename_i h
      refine ⟨h, ?_⟩
      rw [e]
      omega
    · rename_i h
      exact ⟨by omega, by omega⟩

theorem sq_lt {s t : Nat} (h : s * s < t * t) : s < t := by
  rcases Nat.lt_or_ge s t with h1 | h1
  · exact h1
  · have := Nat.mul_le_mul h1 h1
    omega

theorem nsqrt_eq {n s : Nat} (h1 : s * s ≤ n) (h2 : n < (s + 1) * (s + 1)) : nsqrt n = s := by
  obtain ⟨k1, k2⟩ := nsqrt_spec n
  have a1 := sq_lt (s := s) (t := nsqrt n + 1) (by omega)
  have a2 := sq_lt (s := nsqrt n) (t := s + 1) (by omega)
  omega

theorem am_gm (x y : Nat) : 4 * (x * y) ≤ (x + y) * (x + y) := by
  rcases Nat.le_total x y with h | h
  · obtain ⟨d, rfl⟩ := Nat.exists_eq_add_of_le h
    have : (x + (x + d)) * (x + (x + d)) = 4 * (x * (x + d)) + d * d := by grind
    omega
  · obtain ⟨d, rfl⟩ := Nat.exists_eq_add_of_le h
    have : (y + d + y) * (y + d + y) = 4 * ((y + d) * y) + d * d := by grind
    omega

/-- Newton's step stays above. -/
theorem newton_step {a s : Nat} (hs : 0 < s) : a < ((s + a / s) / 2 + 1) * ((s + a / s) / 2 + 1) := by
  have h1 : a < s * (a / s + 1) := by
    have h0 := Nat.div_add_mod a s
    have h2 := Nat.mod_lt a hs
    rw [Nat.mul_add]
    omega
  have h2 := am_gm s (a / s + 1)
  generalize a / s = q at *
  have h3 : s + (q + 1) ≤ 2 * ((s + q) / 2 + 1) := by omega
  have h4 := Nat.mul_le_mul h3 h3
  have h5 : 2 * ((s + q) / 2 + 1) * (2 * ((s + q) / 2 + 1)) = 4 * (((s + q) / 2 + 1) * ((s + q) / 2 + 1)) := by grind
  omega
theorem newton_pos {a s : Nat} (ha : 0 < a) (hs : 0 < s) : 0 < (s + a / s) / 2 := by
  rcases Nat.lt_or_ge 1 s with h | h
  · generalize a / s = q
    omega
  · have : s = 1 := by omega
    subst this
    rw [Nat.div_one]
    omega
theorem newton_stop {a s : Nat} (hs : 0 < s) (h : s ≤ (s + a / s) / 2) : s * s ≤ a := by
  have h1 : s ≤ a / s := by omega
  exact (Nat.le_div_iff_mul_le hs).1 h1
end Go.Proofs.Ytaiillbjhdoikaa.Ev

/- Words of 32 bits: plain Lean. -/
namespace Go.Proofs.Ytaiillbjhdoikaa.Ev
open Go

theorem shr31 (x : Int) : x.fdiv (2 ^ min (Int.toNat 31) IntKind.u32.bits) = x / 2147483648 := shr_lit (by decide)

theorem bit31 (v : BitVec 32) : ((v.toNat : Int)) / 2147483648 = if v.toNat.testBit 31 then 1 else 0 := by
  have h := v.isLt
  rw [Nat.testBit_eq_decide_div_mod_eq]
  by_cases g : v.toNat / 2 ^ 31 % 2 = 1
  · rw [if_pos (by simpa using g)]; omega
  · rw [if_neg (by simpa using g)]; omega
theorem bit31_of {x : Int} (h : 0 ≤ x) (h' : x < 4294967296) : (BitVec.ofInt 32 x).toNat.testBit 31 = decide (2147483648 ≤ x) := by
  rw [toNat_ofInt32 h h', Nat.testBit_eq_decide_div_mod_eq]
  rw [decide_eq_decide]
  omega

theorem w32 (v : BitVec 32) : IntKind.u32.wrap (v.toNat : Int) = v.toNat := by
  have := v.isLt
  rw [wu32]; omega
theorem not32 (x : BitVec 32) : (BitVec.ofInt 32 4294967295 ^^^ x).toNat.testBit 31 = !x.toNat.testBit 31 := by
  rw [BitVec.toNat_xor, Nat.testBit_xor]
  have : (BitVec.ofInt 32 4294967295).toNat.testBit 31 = true := by decide
  rw [this]; simp
theorem ofInt_w32 (v : BitVec 32) : BitVec.ofInt 32 (v.toNat : Int) = v := by
  apply BitVec.eq_of_toNat_eq
  rw [BitVec.toNat_ofInt]
  have := v.isLt
  omega

/-- the borrow of a difference -/
theorem borrow32 {x y d : Int} (hx : 0 ≤ x) (hx' : x < 4294967296) (hy : 0 ≤ y) (hy' : y < 4294967296) (hd : 0 ≤ d) (hd' : d < 4294967296) {b : Int} (hb : b = 0 ∨ b = 1) (h : d = (x - y - b) % 4294967296) :
    IntKind.u32.wrap ((BitVec.ofInt 32 (IntKind.u32.wrap ((BitVec.ofInt 32 (IntKind.u32.wrap ((BitVec.ofInt 32 4294967295 ^^^ BitVec.ofInt 32 x).toNat : Int)) &&& BitVec.ofInt 32 y).toNat : Int)) |||
      BitVec.ofInt 32 (IntKind.u32.wrap ((BitVec.ofInt 32 (IntKind.u32.wrap ((BitVec.ofInt 32 4294967295 ^^^ BitVec.ofInt 32 (IntKind.u32.wrap ((BitVec.ofInt 32 x ^^^ BitVec.ofInt 32 y).toNat : Int))).toNat : Int)) &&& BitVec.ofInt 32 d).toNat : Int))).toNat : Int) / 2147483648
    = if x < y + b then 1 else 0 := by
  simp only [w32, ofInt_w32]
  rw [bit31, BitVec.toNat_or, Nat.testBit_or, BitVec.toNat_and, Nat.testBit_and, BitVec.toNat_and, Nat.testBit_and, not32, not32, BitVec.toNat_xor, Nat.testBit_xor, bit31_of hx hx', bit31_of hy hy', bit31_of hd hd']
  by_cases c1 : 2147483648 ≤ x <;> by_cases c2 : 2147483648 ≤ y <;> by_cases c3 : 2147483648 ≤ d <;> simp only [c1, c2, c3, decide_true, decide_false, Bool.not_true, Bool.not_false, Bool.and_true, Bool.and_false, Bool.or_true, Bool.or_false, Bool.xor_true, Bool.xor_false, Bool.true_and, Bool.false_and, if_true, Bool.false_eq_true, if_false] <;> (split <;> omega)

theorem div32_word {hi lo : Int} (h0 : 0 ≤ hi) (h1 : hi < 4294967296) (l0 : 0 ≤ lo) (l1 : lo < 4294967296) :
    IntKind.u64.wrap ((BitVec.ofInt IntKind.u64.bits (IntKind.u64.wrap (IntKind.u64.wrap hi * 2 ^ min (Int.toNat 32) IntKind.u64.bits)) ||| BitVec.ofInt IntKind.u64.bits (IntKind.u64.wrap lo)).toNat : Int) = hi * 4294967296 + lo := by
  rw [shl32, show IntKind.u64.wrap hi = hi by (rw [wu64]; omega), show IntKind.u64.wrap lo = lo by (rw [wu64]; omega), show IntKind.u64.wrap (hi * 4294967296) = hi * 4294967296 by (rw [wu64]; omega)]
  exact or64' l0 l1 h0 h1
theorem div32_parts {hi lo y : Int} (h0 : 0 ≤ hi) (l0 : 0 ≤ lo) (l1 : lo < 4294967296) (hlt : hi < y) (hy : y < 4294967296) :
    IntKind.u32.wrap (IntKind.u64.wrap ((hi * 4294967296 + lo).tdiv (IntKind.u64.wrap y))) = (hi * 4294967296 + lo) / y ∧ IntKind.u32.wrap ((hi * 4294967296 + lo).tmod (IntKind.u64.wrap y)) = (hi * 4294967296 + lo) % y := by
  have ey : IntKind.u64.wrap y = y := by rw [wu64]; omega
  have n0 : 0 ≤ hi * 4294967296 + lo := by omega
  rw [ey, Int.tdiv_eq_ediv_of_nonneg n0, Int.tmod_eq_emod_of_nonneg n0]
  have q0 : 0 ≤ (hi * 4294967296 + lo) / y := Int.ediv_nonneg n0 (by omega)
  have q1 : (hi * 4294967296 + lo) / y < 4294967296 := by
    refine Int.ediv_lt_of_lt_mul (by omega) ?_
    have : (hi + 1) * 4294967296 ≤ y * 4294967296 := Int.mul_le_mul_of_nonneg_right (by omega) (by omega)
    omega
  have r0 := Int.emod_nonneg (hi * 4294967296 + lo) (show y ≠ 0 by omega)
  have r1 := Int.emod_lt_of_pos (hi * 4294967296 + lo) (show 0 < y by omega)
  generalize (hi * 4294967296 + lo) / y = q at *
  generalize (hi * 4294967296 + lo) % y = r at *
  constructor
  · rw [wu32, wu64]; omega
  · rw [wu32]; omega
theorem shr16' (x : Int) : x.fdiv (2 ^ min (Int.toNat 16) IntKind.u32.bits) = x / 65536 := shr_lit (by decide)
theorem shr8' (x : Int) : x.fdiv (2 ^ min (Int.toNat 8) IntKind.u32.bits) = x / 256 := shr_lit (by decide)
end Go.Proofs.Ytaiillbjhdoikaa.Ev

/- What contracts of functions over limbs use. -/
namespace Go.Proofs.Ytaiillbjhdoikaa.Ev
open Go Go.Proofs
set_option linter.unusedVariables false
set_option linter.unusedSimpArgs false

theorem E_nilS {E : Env} (hE : E = realE Try.prog) {n : Int} {K : Bool → Prop} (h : ∀ b, (b = true → n = 0) → K b) : E.nilS n K := by
  subst hE; exact h
theorem lss_t {a b : Int} (h : (realE Try.prog).cmp .lss a b = true) : a < b := of_decide_eq_true h
theorem lss_f {a b : Int} (h : (realE Try.prog).cmp .lss a b = false) : ¬ a < b := of_decide_eq_false h
theorem gtr_t {a b : Int} (h : (realE Try.prog).cmp .gtr a b = true) : b < a := of_decide_eq_true h
theorem gtr_f {a b : Int} (h : (realE Try.prog).cmp .gtr a b = false) : ¬ b < a := of_decide_eq_false h
theorem leq_t {a b : Int} (h : (realE Try.prog).cmp .leq a b = true) : a ≤ b := of_decide_eq_true h
theorem leq_f {a b : Int} (h : (realE Try.prog).cmp .leq a b = false) : ¬ a ≤ b := of_decide_eq_false h
theorem geq_t {a b : Int} (h : (realE Try.prog).cmp .geq a b = true) : b ≤ a := of_decide_eq_true h
theorem geq_f {a b : Int} (h : (realE Try.prog).cmp .geq a b = false) : ¬ b ≤ a := of_decide_eq_false h
theorem eql_t {a b : Int} (h : (realE Try.prog).cmp .eql a b = true) : a = b := by simpa only [realE, cmp_eql, decide_eq_true_eq] using h
theorem eql_f {a b : Int} (h : (realE Try.prog).cmp .eql a b = false) : ¬ a = b := by simpa only [realE, cmp_eql, decide_eq_false_iff_not] using h
theorem wi64_pred {n : Int} (h0 : 0 < n) (h1 : n < 9223372036854775808) : IntKind.i64.wrap (n - 1) = n - 1 := by rw [wi64]; omega
theorem lim_length_le' {a : List Int} (ha : Lb a) : (lim (lv a)).length ≤ a.length := lim_length_le (lv_lt ha)
end Go.Proofs.Ytaiillbjhdoikaa.Ev

/- The product of two numbers: plain Lean. -/
namespace Go.Proofs.Ytaiillbjhdoikaa.Ev
open Go

theorem or_bit {h c : Int} (h0 : 0 ≤ h) (h1 : h < 9223372036854775808) (c0 : 0 ≤ c) (c1 : c < 2) :
    IntKind.u64.wrap ((BitVec.ofInt IntKind.u64.bits (IntKind.u64.wrap (h * 2)) ||| BitVec.ofInt IntKind.u64.bits c).toNat : Int) = h * 2 + c := by
  have e1 : IntKind.u64.wrap (h * 2) = h * 2 := by rw [wu64]; omega
  rw [e1]
  show IntKind.u64.wrap ((BitVec.ofInt 64 (h * 2) ||| BitVec.ofInt 64 c).toNat : Int) = _
  rw [BitVec.toNat_or]
  have a1 : (BitVec.ofInt 64 (h * 2)).toNat = h.toNat <<< 1 := by
    have := ofInt_toNat (h * 2)
    rw [Nat.shiftLeft_eq]
    omega
  have a2 : (BitVec.ofInt 64 c).toNat = c.toNat := by
    have := ofInt_toNat c
    omega
  rw [a1, a2, ← Nat.shiftLeft_add_eq_or_of_lt (by omega), Nat.shiftLeft_eq, wu64]
  omega

/-- of a word -/
def Num.ok (n : Num) : Prop := 0 ≤ n.m ∧ n.m < 18446744073709551616

theorem Num.zero_ok : Num.zero.ok := by unfold Num.ok Num.zero; decide
theorem Num.inf_ok (b : Bool) : (Num.inf b).ok := ⟨by simp [Num.inf], by simp [Num.inf]⟩
theorem Num.fair_ok {n : Num} (h : n.ok) : n.fair.ok := by
  unfold Num.fair; split
  · exact h
  · exact Num.zero_ok

/-- what may be: nought, finite, infinite -/
theorem Num.may_cases {n : Num} (h : n.may = true) : n = Num.zero ∨ (n.kind = 1 ∧ 9223372036854775808 ≤ n.m ∧ -1048576 ≤ n.e ∧ n.e ≤ 1048576) ∨ (n = Num.inf n.neg) := by
  unfold Num.may at h
  split at h
  · exact .inl (by simpa using h)
  · split at h
    · rename_i h1
      simp only [Bool.and_eq_true, decide_eq_true_eq] at h
      exact .inr (.inl ⟨h1, h.1.1, h.1.2, h.2⟩)
    · split at h
      · rename_i h1
        simp only [Bool.and_eq_true, decide_eq_true_eq] at h
        exact .inr (.inr (by rw [Num.eq_iff]; simp [Num.inf, h1, h.1, h.2]))
      · cases h

theorem Num.fair_may (n : Num) : n.fair.may = true := by
  unfold Num.fair; split
  · assumption
  · decide
theorem Num.fair_of_may {n : Num} (h : n.may = true) : n.fair = n := by unfold Num.fair; rw [if_pos h]
theorem Num.fair_fair (n : Num) : n.fair.fair = n.fair := Num.fair_of_may n.fair_may

/-- the product, of finite ones -/
def Num.mulF (a b : Num) (up : Bool) : Num :=
  if a.m * b.m < 170141183460469231731687303715884105728 then Num.grow (a.neg != b.neg) (a.m * b.m / 9223372036854775808) (a.e + b.e + 63) (decide (a.m * b.m % 9223372036854775808 ≠ 0)) (up != (a.neg != b.neg))
  else Num.grow (a.neg != b.neg) (a.m * b.m / 18446744073709551616) (a.e + b.e + 64) (decide (a.m * b.m % 18446744073709551616 ≠ 0)) (up != (a.neg != b.neg))

def Num.mul (a b : Num) (up : Bool) : Num :=
  if a.fair.kind = 0 ∨ b.fair.kind = 0 then Num.zero else if a.fair.kind = 2 ∨ b.fair.kind = 2 then Num.inf (a.fair.neg != b.fair.neg) else Num.mulF a.fair b.fair up

theorem Num.fin_of {n : Num} (h0 : n.fair.kind ≠ 0) (h2 : n.fair.kind ≠ 2) : n.fair.kind = 1 ∧ 9223372036854775808 ≤ n.fair.m ∧ -1048576 ≤ n.fair.e ∧ n.fair.e ≤ 1048576 := by
  rcases Num.may_cases n.fair_may with h | h | h
  · rw [h] at h0; exact absurd rfl h0
  · exact h
  · rw [h] at h2; exact absurd rfl h2

theorem Num.fin {t r : Num} (h : t = r) : t.kind = r.kind ∧ t.neg = r.neg ∧ t.m = r.m ∧ t.e = r.e ∧ True := by
  subst h; exact ⟨rfl, rfl, rfl, rfl, trivial⟩

theorem Num.mul_lo {A B : Num} {up : Bool} (hA : A.ok) (hB : B.ok) (fA : -1048576 ≤ A.e ∧ A.e ≤ 1048576) (fB : -1048576 ≤ B.e ∧ B.e ≤ 1048576) (h : A.m * B.m / 18446744073709551616 < 9223372036854775808) :
    Num.grow (A.neg != B.neg) (IntKind.u64.wrap ((BitVec.ofInt IntKind.u64.bits (IntKind.u64.wrap (A.m * B.m / 18446744073709551616 * 2 ^ min (Int.toNat 1) IntKind.u64.bits)) |||
      BitVec.ofInt IntKind.u64.bits ((A.m * B.m % 18446744073709551616).fdiv (2 ^ min (Int.toNat 63) IntKind.u64.bits))).toNat : Int))
      (IntKind.i64.wrap (IntKind.i64.wrap (IntKind.i64.wrap (A.e + B.e) + 64) - 1)) (decide (IntKind.u64.wrap (A.m * B.m % 18446744073709551616 * 2 ^ min (Int.toNat 1) IntKind.u64.bits) ≠ 0)) (up != (A.neg != B.neg)) = Num.mulF A B up := by
  have hp : 0 ≤ A.m * B.m := Int.mul_nonneg hA.1 hB.1
  unfold Num.mulF
  generalize A.m * B.m = p at *
  rw [if_pos (by omega), shl1, shr63, or_bit (by omega) h (by omega) (by omega)]
  have e1 : p / 18446744073709551616 * 2 + p % 18446744073709551616 / 9223372036854775808 = p / 9223372036854775808 := by omega
  have e2 : IntKind.i64.wrap (IntKind.i64.wrap (IntKind.i64.wrap (A.e + B.e) + 64) - 1) = A.e + B.e + 63 := by
    simp only [wi64]; omega
  have e3 : decide (IntKind.u64.wrap (p % 18446744073709551616 * 2) ≠ 0) = decide (p % 9223372036854775808 ≠ 0) := by
    rw [wu64]
    apply decide_eq_decide.2
    omega
  rw [e1, e2, e3]

theorem Num.mul_hi {A B : Num} {up : Bool} (hA : A.ok) (hB : B.ok) (fA : -1048576 ≤ A.e ∧ A.e ≤ 1048576) (fB : -1048576 ≤ B.e ∧ B.e ≤ 1048576) (h : ¬ A.m * B.m / 18446744073709551616 < 9223372036854775808) :
    Num.grow (A.neg != B.neg) (A.m * B.m / 18446744073709551616) (IntKind.i64.wrap (IntKind.i64.wrap (A.e + B.e) + 64)) (decide (A.m * B.m % 18446744073709551616 ≠ 0)) (up != (A.neg != B.neg)) = Num.mulF A B up := by
  have hp : 0 ≤ A.m * B.m := Int.mul_nonneg hA.1 hB.1
  unfold Num.mulF
  generalize A.m * B.m = p at *
  rw [if_neg (by omega)]
  have e2 : IntKind.i64.wrap (IntKind.i64.wrap (A.e + B.e) + 64) = A.e + B.e + 64 := by
    simp only [wi64]; omega
  rw [e2]
end Go.Proofs.Ytaiillbjhdoikaa.Ev

/- Loops whose rounds make memory of their own: it is let go behind each. -/
namespace Go.Proofs.Ytaiillbjhdoikaa.Ev
open Go Go.RowKit
set_option linter.unusedVariables false
set_option linter.unusedSimpArgs false

/-- does it look only at the first so many blocks? -/
def in1 (k : Nat) : AV → Bool
  | .ms b _ _ _ => Nat.blt b k
  | .ptr b _ _ _ => Nat.blt b k
  | _ => true
def in2 (k : Nat) : AV → Bool
  | .agg cs => allB (in1 k) cs
  | .fn _ cs => allB (in1 k) cs
  | x => in1 k x
def in3 (k : Nat) : AV → Bool
  | .tup cs => allB (in2 k) cs
  | x => in2 k x

/-- what lies in the blocks looks only at the first so many -/
def blksIn (k : Nat) : List Blk → Prop
  | [] => True
  | .rows _ _ _ l :: r => allB (allB (in1 k)) l = true ∧ blksIn k r
  | _ :: r => blksIn k r

theorem blksIn_at {k : Nat} : ∀ {h : List Blk} {b : Nat} {w : Bool} {sz : Nat} {d : List AV} {l : List (List AV)}, blksIn k h → h[b]? = some (.rows w sz d l) → allB (allB (in1 k)) l = true
  | [], b, _, _, _, _, _, hb => by simp at hb
  | c :: r, 0, _, _, _, _, h, hb => by
    simp at hb
    subst hb
    exact h.1
  | c :: r, b + 1, _, _, _, _, h, hb => by
    have : blksIn k r := by cases c <;> first | exact h | exact h.2
    exact blksIn_at this (by simpa using hb)

section
variable {P : Program} {G : Nat → TI} {base : Nat} {O0 : Nat → Prop} {μ : Nat → Nat} {hp : List Blk} {w w' : World}

theorem wr_take {k b : Nat} (h : wrB (hp.take k) b = true) : wrB hp b = true := by
  unfold wrB at *
  rw [List.getElem?_take] at h
  split at h
  · exact h
  · simp [Blk.wr] at h
theorem dim_take {k b : Nat} {n : Nat × Nat} (h : dimB (hp.take k) b = some n) : dimB hp b = some n := by
  unfold dimB at *
  rw [List.getElem?_take] at h
  split at h
  · exact h
  · simp [Blk.dim] at h
theorem ok_take {k n : Nat} (h : okO base O0 μ hp w n) : okO base O0 μ (hp.take k) w n := by
  rcases h with h | ⟨h1, h2, h3⟩
  · exact .inl h
  · exact .inr ⟨h1, h2, fun b hb => h3 b (wr_take hb)⟩

theorem leaf_take {k : Nat} {c : AV} {v : Value} (h : LeafR (mkX base O0 μ hp w) c v) (hi : in1 k c = true) : LeafR (mkX base O0 μ (hp.take k) w) c v := by
  unfold LeafR at *
  split at h
  · obtain ⟨hb, h0, h1, A, cap, rfl, hle, hA, hd⟩ := h
    have hbk := Nat.le_of_ble_eq_true hi
    refine ⟨by simp [mkX] at hb ⊢; omega, h0, h1, A, cap, rfl, hle, hA, fun n s hn => hd n s (dim_take hn)⟩
  · obtain ⟨hb, h0, rfl, hd⟩ := h
    have hbk := Nat.le_of_ble_eq_true hi
    exact ⟨by simp [mkX] at hb ⊢; omega, h0, rfl, fun n s hn => hd n s (dim_take hn)⟩
  · exact RoV.mono (fun n hn => ok_take hn) (fun _ _ _ h => h) h

theorem HR.take {k : Nat} (H : HR base O0 μ hp w) (hb : blksIn k (hp.take k)) : HR base O0 μ (hp.take k) w := by
  refine ⟨H.all, fun b x hx => ?_, fun b hd => ?_, fun b b' h1 h2 h3 => ?_, fun b x hx => H.ty b x (by rw [List.getElem?_take] at hx; split at hx <;> first | exact hx | cases hx), H.gl⟩
  · have hx' : hp[b]? = some x := by
      rw [List.getElem?_take] at hx
      split at hx
      · exact hx
      · cases hx
    have := H.blk b x hx'
    cases x with
    | dead => trivial
    | ints wr kk l => exact this
    | rows wr sz d l =>
      obtain ⟨h1, c, e, h2, h3⟩ := this
      have hin := blksIn_at hb hx
      rw [allB_eq, List.all_eq_true] at hin
      refine ⟨h1, c, e, h2, fun i r hi => ⟨(h3 i r hi).1, fun j a hj => ?_⟩⟩
      obtain ⟨y, h4, h5⟩ := (h3 i r hi).2 j a hj
      have hr := hin r (List.mem_of_getElem? hi)
      rw [allB_eq, List.all_eq_true] at hr
      exact ⟨y, h4, leaf_take h5 (hr a (List.mem_of_getElem? hj))⟩
  · cases hn : dimB (hp.take k) b with
    | none => exact absurd hn hd
    | some n => exact H.low b (by rw [dim_take hn]; simp)
  · cases hn : dimB (hp.take k) b' with
    | none => exact absurd hn h2
    | some n => exact H.inj b b' (wr_take h1) (by rw [dim_take hn]; simp) h3

theorem u2_ptr {b sz : Nat} {row : SI} {col : Nat} : sle2 (.ptr b sz row col) (.ptr b sz row col) := rfl
theorem u2_ms {b sz : Nat} {row len : SI} : sle2 (.ms b sz row len) (.ms b sz row len) := rfl
theorem u2_slc' {sz : Nat} {n : SI} {f : Nat → List AV} : sle2 (.slc sz n f) (.slc sz n f) := ⟨rfl, rfl, fun i _ => by
  generalize f i = l
  induction l with
  | nil => trivial
  | cons x r ih => exact ⟨by unfold sle0; split <;> simp_all, ih⟩⟩
theorem t_nil {t : List (Nat × AV)} : leT t [] := trivial
theorem t_cons {t : List (Nat × AV)} {i : Nat} {v : AV} {r : List (Nat × AV)} (h : sle2 (lookT t i) v) (k : leT t r) : leT t ((i, v) :: r) := ⟨h, k⟩
end
end Go.Proofs.Ytaiillbjhdoikaa.Ev

/- The least and the greatest of some numbers: plain Lean. -/
namespace Go.Proofs.Ytaiillbjhdoikaa.Ev
open Go

theorem wi64_succ {i n : Int} (h0 : 0 ≤ i) (h1 : i < n) (h2 : n < 9223372036854775808) : IntKind.i64.wrap (i + 1) = i + 1 := by
  rw [wi64]; omega

def Num.lesser (o n : Num) : Num := if n.cmp o < 0 then n.fair else o
def Num.least (l : List Num) : Num := l.foldl Num.lesser (Num.inf false)
def Num.greater (o n : Num) : Num := if 0 < n.cmp o then n.fair else o
def Num.most (l : List Num) : Num := l.foldl Num.greater (Num.inf true)
end Go.Proofs.Ytaiillbjhdoikaa.Ev

/- Contracts: limbs cut of their noughts, their copies, which of two is less. Printed by gen.py. -/
namespace Go.Proofs.Ytaiillbjhdoikaa.Ev
open Go Go.Proofs
set_option linter.unusedVariables false
set_option linter.unusedSimpArgs false

attribute [local irreducible] Lb
theorem c_cut (a : List Int) (ha : Lb a) (hb : a.length < 9223372036854775808) : ∃ t : List Int, t = lim (lv a) ∧ CallsA Try.prog 85 [.sli .u32 a] (.sli .u32 t) := by
  refine ⟨_, rfl, ?_⟩
  generalize hr : lim (lv a) = r
  refine callsA_of hG hm Try.func85 (by kernel_rfl) ?_
  intro E hE lp hl
  cbv
  refine E_loop hE hG hm hl (fun (p : List Int) => (⟨[(0, .sli .u32 p), (2, .s0)], []⟩ : St)) (fun p => p.length) (fun p => ∃ k : Nat, k ≤ a.length ∧ p = a.take k ∧ lv (a.take k) = lv a) ⟨a, ⟨a.length, Nat.le_refl _, by simp, by simp⟩, stLe rfl ?_⟩ ?_
  · (repeat' (first | exact t_nil | apply t_cons | exact u2_sli | exact u2_int | exact u2_bool | exact u2_ms | exact u2_ptr | exact (rfl : sle2 .s0 .s0)))
  rintro p ⟨k, hk, hp, hv⟩
  have hpl : p.length = k := by rw [hp]; simp; omega
  cbv
  repeat' (first
    | (refine E_br hE (fun h => ?_) (fun h => ?_) <;> cbv)
    | (refine E_nm hE (fun v hv => ?_); cbv)
    | (refine E_nilS hE (fun b hb => ?_); cbv)
    | fail)
  case refine_2.refine_1.refine_1.refine_1.refine_1.refine_1.refine_1 =>
    refine ⟨E.sub p 0 (E.bin .sub .i64 (E.len p) 1), ?_, ⟨k - 1, ?_, ?_, ?_⟩, stLe rfl ?_⟩
    rotate_right
    · (repeat' (first | exact t_nil | apply t_cons | exact u2_sli | exact u2_int | exact u2_bool | exact u2_ms | exact u2_ptr | exact (rfl : sle2 .s0 .s0)))
    all_goals (subst hE; simp only [NatCast.natCast, Int.ofNat_eq_natCast, realE, cmp_eql, cmp_neq, cmp_lss, cmp_leq, cmp_gtr, cmp_geq, intBinR, decide_eq_true_eq, decide_eq_false_iff_not, SI.val, SB.val, Num.eta, Iv.eta] at *)
    all_goals (rw [hpl] at *; rw [wi64_pred (by omega) (by omega)] at *)
    all_goals (have e0 : ((k : Int) - 1).toNat = k - 1 := by omega)
    · simp; omega
    · omega
    · rw [e0, hp]; simp [List.take_take]
    · rw [lv_cut_step (by omega) hk ?_, hv]
      rw [← getD_take (k := k) (by omega), ← hp, ← e0]; assumption
  all_goals (subst hE; simp only [NatCast.natCast, Int.ofNat_eq_natCast, realE, cmp_eql, cmp_neq, cmp_lss, cmp_leq, cmp_gtr, cmp_geq, intBinR, decide_eq_true_eq, decide_eq_false_iff_not, SI.val, SB.val, Num.eta, Iv.eta] at *)
  all_goals (rw [hpl] at *)
  all_goals (try (rw [wi64_pred (by omega) (by omega)] at *))
  all_goals (try (exfalso; omega))
  all_goals (rw [← hr, hp])
  · exact cut_end ha hk (.inr (by rw [← getD_take (k := k) (by omega), ← hp]; rw [show ((k : Int) - 1).toNat = k - 1 by omega] at h; exact h)) hv
  · exact cut_end ha hk (.inl (by omega)) hv

theorem c_Clone (a : List Int) (hlb : a.length ≤ 268435456) : ∃ t : List Int, t = a ∧ CallsA Try.prog 97 [.sli .u32 a] (.sli .u32 t) := by
  refine ⟨_, rfl, ?_⟩
  generalize hr : a = r
  refine callsA_of hG hm Try.func97 (by kernel_rfl) ?_
  intro E hE lp hl
  cbv
  repeat' (first
    | (refine E_br hE (fun h => ?_) (fun h => ?_) <;> cbv)
    | (refine E_nm hE (fun v hv => ?_); cbv)
    | (refine E_nilS hE (fun b hb => ?_); cbv)
    | fail)
  all_goals (subst hE; simp only [NatCast.natCast, Int.ofNat_eq_natCast, realE, cmp_eql, cmp_neq, cmp_lss, cmp_leq, cmp_gtr, cmp_geq, intBinR, decide_eq_true_eq, decide_eq_false_iff_not, SI.val, SB.val, Num.eta, Iv.eta] at *)
  · exact List.length_eq_zero_iff.1 (by have := hb h; omega)
  · simp
  · subst hr; omega

theorem c_natCmp (a b : List Int) (ha : Lb a) (hb : Lb b) (hla : a.length ≤ 268435456) (hlb : b.length ≤ 268435456) : ∃ t : Int, t = (if lv a < lv b then -1 else if lv b < lv a then 1 else 0 : Int) ∧ CallsA Try.prog 40 [.sli .u32 a, .sli .u32 b] (.int .i64 (.s t)) := by
  refine ⟨_, rfl, ?_⟩
  generalize hr : (if lv a < lv b then -1 else if lv b < lv a then 1 else 0 : Int) = r
  have hl1 := lim_length_le' ha
  have hl2 := lim_length_le' hb
  have l1 := lim_lb (lv a)
  have l2 := lim_lb (lv b)
  have v1 := lv_lim (lv a)
  have v2 := lv_lim (lv b)
  have k1 : (lim (lv a)).length < (lim (lv b)).length → r = -1 := by
    intro h; rw [← hr, if_pos (lim_len_lt h)]
  have k2 : (lim (lv b)).length < (lim (lv a)).length → r = 1 := by
    intro h; have := lim_len_lt h; rw [← hr, if_neg (by omega), if_pos this]
  have k3 : lv (lim (lv a)) < lv (lim (lv b)) → r = -1 := by
    intro h; rw [v1, v2] at h; rw [← hr, if_pos h]
  have k4 : lv (lim (lv b)) < lv (lim (lv a)) → r = 1 := by
    intro h; rw [v1, v2] at h; rw [← hr, if_neg (by omega), if_pos h]
  have k5 : lim (lv a) = lim (lv b) → r = 0 := by
    intro h; have := lim_inj h; rw [← hr, if_neg (by omega), if_neg (by omega)]
  refine callsA_of hG hm Try.func40 (by kernel_rfl) ?_
  intro E hE lp hl
  cbv
  (apply E_callX hE (c_cut a ha (by omega)); (case hf => rfl); (case hc => (cbv <;> trivial)); (case hle => exact ⟨u2_sli, trivial⟩); intro x hx; cbv)
  (apply E_callX hE (c_cut b hb (by omega)); (case hf => rfl); (case hc => (cbv <;> trivial)); (case hle => exact ⟨u2_sli, trivial⟩); intro y hy; cbv)
  repeat' (first
    | (refine E_br hE (fun h => ?_) (fun h => ?_) <;> cbv)
    | (refine E_nm hE (fun v hv => ?_); cbv)
    | (refine E_nilS hE (fun b hb => ?_); cbv)
    | fail)
  case hK.hK.refine_1 => subst hE; simp only [NatCast.natCast, Int.ofNat_eq_natCast, realE, cmp_eql, cmp_neq, cmp_lss, cmp_leq, cmp_gtr, cmp_geq, intBinR, decide_eq_true_eq, decide_eq_false_iff_not, SI.val, SB.val, Num.eta, Iv.eta] at *; rw [k1 (by rw [← hx, ← hy]; omega)]
  case hK.hK.refine_2.refine_1 => subst hE; simp only [NatCast.natCast, Int.ofNat_eq_natCast, realE, cmp_eql, cmp_neq, cmp_lss, cmp_leq, cmp_gtr, cmp_geq, intBinR, decide_eq_true_eq, decide_eq_false_iff_not, SI.val, SB.val, Num.eta, Iv.eta] at *; rw [k2 (by rw [← hx, ← hy]; omega)]
  have hlen : x.length = y.length := by subst hE; simp only [NatCast.natCast, Int.ofNat_eq_natCast, realE, cmp_eql, cmp_neq, cmp_lss, cmp_leq, cmp_gtr, cmp_geq, intBinR, decide_eq_true_eq, decide_eq_false_iff_not, SI.val, SB.val, Num.eta, Iv.eta] at *; omega
  rw [← hx] at k1 k2 k3 k4 k5 hl1 l1
  rw [← hy] at k1 k2 k3 k4 k5 hl2 l2
  obtain ⟨m, em⟩ : ∃ m : Int → Nat, ∀ i, m i = (x.length - i).toNat := ⟨_, fun _ => rfl⟩
  obtain ⟨ok, eok⟩ : ∃ ok : Int → Prop, ∀ i, ok i ↔ 0 ≤ i ∧ i ≤ x.length ∧ x.drop (x.length - i).toNat = y.drop (x.length - i).toNat := ⟨_, fun _ => Iff.rfl⟩
  refine E_loop hE hG hm hl (fun i : Int => (⟨[(0, .sli .u32 x), (1, .sli .u32 y), (24, .int .i64 (.s (E.len x))), (25, .int .i64 (.s i))], []⟩ : St)) m ok ⟨0, (eok 0).2 ⟨by omega, by omega, ?_⟩, stLe rfl ?_⟩ ?_
  · rw [show ((x.length : Int) - 0).toNat = x.length by omega, List.drop_length, List.drop_eq_nil_of_le (by omega)]
  · (repeat' (first | exact t_nil | apply t_cons | exact u2_sli | exact u2_int | exact u2_bool | exact u2_ms | exact u2_ptr | exact (rfl : sle2 .s0 .s0)))
  intro i hok
  obtain ⟨h1, h2, h3⟩ := (eok i).1 hok
  have low : ∀ v : Int, v = x.length - 1 - i → i < x.length → x.getD v.toNat 0 < y.getD v.toNat 0 → -1 = r := by
    intro v hv hi h
    exact (k3 (cmp_step l1 l2 (k := v.toNat) hlen (by omega) (by rw [show v.toNat + 1 = ((x.length : Int) - i).toNat by omega]; exact h3) h)).symm
  have high : ∀ v : Int, v = x.length - 1 - i → i < x.length → y.getD v.toNat 0 < x.getD v.toNat 0 → 1 = r := by
    intro v hv hi h
    exact (k4 (cmp_step l2 l1 (k := v.toNat) hlen.symm (by omega) (by rw [show v.toNat + 1 = ((x.length : Int) - i).toNat by omega]; exact h3.symm) h)).symm
  have same : ∀ v : Int, v = x.length - 1 - i → i < x.length → ¬ y.getD v.toNat 0 < x.getD v.toNat 0 → ¬ x.getD v.toNat 0 < y.getD v.toNat 0 → x.drop (x.length - (i + 1)).toNat = y.drop (x.length - (i + 1)).toNat := by
    intro v hv hi h h'
    rw [show ((x.length : Int) - (i + 1)).toNat = v.toNat by omega]
    exact drop_step hlen (by omega) (by rw [show v.toNat + 1 = ((x.length : Int) - i).toNat by omega]; exact h3) (by omega)
  have done : ¬ i < x.length → 0 = r := by
    intro h
    rw [k5 (by rw [show ((x.length : Int) - i).toNat = 0 by omega] at h3; simpa using h3)]
  clear h3 k1 k2 k3 k4 k5
  cbv
  repeat' (first
    | (refine E_br hE (fun h => ?_) (fun h => ?_) <;> cbv)
    | (refine E_nm hE (fun v hv => ?_); cbv)
    | (refine E_nilS hE (fun b hb => ?_); cbv)
    | fail)
  all_goals (try refine ⟨E.bin .add .i64 i 1, ?_, ?_, stLe rfl ?_⟩)
  all_goals (try ((repeat' (first | exact t_nil | apply t_cons | exact u2_sli | exact u2_int | exact u2_bool | exact u2_ms | exact u2_ptr | exact (rfl : sle2 .s0 .s0))); done))
  all_goals (subst hE; simp only [NatCast.natCast, Int.ofNat_eq_natCast, realE, cmp_eql, cmp_neq, cmp_lss, cmp_leq, cmp_gtr, cmp_geq, intBinR, decide_eq_true_eq, decide_eq_false_iff_not, SI.val, SB.val, Num.eta, Iv.eta] at *)
  all_goals (try exact done ‹_›)
  all_goals (have hi : i < x.length := ‹_›; try rw [wi64_succ h1 hi (by omega)])
  all_goals (have hv : ∀ v w, w = i → v = IntKind.i64.wrap (IntKind.i64.wrap ((x.length : Int) - 1) - w) → v = x.length - 1 - i := by (intro v w h h'; rw [wi64, wi64] at h'; omega))
  all_goals (replace hv := hv _ _ ‹_ = i› ‹_›)
  all_goals (first | omega | (rw [em, em]; omega) | exact low _ hv hi ‹_› | exact high _ hv hi ‹_› | exact (eok _).2 ⟨by omega, by omega, same _ hv hi ‹_› ‹_›⟩)

end Go.Proofs.Ytaiillbjhdoikaa.Ev

/- Contracts: limbs of their own, cut of their noughts. Printed by gen.py. -/
namespace Go.Proofs.Ytaiillbjhdoikaa.Ev
open Go Go.Proofs
set_option linter.unusedVariables false
set_option linter.unusedSimpArgs false

attribute [local irreducible] Lb
theorem c_Trim (a : List Int) (ha : Lb a) (hb : a.length ≤ 268435456) : ∃ t : List Int, t = lim (lv a) ∧ CallsA Try.prog 86 [.sli .u32 a] (.sli .u32 t) := by
  refine ⟨_, rfl, ?_⟩
  generalize hr : lim (lv a) = r
  have hl' := lim_length_le' ha
  refine callsA_of hG hm Try.func86 (by kernel_rfl) ?_
  intro E hE lp hl
  cbv
  repeat' (first
    | (refine E_br hE (fun h => ?_) (fun h => ?_) <;> cbv)
    | (refine E_nm hE (fun v hv => ?_); cbv)
    | (refine E_nilS hE (fun b hb => ?_); cbv)
    | (apply E_callX hE (c_cut _ ha ?_); (case hf => rfl); (case hc => (cbv <;> trivial)); (case hle => (repeat' (first | exact u_nil | apply u_cons | apply u2_agg | exact u2_int | exact u1_int | exact u2_bool | exact u1_bool | exact u2_sli | exact u1_sli | exact u2_s0 | exact u1_s0))); all_goals (first | (intro t ht; cbv) | (omega)))
    | (apply E_callX hE (c_Clone _ ?_); (case hf => rfl); (case hc => (cbv <;> trivial)); (case hle => (repeat' (first | exact u_nil | apply u_cons | apply u2_agg | exact u2_int | exact u1_int | exact u2_bool | exact u1_bool | exact u2_sli | exact u1_sli | exact u2_s0 | exact u1_s0))); all_goals (first | (intro t ht; cbv) | ((subst_vars; omega))))
    | fail)
  subst_vars
  rfl

end Go.Proofs.Ytaiillbjhdoikaa.Ev

/- Steps of the loops over limbs, as the words of the program reckon them. -/
namespace Go.Proofs.Ytaiillbjhdoikaa.Ev
open Go

theorem wi64_id {n : Int} (h0 : 0 ≤ n) (h1 : n < 9223372036854775808) : IntKind.i64.wrap n = n := by rw [wi64]; omega

theorem mul_next {a b out : List Int} {i k c : Int} (ha : Lb a) (hb : Lb b) (hla : a.length < 134217728) (hlb : b.length < 134217728) (h1 : 0 ≤ i) (h2 : i < a.length) (h3 : 0 ≤ k) (h4 : k < b.length)
    (inv : MulInv a b out i.toNat k.toNat c) {i' k' x y v v2 j : Int} (ei : i' = i) (ek : k' = k) (ex : x = a.getD i.toNat 0) (ey : y = b.getD k.toNat 0)
    (ev : v = intBinR .add .u64 (intBinR .add .u64 (intBinR .mul .u64 (IntKind.u64.wrap x) (IntKind.u64.wrap y)) (IntKind.u64.wrap (out.getD (intBinR .add .i64 i' k').toNat 0))) c)
    (e2 : v2 = intBinR .shr .u64 v 32) (ej : j = intBinR .add .i64 k 1) :
    0 ≤ j ∧ j ≤ b.length ∧ ((b.length : Int) - j).toNat < ((b.length : Int) - k).toNat ∧ MulInv a b (out.set (intBinR .add .i64 i' k').toNat (IntKind.u32.wrap v)) i.toNat j.toNat v2 := by
  have hx := ha.getD i.toNat
  have hy := hb.getD k.toNat
  have hz := inv.lb.getD (i.toNat + k.toNat)
  have hd := mul_digit hx hy hz ⟨inv.c0, inv.c1⟩
  have st := inv.step ha hb (by omega) (by omega)
  subst ei ek ex ey
  have eik : (intBinR .add .i64 i' k').toNat = i'.toNat + k'.toNat := by
    show (IntKind.i64.wrap (i' + k')).toNat = _
    rw [wi64_id (by omega) (by omega)]; omega
  have ej' : j = k' + 1 := by rw [ej]; show IntKind.i64.wrap (k' + 1) = _; rw [wi64_id (by omega) (by omega)]
  rw [eik] at ev ⊢
  generalize a.getD i'.toNat 0 = x at *
  generalize b.getD k'.toNat 0 = y at *
  generalize out.getD (i'.toNat + k'.toNat) 0 = z at *
  have c0 := inv.c0
  have c1 := inv.c1
  have ev' : v = x * y + z + c := by
    rw [ev]
    show IntKind.u64.wrap (IntKind.u64.wrap (IntKind.u64.wrap (IntKind.u64.wrap x * IntKind.u64.wrap y) + IntKind.u64.wrap z) + c) = _
    simp only [wu64]
    rw [Int.emod_eq_of_lt hx.1 (by omega), Int.emod_eq_of_lt hy.1 (by omega), Int.emod_eq_of_lt hz.1 (by omega)]
    generalize x * y = p at *
    omega
  have e2' : v2 = v / 4294967296 := by rw [e2]; exact shr32 v
  rw [wu32, e2', ev', ej', show (k' + 1).toNat = k'.toNat + 1 by omega]
  exact ⟨by omega, by omega, by omega, st⟩

theorem mul_exit {a b out : List Int} {i k c : Int} (hla : a.length < 134217728) (hlb : b.length < 134217728) (h1 : 0 ≤ i) (h2 : i < a.length) (h3 : k ≤ b.length) (h4 : ¬ k < b.length)
    (inv : MulInv a b out i.toNat k.toNat c) {i' j : Int} (ei : i' = i) (ej : j = intBinR .add .i64 i 1) :
    0 ≤ j ∧ j ≤ a.length ∧ ((a.length : Int) - j).toNat < ((a.length : Int) - i).toNat ∧ MulInv a b (out.set (intBinR .add .i64 i' b.length).toNat (IntKind.u32.wrap c)) j.toNat 0 0 := by
  subst ei
  have e : k.toNat = b.length := by omega
  rw [e] at inv
  have st := inv.next (by omega)
  have eik : (intBinR .add .i64 i' b.length).toNat = i'.toNat + b.length := by
    show (IntKind.i64.wrap (i' + b.length)).toNat = _
    rw [wi64_id (by omega) (by omega)]; omega
  have ej' : j = i' + 1 := by rw [ej]; show IntKind.i64.wrap (i' + 1) = _; rw [wi64_id (by omega) (by omega)]
  have c0 := inv.c0
  have c1 := inv.c1
  rw [eik, ej', wu32, Int.emod_eq_of_lt c0 c1, show (i' + 1).toNat = i'.toNat + 1 by omega]
  exact ⟨by omega, by omega, by omega, st⟩
end Go.Proofs.Ytaiillbjhdoikaa.Ev

/- Steps of the loops that shift limbs, as the words of the program reckon them. -/
namespace Go.Proofs.Ytaiillbjhdoikaa.Ev
open Go

theorem quo32 {n : Int} (h : 0 ≤ n) (h' : n < 9223372036854775808) : intBinR .quo .i64 n 32 = n / 32 := by
  show IntKind.i64.wrap (n.tdiv 32) = _
  rw [Int.tdiv_eq_ediv_of_nonneg h, wi64_id (by omega) (by omega)]
theorem rem32 {n : Int} (h : 0 ≤ n) : intBinR .rem .i64 n 32 = n % 32 := by
  show n.tmod 32 = _
  exact Int.tmod_eq_emod_of_nonneg h

theorem pow2_cast (k : Nat) : (2 : Int) ^ k = ((2 ^ k : Nat) : Int) := by push_cast; rfl

theorem getD_past {a : List Int} {i : Nat} (h : a.length ≤ i) : a.getD i 0 = 0 := by simp [List.getD, List.getElem?_eq_none h]

theorem shl_next {a out : List Int} {n i i' l r x y j : Int} (ha : Lb a) (hla : a.length < 134217728) (hn : 1 ≤ n) (hn' : n ≤ 16777216) (h1 : 0 ≤ i) (h2 : i < a.length)
    (inv : ShlInv a out (n / 32).toNat (n % 32).toNat i.toNat) (ei : i' = i) (el : l = intBinR .quo .i64 n 32) (er : r = intBinR .rem .i64 n 32) (ex : x = a.getD i.toNat 0)
    (ey : y = intBinR .shl .u64 (IntKind.u64.wrap x) r) (ej : j = intBinR .add .i64 i 1) :
    0 ≤ j ∧ j ≤ a.length ∧ ((a.length : Int) - j).toNat < ((a.length : Int) - i).toNat ∧
    ShlInv a ((out.set (intBinR .add .i64 i' l).toNat (intBinR .or .u32 (out.getD (intBinR .add .i64 i' l).toNat 0) (IntKind.u32.wrap y))).set (intBinR .add .i64 (intBinR .add .i64 i' l) 1).toNat
      (intBinR .or .u32 ((out.set (intBinR .add .i64 i' l).toNat (intBinR .or .u32 (out.getD (intBinR .add .i64 i' l).toNat 0) (IntKind.u32.wrap y))).getD (intBinR .add .i64 (intBinR .add .i64 i' l) 1).toNat 0) (IntKind.u32.wrap (intBinR .shr .u64 y 32))))
      (n / 32).toNat (n % 32).toNat j.toNat := by
  subst ei
  rw [quo32 (by omega) (by omega)] at el
  rw [rem32 (by omega)] at er
  have hk : (n % 32).toNat < 32 := by omega
  have st := inv.step ha hk (by omega)
  have hx := ha.getD i'.toNat
  rw [← ex] at st hx
  have lo := inv.low
  have lb := inv.lb.getD (i'.toNat + (n / 32).toNat)
  have z := inv.zero (i'.toNat + (n / 32).toNat + 1) (by omega)
  have hd := shl_digit hx.1 hx.2 hk
  have ep : (intBinR .add .i64 i' l).toNat = i'.toNat + (n / 32).toNat := by
    show (IntKind.i64.wrap (i' + l)).toNat = _
    rw [wi64_id (by omega) (by omega)]; omega
  have eq : (intBinR .add .i64 (intBinR .add .i64 i' l) 1).toNat = i'.toNat + (n / 32).toNat + 1 := by
    show (IntKind.i64.wrap (IntKind.i64.wrap (i' + l) + 1)).toNat = _
    rw [wi64_id (n := i' + l) (by omega) (by omega), wi64_id (by omega) (by omega)]; omega
  have ey' : y = x * 2 ^ (n % 32).toNat := by
    rw [ey]
    show IntKind.u64.wrap (IntKind.u64.wrap x * 2 ^ (min r.toNat IntKind.u64.bits)) = _
    have e : min r.toNat IntKind.u64.bits = (n % 32).toNat := by
      rw [er]; exact Nat.min_eq_left (by show _ ≤ 64; omega)
    rw [e, wu64 x, Int.emod_eq_of_lt hx.1 (by omega), wu64, Int.emod_eq_of_lt hd.2.1 hd.1]
  have e32 : intBinR .shr .u64 y 32 = y / 4294967296 := shr32 y
  have ej' : j = i' + 1 := by rw [ej]; show IntKind.i64.wrap (i' + 1) = _; rw [wi64_id (by omega) (by omega)]
  obtain ⟨d1, d2, ⟨m, hm0, hm1, hm2⟩, d4, d5⟩ := hd
  have dlt : x * 2 ^ (n % 32).toNat / 4294967296 < 4294967296 := by
    have := two_pow_le (k := (n % 32).toNat) (by omega)
    rw [pow2_cast] at d5
    omega
  rw [ep, eq, e32, ey', getD_set_ne (by omega), z, wu32, wu32, ej', show (i' + 1).toNat = i'.toNat + 1 by omega]
  rw [Int.emod_eq_of_lt (a := x * 2 ^ (n % 32).toNat / 4294967296) d4 dlt]
  have o1 : intBinR .or .u32 (out.getD (i'.toNat + (n / 32).toNat) 0) (x * 2 ^ (n % 32).toNat % 4294967296) = out.getD (i'.toNat + (n / 32).toNat) 0 + x * 2 ^ (n % 32).toNat % 4294967296 := by
    rw [hm1]
    exact or32 lb.1 lo hm0 (by omega)
  have o2 : intBinR .or .u32 0 (x * 2 ^ (n % 32).toNat / 4294967296) = x * 2 ^ (n % 32).toNat / 4294967296 := or32z d4 dlt
  rw [o1, o2]
  exact ⟨by omega, by omega, by omega, st⟩

theorem shr_next {a out : List Int} {n i i' l r v w j : Int} (ha : Lb a) (hla : a.length < 134217728) (hn : 1 ≤ n) (hn' : n < 32 * a.length) (h1 : 0 ≤ i) (h2 : i < (a.length : Int) - n / 32)
    (inv : ShrInv a out (n / 32).toNat (n % 32).toNat i.toNat) (ei : i' = i) (el : l = intBinR .quo .i64 n 32) (er : r = intBinR .rem .i64 n 32)
    (ev : v = IntKind.u64.wrap (a.getD (intBinR .add .i64 i' l).toNat 0))
    (ew : (¬ intBinR .add .i64 (intBinR .add .i64 i' l) 1 < a.length ∧ w = v) ∨ w = intBinR .or .u64 v (intBinR .shl .u64 (IntKind.u64.wrap (a.getD (intBinR .add .i64 (intBinR .add .i64 i' l) 1).toNat 0)) 32))
    (ej : j = intBinR .add .i64 i 1) :
    0 ≤ j ∧ j ≤ (a.length : Int) - n / 32 ∧ ((a.length : Int) - j).toNat < ((a.length : Int) - i).toNat ∧
    ShrInv a (out.set i'.toNat (IntKind.u32.wrap (intBinR .shr .u64 w r))) (n / 32).toNat (n % 32).toNat j.toNat := by
  subst ei
  rw [quo32 (by omega) (by omega)] at el
  rw [rem32 (by omega)] at er
  have hk : (n % 32).toNat < 32 := by omega
  have st := inv.step ha hk (by omega) (by omega)
  have ep : (intBinR .add .i64 i' l).toNat = i'.toNat + (n / 32).toNat := by
    show (IntKind.i64.wrap (i' + l)).toNat = _
    rw [wi64_id (by omega) (by omega)]; omega
  have eq' : intBinR .add .i64 (intBinR .add .i64 i' l) 1 = i' + l + 1 := by
    show IntKind.i64.wrap (IntKind.i64.wrap (i' + l) + 1) = _
    rw [wi64_id (n := i' + l) (by omega) (by omega), wi64_id (by omega) (by omega)]
  have eq : (intBinR .add .i64 (intBinR .add .i64 i' l) 1).toNat = i'.toNat + (n / 32).toNat + 1 := by rw [eq']; omega
  have hx := ha.getD (i'.toNat + (n / 32).toNat)
  have hy := ha.getD (i'.toNat + (n / 32).toNat + 1)
  rw [ep] at ev
  rw [eq] at ew
  have ej' : j = i' + 1 := by rw [ej]; show IntKind.i64.wrap (i' + 1) = _; rw [wi64_id (by omega) (by omega)]
  have past : ¬ intBinR .add .i64 (intBinR .add .i64 i' l) 1 < a.length → a.getD (i'.toNat + (n / 32).toNat + 1) 0 = 0 := by
    intro h; rw [eq'] at h; exact getD_past (by omega)
  generalize a.getD (i'.toNat + (n / 32).toNat) 0 = x at *
  generalize a.getD (i'.toNat + (n / 32).toNat + 1) 0 = y at *
  have ev' : v = x := by rw [ev, wu64, Int.emod_eq_of_lt hx.1 (by omega)]
  have ew' : w = x + y * 4294967296 := by
    rcases ew with ⟨h, e⟩ | e
    · rw [e, past h, ev']; omega
    · rw [e, ev']
      have e2 : intBinR .shl .u64 (IntKind.u64.wrap y) 32 = y * 4294967296 := by
        show IntKind.u64.wrap (IntKind.u64.wrap y * 2 ^ min (Int.toNat 32) IntKind.u64.bits) = _
        rw [shl32, wu64 y, Int.emod_eq_of_lt hy.1 (by omega), wu64]
        omega
      rw [e2]
      exact or64 hx.1 hx.2 hy.1 hy.2
  have e3 : intBinR .shr .u64 w r = w / 2 ^ (n % 32).toNat := by
    have e : min r.toNat IntKind.u64.bits = (n % 32).toNat := by
      rw [er]; exact Nat.min_eq_left (by show _ ≤ 64; omega)
    show w.fdiv (2 ^ (min r.toNat IntKind.u64.bits)) = _
    rw [e, pow2_cast]
    exact fdiv_pos w _
  rw [e3, ew', wu32, ej', show (i' + 1).toNat = i'.toNat + 1 by omega]
  exact ⟨by omega, by omega, by omega, st⟩
end Go.Proofs.Ytaiillbjhdoikaa.Ev

/- Contracts: sums and differences of words of 32 bits. Printed by gen.py out of C22a.spec. -/
namespace Go.Proofs.Ytaiillbjhdoikaa.Ev
open Go Go.Proofs
set_option linter.unusedVariables false
set_option linter.unusedSimpArgs false

theorem c_Add32 (x : Int) (y : Int) (c : Int) (hx : 0 ≤ x) (hx' : x < 4294967296) (hy : 0 ≤ y) (hy' : y < 4294967296) (c0 : 0 ≤ c) (c1 : c ≤ 1) : ∃ t : Int × Int, t = ((x + y + c) % 4294967296, (x + y + c) / 4294967296) ∧ CallsA Try.prog 88 [.int .u32 (.s x), .int .u32 (.s y), .int .u32 (.s c)] (.tup [.int .u32 (.s t.1), .int .u32 (.s t.2)]) := by
  refine ⟨_, rfl, ?_⟩
  generalize hr : ((x + y + c) % 4294967296, (x + y + c) / 4294967296) = r
  refine callsA_of hG hm Try.func88 (by kernel_rfl) ?_
  intro E hE lp hl
  cbv
  repeat' (first
    | (refine E_br hE (fun h => ?_) (fun h => ?_) <;> cbv)
    | (refine E_nm hE (fun v hv => ?_); cbv)
    | fail)
  all_goals (subst hE; subst hr)
  all_goals (try simp only [realE, cmp_eql, cmp_neq, cmp_lss, cmp_leq, cmp_gtr, cmp_geq, intBinR, decide_eq_true_eq, decide_eq_false_iff_not, SI.val, SB.val, Num.eta, Iv.eta] at *)
  all_goals (simp only [shr32, wu64, wu32] at *)
  all_goals (refine ⟨?_, ?_, trivial⟩ <;> omega)

theorem c_Sub32 (x : Int) (y : Int) (c : Int) (hx : 0 ≤ x) (hx' : x < 4294967296) (hy : 0 ≤ y) (hy' : y < 4294967296) (c0 : 0 ≤ c) (c1 : c ≤ 1) : ∃ t : Int × Int, t = ((x - y - c) % 4294967296, (if x < y + c then 1 else 0 : Int)) ∧ CallsA Try.prog 89 [.int .u32 (.s x), .int .u32 (.s y), .int .u32 (.s c)] (.tup [.int .u32 (.s t.1), .int .u32 (.s t.2)]) := by
  refine ⟨_, rfl, ?_⟩
  generalize hr : ((x - y - c) % 4294967296, (if x < y + c then 1 else 0 : Int)) = r
  refine callsA_of hG hm Try.func89 (by kernel_rfl) ?_
  intro E hE lp hl
  cbv
  repeat' (first
    | (refine E_br hE (fun h => ?_) (fun h => ?_) <;> cbv)
    | (refine E_nm hE (fun v hv => ?_); cbv)
    | fail)
  all_goals (subst hE; subst hr)
  all_goals (try simp only [realE, cmp_eql, cmp_neq, cmp_lss, cmp_leq, cmp_gtr, cmp_geq, intBinR, decide_eq_true_eq, decide_eq_false_iff_not, SI.val, SB.val, Num.eta, Iv.eta] at *)
  rename_i d hd
  rw [shr31] at hv
  have e : d = (x - y - c) % 4294967296 := by rw [hd, wu32, wu32]; omega
  refine ⟨e, ?_, trivial⟩
  rw [hv]
  exact borrow32 hx hx' hy hy' (by omega) (by omega) (b := c) (by omega) e

end Go.Proofs.Ytaiillbjhdoikaa.Ev

/- Contracts: the sum of limbs. Printed by gen.py. -/
namespace Go.Proofs.Ytaiillbjhdoikaa.Ev
open Go Go.Proofs
set_option linter.unusedVariables false
set_option linter.unusedSimpArgs false


attribute [local irreducible] Lb
theorem sub_all {l : List Int} {n : Int} (h : n = l.length) : (l.drop (0 : Int).toNat).take n.toNat = l := by subst h; simp

def addI (E : Env) (x y : List Int) : Int × Int × List Int → St := fun p => ⟨[(0, .sli .u32 x), (1, .sli .u32 y), (5, .ms 0 1 (.l 0) (.s (E.bin .add .i64 (E.len x) 1))), (6, .int .u32 (.s p.2.1)), (21, .int .i64 (.s (E.len x))), (22, .int .i64 (.s p.1))], [.ints true .u32 p.2.2]⟩

theorem c_natAdd (a b : List Int) (ha : Lb a) (hb : Lb b) (hla : a.length < 268435456) (hlb : b.length < 268435456) : ∃ t : List Int, t = lim (lv a + lv b) ∧ CallsA Try.prog 44 [.sli .u32 a, .sli .u32 b] (.sli .u32 t) := by
  refine ⟨_, rfl, ?_⟩
  generalize hr : lim (lv a + lv b) = r
  refine callsA_of hG hm Try.func44 (by kernel_rfl) ?_
  intro E hE lp hl
  cbv
  refine E_br hE (fun h => ?_) (fun h => ?_)
  · have hsum : lv b + lv a = lv a + lv b := Nat.add_comm _ _
    have hxy : a.length ≤ b.length := by subst hE; simp only [NatCast.natCast, Int.ofNat_eq_natCast, realE, cmp_eql, cmp_neq, cmp_lss, cmp_leq, cmp_gtr, cmp_geq, intBinR, decide_eq_true_eq, decide_eq_false_iff_not, SI.val, SB.val, Num.eta, Iv.eta] at *; omega

    have h32 : IntKind.i64.wrap ((b.length : Int) + 1) = b.length + 1 := wi64_id (by omega) (by omega)
    cbv
    repeat' (first
    | (refine E_br hE (fun h => ?_) (fun h => ?_) <;> cbv)
    | (refine E_nm hE (fun v hv => ?_); cbv)
    | (refine E_nilS hE (fun b hb => ?_); cbv)
    | fail)
    all_goals (try (exfalso; subst hE; simp only [NatCast.natCast, Int.ofNat_eq_natCast, realE, cmp_eql, cmp_neq, cmp_lss, cmp_leq, cmp_gtr, cmp_geq, intBinR, decide_eq_true_eq, decide_eq_false_iff_not, SI.val, SB.val, Num.eta, Iv.eta] at *; rw [h32] at *; omega))
    obtain ⟨m, em⟩ : ∃ m : Int × Int × List Int → Nat, ∀ p, m p = (b.length - p.1).toNat := ⟨_, fun _ => rfl⟩
    obtain ⟨ok, eok⟩ : ∃ ok : Int × Int × List Int → Prop, ∀ p, ok p ↔ 0 ≤ p.1 ∧ p.1 ≤ b.length ∧ AddInv b a p.2.2 p.1.toNat p.2.1 := ⟨_, fun _ => Iff.rfl⟩
    refine E_loop hE hG hm hl (addI E b a) m ok ⟨(0, 0, E.rep (E.bin .add .i64 (E.len b) 1)), (eok _).2 ?_, stLe rfl ?_⟩ ?_
    · refine ⟨by show (0 : Int) ≤ 0; omega, by show (0 : Int) ≤ b.length; omega, ?_⟩
      have := AddInv.start b a
      subst hE; simp only [NatCast.natCast, Int.ofNat_eq_natCast, realE, cmp_eql, cmp_neq, cmp_lss, cmp_leq, cmp_gtr, cmp_geq, intBinR, decide_eq_true_eq, decide_eq_false_iff_not, SI.val, SB.val, Num.eta, Iv.eta] at *; rw [h32]
      exact this
    · (repeat' (first | exact t_nil | apply t_cons | exact u2_sli | exact u2_int | exact u2_bool | exact u2_ms | exact u2_ptr | exact (rfl : sle2 .s0 .s0)))
    rintro ⟨i, c, out⟩ hok
    obtain ⟨h1, h2, inv⟩ := (eok _).1 hok
    dsimp only at h1 h2 inv
    have hgx := hb.getD i.toNat
    have hgy := ha.getD i.toNat
    have hc0 := inv.c0
    have hc1 := inv.c1
    have hol := inv.len
    have next : ∀ (j k c' z : Int) (v : Int × Int), i < b.length → k = i → j = IntKind.i64.wrap (i + 1) → (z = a.getD k.toNat 0 ∨ (¬ k < a.length ∧ z = 0)) →
        v = ((b.getD k.toNat 0 + z + c) % 4294967296, (b.getD k.toNat 0 + z + c) / 4294967296) → c' = v.2 →
        m (j, c', out.set k.toNat v.1) < m (i, c, out) ∧ ok (j, c', out.set k.toNat v.1) := by
      intro j k c' z v h hk hj hz hv hc
      subst hk
      have hz : z = a.getD k.toNat 0 := by
        rcases hz with hz | ⟨hz, h0⟩
        · exact hz
        · rw [h0, getD_past (by omega)]
      have hj : j = k + 1 := by rw [hj, wi64_id (by omega) (by omega)]
      refine ⟨by rw [em, em]; show ((b.length : Int) - j).toNat < ((b.length : Int) - k).toNat; omega, (eok _).2 ⟨by show 0 ≤ j; omega, by show j ≤ (b.length : Int); omega, ?_⟩⟩
      have := inv.step hb ha (by omega)
      rw [← hz] at this
      rw [hc, hv, hj]
      show AddInv b a (out.set k.toNat ((b.getD k.toNat 0 + z + c) % 4294967296)) (k + 1).toNat ((b.getD k.toNat 0 + z + c) / 4294967296)
      rw [show (k + 1).toNat = k.toNat + 1 by omega]
      exact this
    have fin : ¬ i < b.length → Lb (out.set (b.length : Int).toNat c) ∧ lim (lv (out.set (b.length : Int).toNat c)) = r := by
      intro h
      rw [show i.toNat = b.length by omega] at inv
      obtain ⟨k1, k2⟩ := inv.stop hxy
      rw [Int.toNat_natCast]
      exact ⟨k1, by rw [k2, hsum, hr]⟩
    clear inv hok hr
    cbv
    repeat' (first
    | (refine E_br hE (fun h => ?_) (fun h => ?_) <;> cbv)
    | (refine E_nm hE (fun v hv => ?_); cbv)
    | (refine E_nilS hE (fun b hb => ?_); cbv)
    | (apply E_callX hE (c_Add32 _ _ _ ?_ ?_ ?_ ?_ ?_ ?_); (case hf => rfl); (case hc => (cbv <;> trivial)); (case hle => (repeat' (first | exact u_nil | apply u_cons | apply u2_agg | exact u2_int | exact u1_int | exact u2_bool | exact u1_bool | exact u2_sli | exact u1_sli | exact u2_s0 | exact u1_s0))); all_goals (first | (intro t ht; cbv) | (subst hE; (try simp only [NatCast.natCast, Int.ofNat_eq_natCast, realE, cmp_eql, cmp_neq, cmp_lss, cmp_leq, cmp_gtr, cmp_geq, intBinR, decide_eq_true_eq, decide_eq_false_iff_not, SI.val, SB.val, Num.eta, Iv.eta] at *); subst_vars; (first | assumption | omega))))
    | (apply E_callX hE (c_cut _ ?_ ?_); (case hf => rfl); (case hc => (cbv <;> trivial)); (case hle => (repeat' (first | exact u_nil | apply u_cons | apply u2_agg | exact u2_int | exact u1_int | exact u2_bool | exact u1_bool | exact u2_sli | exact u1_sli | exact u2_s0 | exact u1_s0))); all_goals (first | (intro t ht; cbv) | ((subst hE; simp only [NatCast.natCast, Int.ofNat_eq_natCast, realE, cmp_eql, cmp_neq, cmp_lss, cmp_leq, cmp_gtr, cmp_geq, intBinR, decide_eq_true_eq, decide_eq_false_iff_not, SI.val, SB.val, Num.eta, Iv.eta] at *; rw [h32] at *; rw [sub_all (by rw [List.length_set]; omega)]; first | exact (fin ‹_›).1 | (rw [List.length_set]; omega)))))
    | fail)
    all_goals (try refine ⟨(E.bin .add .i64 i 1, v, E.set out _ t.1), ?_, ?_, stLe rfl ?_⟩)
    all_goals (try ((repeat' (first | exact t_nil | apply t_cons | exact u2_sli | exact u2_int | exact u2_bool | exact u2_ms | exact u2_ptr | exact (rfl : sle2 .s0 .s0))); done))
    all_goals (subst hE; simp only [NatCast.natCast, Int.ofNat_eq_natCast, realE, cmp_eql, cmp_neq, cmp_lss, cmp_leq, cmp_gtr, cmp_geq, intBinR, decide_eq_true_eq, decide_eq_false_iff_not, SI.val, SB.val, Num.eta, Iv.eta] at *)
    all_goals (first | exact (next _ _ _ _ _ ‹_› ‹_› rfl (by first | exact .inl ‹_› | exact .inr ⟨‹_›, rfl⟩) ‹t = _› ‹_›).1 | exact (next _ _ _ _ _ ‹_› ‹_› rfl (by first | exact .inl ‹_› | exact .inr ⟨‹_›, rfl⟩) ‹t = _› ‹_›).2 | (exfalso; clear next fin; rw [h32] at *; omega) | skip)
    rw [‹t = _›, h32, sub_all (by rw [List.length_set]; omega), (fin ‹_›).2]
  · have hsum : lv a + lv b = lv a + lv b := rfl
    have hxy : b.length ≤ a.length := by subst hE; simp only [NatCast.natCast, Int.ofNat_eq_natCast, realE, cmp_eql, cmp_neq, cmp_lss, cmp_leq, cmp_gtr, cmp_geq, intBinR, decide_eq_true_eq, decide_eq_false_iff_not, SI.val, SB.val, Num.eta, Iv.eta] at *; omega

    have h32 : IntKind.i64.wrap ((a.length : Int) + 1) = a.length + 1 := wi64_id (by omega) (by omega)
    cbv
    repeat' (first
    | (refine E_br hE (fun h => ?_) (fun h => ?_) <;> cbv)
    | (refine E_nm hE (fun v hv => ?_); cbv)
    | (refine E_nilS hE (fun b hb => ?_); cbv)
    | fail)
    all_goals (try (exfalso; subst hE; simp only [NatCast.natCast, Int.ofNat_eq_natCast, realE, cmp_eql, cmp_neq, cmp_lss, cmp_leq, cmp_gtr, cmp_geq, intBinR, decide_eq_true_eq, decide_eq_false_iff_not, SI.val, SB.val, Num.eta, Iv.eta] at *; rw [h32] at *; omega))
    obtain ⟨m, em⟩ : ∃ m : Int × Int × List Int → Nat, ∀ p, m p = (a.length - p.1).toNat := ⟨_, fun _ => rfl⟩
    obtain ⟨ok, eok⟩ : ∃ ok : Int × Int × List Int → Prop, ∀ p, ok p ↔ 0 ≤ p.1 ∧ p.1 ≤ a.length ∧ AddInv a b p.2.2 p.1.toNat p.2.1 := ⟨_, fun _ => Iff.rfl⟩
    refine E_loop hE hG hm hl (addI E a b) m ok ⟨(0, 0, E.rep (E.bin .add .i64 (E.len a) 1)), (eok _).2 ?_, stLe rfl ?_⟩ ?_
    · refine ⟨by show (0 : Int) ≤ 0; omega, by show (0 : Int) ≤ a.length; omega, ?_⟩
      have := AddInv.start a b
      subst hE; simp only [NatCast.natCast, Int.ofNat_eq_natCast, realE, cmp_eql, cmp_neq, cmp_lss, cmp_leq, cmp_gtr, cmp_geq, intBinR, decide_eq_true_eq, decide_eq_false_iff_not, SI.val, SB.val, Num.eta, Iv.eta] at *; rw [h32]
      exact this
    · (repeat' (first | exact t_nil | apply t_cons | exact u2_sli | exact u2_int | exact u2_bool | exact u2_ms | exact u2_ptr | exact (rfl : sle2 .s0 .s0)))
    rintro ⟨i, c, out⟩ hok
    obtain ⟨h1, h2, inv⟩ := (eok _).1 hok
    dsimp only at h1 h2 inv
    have hgx := ha.getD i.toNat
    have hgy := hb.getD i.toNat
    have hc0 := inv.c0
    have hc1 := inv.c1
    have hol := inv.len
    have next : ∀ (j k c' z : Int) (v : Int × Int), i < a.length → k = i → j = IntKind.i64.wrap (i + 1) → (z = b.getD k.toNat 0 ∨ (¬ k < b.length ∧ z = 0)) →
        v = ((a.getD k.toNat 0 + z + c) % 4294967296, (a.getD k.toNat 0 + z + c) / 4294967296) → c' = v.2 →
        m (j, c', out.set k.toNat v.1) < m (i, c, out) ∧ ok (j, c', out.set k.toNat v.1) := by
      intro j k c' z v h hk hj hz hv hc
      subst hk
      have hz : z = b.getD k.toNat 0 := by
        rcases hz with hz | ⟨hz, h0⟩
        · exact hz
        · rw [h0, getD_past (by omega)]
      have hj : j = k + 1 := by rw [hj, wi64_id (by omega) (by omega)]
      refine ⟨by rw [em, em]; show ((a.length : Int) - j).toNat < ((a.length : Int) - k).toNat; omega, (eok _).2 ⟨by show 0 ≤ j; omega, by show j ≤ (a.length : Int); omega, ?_⟩⟩
      have := inv.step ha hb (by omega)
      rw [← hz] at this
      rw [hc, hv, hj]
      show AddInv a b (out.set k.toNat ((a.getD k.toNat 0 + z + c) % 4294967296)) (k + 1).toNat ((a.getD k.toNat 0 + z + c) / 4294967296)
      rw [show (k + 1).toNat = k.toNat + 1 by omega]
      exact this
    have fin : ¬ i < a.length → Lb (out.set (a.length : Int).toNat c) ∧ lim (lv (out.set (a.length : Int).toNat c)) = r := by
      intro h
      rw [show i.toNat = a.length by omega] at inv
      obtain ⟨k1, k2⟩ := inv.stop hxy
      rw [Int.toNat_natCast]
      exact ⟨k1, by rw [k2, hsum, hr]⟩
    clear inv hok hr
    cbv
    repeat' (first
    | (refine E_br hE (fun h => ?_) (fun h => ?_) <;> cbv)
    | (refine E_nm hE (fun v hv => ?_); cbv)
    | (refine E_nilS hE (fun b hb => ?_); cbv)
    | (apply E_callX hE (c_Add32 _ _ _ ?_ ?_ ?_ ?_ ?_ ?_); (case hf => rfl); (case hc => (cbv <;> trivial)); (case hle => (repeat' (first | exact u_nil | apply u_cons | apply u2_agg | exact u2_int | exact u1_int | exact u2_bool | exact u1_bool | exact u2_sli | exact u1_sli | exact u2_s0 | exact u1_s0))); all_goals (first | (intro t ht; cbv) | (subst hE; (try simp only [NatCast.natCast, Int.ofNat_eq_natCast, realE, cmp_eql, cmp_neq, cmp_lss, cmp_leq, cmp_gtr, cmp_geq, intBinR, decide_eq_true_eq, decide_eq_false_iff_not, SI.val, SB.val, Num.eta, Iv.eta] at *); subst_vars; (first | assumption | omega))))
    | (apply E_callX hE (c_cut _ ?_ ?_); (case hf => rfl); (case hc => (cbv <;> trivial)); (case hle => (repeat' (first | exact u_nil | apply u_cons | apply u2_agg | exact u2_int | exact u1_int | exact u2_bool | exact u1_bool | exact u2_sli | exact u1_sli | exact u2_s0 | exact u1_s0))); all_goals (first | (intro t ht; cbv) | ((subst hE; simp only [NatCast.natCast, Int.ofNat_eq_natCast, realE, cmp_eql, cmp_neq, cmp_lss, cmp_leq, cmp_gtr, cmp_geq, intBinR, decide_eq_true_eq, decide_eq_false_iff_not, SI.val, SB.val, Num.eta, Iv.eta] at *; rw [h32] at *; rw [sub_all (by rw [List.length_set]; omega)]; first | exact (fin ‹_›).1 | (rw [List.length_set]; omega)))))
    | fail)
    all_goals (try refine ⟨(E.bin .add .i64 i 1, v, E.set out _ t.1), ?_, ?_, stLe rfl ?_⟩)
    all_goals (try ((repeat' (first | exact t_nil | apply t_cons | exact u2_sli | exact u2_int | exact u2_bool | exact u2_ms | exact u2_ptr | exact (rfl : sle2 .s0 .s0))); done))
    all_goals (subst hE; simp only [NatCast.natCast, Int.ofNat_eq_natCast, realE, cmp_eql, cmp_neq, cmp_lss, cmp_leq, cmp_gtr, cmp_geq, intBinR, decide_eq_true_eq, decide_eq_false_iff_not, SI.val, SB.val, Num.eta, Iv.eta] at *)
    all_goals (first | exact (next _ _ _ _ _ ‹_› ‹_› rfl (by first | exact .inl ‹_› | exact .inr ⟨‹_›, rfl⟩) ‹t = _› ‹_›).1 | exact (next _ _ _ _ _ ‹_› ‹_› rfl (by first | exact .inl ‹_› | exact .inr ⟨‹_›, rfl⟩) ‹t = _› ‹_›).2 | (exfalso; clear next fin; rw [h32] at *; omega) | skip)
    rw [‹t = _›, h32, sub_all (by rw [List.length_set]; omega), (fin ‹_›).2]

end Go.Proofs.Ytaiillbjhdoikaa.Ev

/- Contracts: the product of limbs. Printed by gen.py. -/
namespace Go.Proofs.Ytaiillbjhdoikaa.Ev
open Go Go.Proofs
set_option linter.unusedVariables false
set_option linter.unusedSimpArgs false


attribute [local irreducible] Lb
def mulO (E : Env) (a b : List Int) : Int × List Int → St := fun p => ⟨[(0, .sli .u32 a), (1, .sli .u32 b), (5, .ms 0 1 (.l 0) (.s (E.bin .add .i64 (E.len a) (E.len b)))), (18, .sli .u32 a), (19, .int .i64 (.s (E.len a))), (20, .int .i64 (.s p.1))], [.ints true .u32 p.2]⟩
def mulI (E : Env) (a b : List Int) (i i' x : Int) : Int × Int × List Int → St := fun p => ⟨[(0, .sli .u32 a), (1, .sli .u32 b), (5, .ms 0 1 (.l 0) (.s (E.bin .add .i64 (E.len a) (E.len b)))), (18, .sli .u32 a), (19, .int .i64 (.s (E.len a))), (20, .int .i64 (.s i)),
   (6, .int .i64 (.s i')), (7, .int .u32 (.s x)), (8, .int .u64 (.s p.2.1)), (25, .sli .u32 b), (26, .int .i64 (.s (E.len b))), (27, .int .i64 (.s p.1))], [.ints true .u32 p.2.2]⟩
set_option maxHeartbeats 1000000 in
theorem c_natMul (a b : List Int) (ha : Lb a) (hb : Lb b) (hla : a.length < 134217728) (hlb : b.length < 134217728) : ∃ t : List Int, t = lim (lv a * lv b) ∧ CallsA Try.prog 46 [.sli .u32 a, .sli .u32 b] (.sli .u32 t) := by
  refine ⟨_, rfl, ?_⟩
  generalize hr : lim (lv a * lv b) = r
  have h32 : IntKind.i64.wrap ((a.length : Int) + b.length) = a.length + b.length := wi64_id (by omega) (by omega)
  obtain ⟨m, em⟩ : ∃ m : Int × List Int → Nat, ∀ p, m p = (a.length - p.1).toNat := ⟨_, fun _ => rfl⟩
  obtain ⟨ok, eok⟩ : ∃ ok : Int × List Int → Prop, ∀ p, ok p ↔ 0 ≤ p.1 ∧ p.1 ≤ a.length ∧ MulInv a b p.2 p.1.toNat 0 0 := ⟨_, fun _ => Iff.rfl⟩
  obtain ⟨m2, em2⟩ : ∃ m : Int × Int × List Int → Nat, ∀ p, m p = (b.length - p.1).toNat := ⟨_, fun _ => rfl⟩
  obtain ⟨ok2, eok2⟩ : ∃ ok : Int → Int × Int × List Int → Prop, ∀ i p, ok i p ↔ 0 ≤ p.1 ∧ p.1 ≤ b.length ∧ MulInv a b p.2.2 i.toNat p.1.toNat p.2.1 := ⟨_, fun _ _ => Iff.rfl⟩
  refine callsA_of hG hm Try.func46 (by kernel_rfl) ?_
  intro E hE lp hl
  cbv
  repeat' (first
    | (refine E_br hE (fun h => ?_) (fun h => ?_) <;> cbv)
    | (refine E_nm hE (fun v hv => ?_); cbv)
    | (refine E_nilS hE (fun b hb => ?_); cbv)
    | fail)
  all_goals (try (exfalso; subst hE; simp only [NatCast.natCast, Int.ofNat_eq_natCast, realE, cmp_eql, cmp_neq, cmp_lss, cmp_leq, cmp_gtr, cmp_geq, intBinR, decide_eq_true_eq, decide_eq_false_iff_not, SI.val, SB.val, Num.eta, Iv.eta] at *; rw [h32] at *; omega))
  refine E_loop hE hG hm hl (mulO E a b) m ok ⟨(0, E.rep (E.bin .add .i64 (E.len a) (E.len b))), (eok _).2 ?_, stLe rfl ?_⟩ ?_
  · refine ⟨by show (0 : Int) ≤ 0; omega, by show (0 : Int) ≤ a.length; omega, ?_⟩
    have := MulInv.start a b
    subst hE; simp only [NatCast.natCast, Int.ofNat_eq_natCast, realE, cmp_eql, cmp_neq, cmp_lss, cmp_leq, cmp_gtr, cmp_geq, intBinR, decide_eq_true_eq, decide_eq_false_iff_not, SI.val, SB.val, Num.eta, Iv.eta] at *; rw [h32]
    exact this
  · (repeat' (first | exact t_nil | apply t_cons | exact u2_sli | exact u2_int | exact u2_bool | exact u2_ms | exact u2_ptr | exact (rfl : sle2 .s0 .s0)))
  rintro ⟨i, out⟩ hok
  obtain ⟨h1, h2, inv⟩ := (eok _).1 hok
  dsimp only at h1 h2 inv
  simp only [NatCast.natCast, Int.ofNat_eq_natCast] at h2 em eok em2 eok2
  have hol := inv.len
  have fin : ¬ i < a.length → Lb out ∧ lim (lv out) = r := by
    intro h
    rw [show i.toNat = a.length by omega] at inv
    exact ⟨inv.lb, by rw [inv.stop, hr]⟩
  clear hr hok
  cbv
  repeat' (first
    | (refine E_br hE (fun h => ?_) (fun h => ?_) <;> cbv)
    | (refine E_nm hE (fun v hv => ?_); cbv)
    | (refine E_nilS hE (fun b hb => ?_); cbv)
    | (apply E_callX hE (c_cut _ ?_ ?_); (case hf => rfl); (case hc => (cbv <;> trivial)); (case hle => exact u_up); all_goals (first | (intro t ht; cbv) | ((subst hE; simp only [NatCast.natCast, Int.ofNat_eq_natCast, realE, cmp_eql, cmp_neq, cmp_lss, cmp_leq, cmp_gtr, cmp_geq, intBinR, decide_eq_true_eq, decide_eq_false_iff_not, SI.val, SB.val, Num.eta, Iv.eta] at *; rw [h32] at *; rw [sub_all (by omega)]; first | exact (fin ‹_›).1 | omega))))
    | fail)
  case hK => subst hE; simp only [NatCast.natCast, Int.ofNat_eq_natCast, realE, cmp_eql, cmp_neq, cmp_lss, cmp_leq, cmp_gtr, cmp_geq, intBinR, decide_eq_true_eq, decide_eq_false_iff_not, SI.val, SB.val, Num.eta, Iv.eta] at *; rw [‹t = _›, h32, sub_all (by omega), (fin ‹_›).2]
  all_goals (try (exfalso; subst hE; simp only [NatCast.natCast, Int.ofNat_eq_natCast, realE, cmp_eql, cmp_neq, cmp_lss, cmp_leq, cmp_gtr, cmp_geq, intBinR, decide_eq_true_eq, decide_eq_false_iff_not, SI.val, SB.val, Num.eta, Iv.eta] at *; clear fin; rw [h32] at *; omega))
  rename_i i' ei
  have ex := hv
  clear hv
  have hilt : i < a.length := by subst hE; exact lss_t ‹_›
  refine E_loop hE hG hm hl (mulI E a b i i' v) m2 (ok2 i) ⟨(0, 0, out), (eok2 _ _).2 ⟨by show (0 : Int) ≤ 0; omega, by show (0 : Int) ≤ b.length; omega, inv⟩, stLe rfl ?_⟩ ?_
  · (repeat' (first | exact t_nil | apply t_cons | exact u2_sli | exact u2_int | exact u2_bool | exact u2_ms | exact u2_ptr | exact (rfl : sle2 .s0 .s0)))
  rintro ⟨k, c, out⟩ hok
  have h3 : 0 ≤ k := ((eok2 _ _).1 hok).1
  have h4 : k ≤ b.length := ((eok2 _ _).1 hok).2.1
  have inv2 : MulInv a b out i.toNat k.toNat c := ((eok2 _ _).1 hok).2.2
  have hol2 := inv2.len
  clear inv hol fin
  cbv
  repeat' (first
    | (refine E_br hE (fun h => ?_) (fun h => ?_) <;> cbv)
    | (refine E_nm hE (fun v hv => ?_); cbv)
    | (refine E_nilS hE (fun b hb => ?_); cbv)
    | fail)
  all_goals (try refine ⟨(E.bin .add .i64 k 1, v, E.set out (E.bin .add .i64 i' _) (E.conv .u32 _)), ?_, ?_, stLe rfl ?_⟩)
  all_goals (try refine ⟨(E.bin .add .i64 i 1, E.set out (E.bin .add .i64 i' (E.len b)) (E.conv .u32 c)), ?_, ?_, stLe rfl ?_⟩)
  all_goals (try ((repeat' (first | exact t_nil | apply t_cons | exact u2_sli | exact u2_int | exact u2_bool | exact u2_ms | exact u2_ptr | exact (rfl : sle2 .s0 .s0))); done))
  all_goals (subst hE)
  all_goals (try (first | (rw [em2, em2]; exact (mul_next ha hb hla hlb h1 hilt h3 (lss_t ‹_›) inv2 ei ‹_› ex ‹_› ‹_› ‹_› rfl).2.2.1) | (rw [eok2]; have q := mul_next ha hb hla hlb h1 hilt h3 (lss_t ‹_›) inv2 ei ‹_› ex ‹_› ‹_› ‹_› rfl; exact ⟨q.1, q.2.1, q.2.2.2⟩) | (rw [em, em]; exact (mul_exit hla hlb h1 hilt h4 (lss_f ‹_›) inv2 ei rfl).2.2.1) | (rw [eok]; have q := mul_exit hla hlb h1 hilt h4 (lss_f ‹_›) inv2 ei rfl; exact ⟨q.1, q.2.1, q.2.2.2⟩)))
  all_goals (clear inv2 hok eok eok2 em em2; simp only [NatCast.natCast, Int.ofNat_eq_natCast, realE, cmp_eql, cmp_neq, cmp_lss, cmp_leq, cmp_gtr, cmp_geq, intBinR, decide_eq_true_eq, decide_eq_false_iff_not, SI.val, SB.val, Num.eta, Iv.eta] at *; (try rw [h32] at *); clear h32; (try simp only [wi64] at *); omega)

end Go.Proofs.Ytaiillbjhdoikaa.Ev

/- The reference's sums, differences and products, limb by limb: plain Lean. -/
namespace Go.Proofs.Ytaiillbjhdoikaa.Ev
open Go

theorem lv_snoc (l : List Int) (x : Int) : lv (l ++ [x]) = lv l + 4294967296 ^ l.length * x.toNat := by
  rw [lv_append]; simp [lv]
theorem Lb.snoc {l : List Int} (h : Lb l) {x : Int} (h0 : 0 ≤ x) (h1 : x < 4294967296) : Lb (l ++ [x]) := h.append (Lb.cons h0 h1 Lb.nil)

/-! ### the sum -/
structure RAdd (a b out : List Int) (i : Nat) (c : Int) : Prop where
  len : out.length = i
  lb : Lb out
  c0 : 0 ≤ c
  c1 : c ≤ 1
  past : a.length < i → b.length < i → c = 0
  val : lv out + 4294967296 ^ i * c.toNat = lv (a.take i) + lv (b.take i)
theorem RAdd.start (a b : List Int) : RAdd a b [] 0 0 := ⟨rfl, Lb.nil, by omega, by omega, fun _ _ => rfl, by simp [lv]⟩
theorem RAdd.step {a b out : List Int} {i : Nat} {c : Int} (ha : Lb a) (hb : Lb b) (h : RAdd a b out i c) :
    RAdd a b (out ++ [(a.getD i 0 + b.getD i 0 + c) % 4294967296]) (i + 1) ((a.getD i 0 + b.getD i 0 + c) / 4294967296) := by
  have hx := ha.getD i
  have hy := hb.getD i
  have e1 := lv_take_next a i
  have e2 := lv_take_next b i
  have h1 := h.len
  have h4 := h.c0
  have h5 := h.c1
  have h6 := h.val
  have px : a.length ≤ i → a.getD i 0 = 0 := fun k => getD_past k
  have py : b.length ≤ i → b.getD i 0 = 0 := fun k => getD_past k
  generalize a.getD i 0 = x at *
  generalize b.getD i 0 = y at *
  refine ⟨by simp [h1], h.lb.snoc (by omega) (by omega), by omega, by omega, fun k1 k2 => ?_, ?_⟩
  · have := px (by omega); have := py (by omega); omega
  · rw [e1, e2, lv_snoc, h1]
    have e4 : ((x + y + c) % 4294967296).toNat + 4294967296 * ((x + y + c) / 4294967296).toNat = x.toNat + y.toNat + c.toNat := by omega
    have e5 := congrArg (4294967296 ^ i * ·) e4
    simp only [Nat.mul_add] at e5
    rw [Nat.pow_succ, Nat.mul_assoc]
    omega
theorem RAdd.stop {a b out : List Int} {i : Nat} {c : Int} (h : RAdd a b out i c) (h1 : a.length ≤ i) (h2 : b.length ≤ i) (h3 : ¬ 0 < c) : lv out = lv a + lv b := by
  have v := h.val
  have c0 := h.c0
  have e : c = 0 := by omega
  rw [List.take_of_length_le h1, List.take_of_length_le h2, e] at v
  simp at v
  omega

/-! ### the difference -/
structure RSub (a b out : List Int) (i : Nat) (c : Int) : Prop where
  len : out.length = i
  lb : Lb out
  c0 : 0 ≤ c
  c1 : c ≤ 1
  val : lv out + lv (b.take i) = lv (a.take i) + 4294967296 ^ i * c.toNat
theorem RSub.start (a b : List Int) : RSub a b [] 0 0 := ⟨rfl, Lb.nil, by omega, by omega, by simp [lv]⟩
theorem RSub.step {a b out : List Int} {i : Nat} {c : Int} (ha : Lb a) (hb : Lb b) (h : RSub a b out i c) :
    RSub a b (out ++ [(4294967296 + a.getD i 0 - b.getD i 0 - c) % 4294967296]) (i + 1) (1 - (4294967296 + a.getD i 0 - b.getD i 0 - c) / 4294967296) := by
  have hx := ha.getD i
  have hy := hb.getD i
  have e1 := lv_take_next a i
  have e2 := lv_take_next b i
  have h1 := h.len
  have h4 := h.c0
  have h5 := h.c1
  have h6 := h.val
  generalize a.getD i 0 = x at *
  generalize b.getD i 0 = y at *
  refine ⟨by simp [h1], h.lb.snoc (by omega) (by omega), by omega, by omega, ?_⟩
  rw [e1, e2, lv_snoc, h1]
  have e4 : ((4294967296 + x - y - c) % 4294967296).toNat + (y.toNat + c.toNat) = x.toNat + 4294967296 * (1 - (4294967296 + x - y - c) / 4294967296).toNat := by omega
  have e5 := congrArg (4294967296 ^ i * ·) e4
  simp only [Nat.mul_add] at e5
  rw [Nat.pow_succ, Nat.mul_assoc]
  omega
theorem RSub.stop {a b out : List Int} {c : Int} (ha : Lb a) (h : RSub a b out a.length c) (hle : lv b ≤ lv a) : lv out = lv a - lv b := by
  have v := h.val
  have l1 := lv_lt h.lb
  rw [h.len] at l1
  have l2 := lv_lt ha
  have t : lv (b.take a.length) = lv b := by
    rcases Nat.lt_or_ge a.length b.length with k | k
    · have e := lv_take_drop b a.length (by omega)
      have z : lv (b.drop a.length) = 0 := by
        rcases Nat.eq_zero_or_pos (lv (b.drop a.length)) with z | z
        · exact z
        · have := Nat.mul_le_mul_left (4294967296 ^ a.length) z; omega
      rw [z] at e; omega
    · rw [List.take_of_length_le k]
  rw [t, lv_take_all] at v
  have c0 := h.c0
  have c1 := h.c1
  have : c = 0 ∨ c = 1 := by omega
  rcases this with e | e
  · rw [e] at v; simp at v; omega
  · rw [e] at v; simp at v; omega

/-! ### a row of a product -/
structure RRow (a : List Int) (y : Int) (row : List Int) (k : Nat) (c : Int) : Prop where
  len : row.length = k
  lb : Lb row
  c0 : 0 ≤ c
  c1 : c < 4294967296
  val : lv row + 4294967296 ^ k * c.toNat = lv (a.take k) * y.toNat
theorem RRow.start (a : List Int) (y : Int) : RRow a y [] 0 0 := ⟨rfl, Lb.nil, by omega, by omega, by simp [lv]⟩
theorem row_digit {x y c : Int} (hx : 0 ≤ x ∧ x < 4294967296) (hy : 0 ≤ y ∧ y < 4294967296) (hc : 0 ≤ c ∧ c < 4294967296) : 0 ≤ x * y ∧ x * y + c < 18446744073709551616 ∧ (x * y + c) / 4294967296 < 4294967296 := by
  have h1 : x * y ≤ 4294967295 * 4294967295 := Int.mul_le_mul (by omega) (by omega) hy.1 (by omega)
  have h2 : 0 ≤ x * y := Int.mul_nonneg hx.1 hy.1
  refine ⟨h2, by omega, by omega⟩
theorem RRow.step {a row : List Int} {y : Int} {k : Nat} {c : Int} (ha : Lb a) (hy : 0 ≤ y ∧ y < 4294967296) (h : RRow a y row k c) :
    RRow a y (row ++ [(a.getD k 0 * y + c) % 4294967296]) (k + 1) ((a.getD k 0 * y + c) / 4294967296) := by
  have hx := ha.getD k
  have e1 := lv_take_next a k
  have h1 := h.len
  have h4 := h.c0
  have h5 := h.c1
  have h6 := h.val
  generalize a.getD k 0 = x at *
  have d := row_digit hx hy ⟨h4, h5⟩
  have n : ((x * y).toNat : Nat) = x.toNat * y.toNat := by
    obtain ⟨u, rfl⟩ := Int.eq_ofNat_of_zero_le hx.1
    obtain ⟨w, rfl⟩ := Int.eq_ofNat_of_zero_le hy.1
    show ((u : Int) * (w : Int)).toNat = _
    rw [← Int.natCast_mul]; rfl
  refine ⟨by simp [h1], h.lb.snoc (by omega) (by omega), by omega, d.2.2, ?_⟩
  rw [e1, lv_snoc, h1, Nat.add_mul, ← h6]
  have e4 : ((x * y + c) % 4294967296).toNat + 4294967296 * ((x * y + c) / 4294967296).toNat = (x * y).toNat + c.toNat := by omega
  rw [n] at e4
  have e5 := congrArg (4294967296 ^ k * ·) e4
  simp only [Nat.mul_add] at e5
  rw [Nat.pow_succ, Nat.mul_assoc, Nat.mul_assoc (4294967296 ^ k) x.toNat y.toNat]
  omega
theorem RRow.stop {a row : List Int} {y c : Int} (h : RRow a y row a.length c) : Lb (row ++ [c]) ∧ lv (row ++ [c]) = lv a * y.toNat := by
  have v := h.val
  rw [lv_take_all] at v
  exact ⟨h.lb.snoc h.c0 h.c1, by rw [lv_snoc, h.len]; omega⟩
end Go.Proofs.Ytaiillbjhdoikaa.Ev
