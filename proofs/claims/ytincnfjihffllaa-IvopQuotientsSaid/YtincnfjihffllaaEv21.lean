/- What a proof uses: calls by contract, what is told fitting itself, loops unrolled. -/
import Derived.Test.YtincnfjihffllaaEv20
import Derived.LoopN
namespace Go.Proofs.Ytincnfjihffllaa.Ev
open Go Go.RowKit
set_option linter.unusedVariables false
set_option linter.unusedSimpArgs false

section
variable {P : Program} {G : Nat → TI}

/-- THE CALL, of a function that gives one of many: whatever it gives. -/
theorem E_callX {τ : Type} {Q : τ → Prop} {g : τ → AV} {E : Env} (hE : E = realE P) {f : FuncId} {args cargs : List AV} (hC : ∃ t, Q t ∧ CallsA P f cargs (g t)) {ys : List AV} {h h' : List Blk}
    {fz : Option (List AV × List Blk)} (hf : frzA E h args = some (ys, h')) (hc : cleanA h args) (hle : sleL sle2 ys cargs) {K : AV → List Blk → Prop} (hK : ∀ t, Q t → K (g t) h') : E.call f args h fz K := by
  obtain ⟨t, h1, h2⟩ := hC
  exact E_call hE h2 hf hc hle (hK t h1)

theorem callsA_le {f : FuncId} {args cargs : List AV} {r : AV} (hC : CallsA P f cargs r) (hle : sleL sle2 args cargs) : CallsA P f args r := by
  obtain ⟨e1, e2⟩ := sleL_spec hle
  refine ⟨hC.1, fun O w vals hO hl hr => hC.2 O w vals hO (by omega) (fun j c hj => ?_)⟩
  obtain ⟨d, hd, hs⟩ := e2 j c hj
  exact sle2_sound hs _ _ _ (hr j d hd)

/-- THE CALL among operations whose order is open. -/
theorem E_pcallX {τ : Type} {Q : τ → Prop} {g : τ → AV} {E : Env} (hE : E = realE P) {f : FuncId} {args cargs : List AV} (hC : ∃ t, Q t ∧ CallsA P f cargs (g t)) (hm : allB AV.mf args = true)
    (hle : sleL sle2 args cargs) {K : AV → Prop} (hK : ∀ t, Q t → K (g t)) : E.pcall f args K := by
  obtain ⟨t, h1, h2⟩ := hC
  exact E_pcall hE (callsA_le h2 hle) hm (hK t h1)

/-- So many rounds of a loop, at most. -/
def evRounds (E : Env) (G : Nat → TI) (lp : Code → St → (Ex → St → Prop) → Prop) (b : Code) : Nat → St → (Ex → St → Prop) → Prop
  | 0, _, _ => False
  | n + 1, s, K => ev E G lp b s (fun e s => match e with
      | .normal => evRounds E G lp b n s K
      | .exit x => K (.exit x) s
      | .goto x => K (.goto x) s
      | .ret => K .ret s)

theorem E_rounds {E : Env} (hE : E = realE P) (hG : GOK P G) (hm : P.follows .mixedOrders = true) {n : Nat} {lp : Code → St → (Ex → St → Prop) → Prop} (hlp : Loops P n lp) {b : Code} {s : St} {K : Ex → St → Prop}
    (m : Nat) (h : evRounds E G lp b m s K) : lp b s K := by
  subst hE
  subst hlp
  intro hc base O0 I μ a w R
  refine wp_loop_rounds m ?_
  induction m generalizing s μ a w with
  | zero => exact h.elim
  | succ m ih =>
    refine wp_mono (ev_sound hG hm (lp := fun b s K => codeOK n b = true → lpR P n b s K) (fun b s K hc h => h hc) b _ s μ a w hc R h) ?_
    intro e a w hq
    cases e with
    | normal =>
      obtain ⟨s', μ', R', h'⟩ := hq
      exact ih h' μ' a w R'
    | exit i => exact hq
    | goto i => exact hq
    | ret => exact hq
    | panic ch => exact hq.elim
    | outgrown => exact hq.elim

/-! ### what the true operations are -/
theorem cmp_eql (a b : Int) : cmpR .eql a b = decide (a = b) := by simp only [cmpR]; by_cases h : a = b <;> simp [h]
theorem cmp_neq (a b : Int) : cmpR .neq a b = decide (a ≠ b) := by simp only [cmpR]; by_cases h : a = b <;> simp [h]
theorem cmp_lss (a b : Int) : cmpR .lss a b = decide (a < b) := rfl
theorem cmp_leq (a b : Int) : cmpR .leq a b = decide (a ≤ b) := rfl
theorem cmp_gtr (a b : Int) : cmpR .gtr a b = decide (b < a) := rfl
theorem cmp_geq (a b : Int) : cmpR .geq a b = decide (b ≤ a) := rfl

/-! ### what is told fits itself -/
theorem u_nil {p : AV → AV → Prop} : sleL p [] [] := trivial
theorem u_cons {p : AV → AV → Prop} {x y : AV} {r s : List AV} (h : p x y) (k : sleL p r s) : sleL p (x :: r) (y :: s) := ⟨h, k⟩
theorem u2_int {k : IntKind} {a : SI} : sle2 (.int k a) (.int k (.s a.val)) := ⟨rfl, rfl⟩
theorem u1_int {k : IntKind} {a : SI} : sle1 (.int k a) (.int k (.s a.val)) := ⟨rfl, rfl⟩
theorem u2_bool {a : SB} : sle2 (.bool a) (.bool (.s a.val)) := rfl
theorem u1_bool {a : SB} : sle1 (.bool a) (.bool (.s a.val)) := rfl
theorem u2_sli {k : IntKind} {l : List Int} : sle2 (.sli k l) (.sli k l) := ⟨rfl, rfl⟩
theorem u1_sli {k : IntKind} {l : List Int} : sle1 (.sli k l) (.sli k l) := ⟨rfl, rfl⟩
theorem u2_s0 {k : IntKind} : sle2 .s0 (.sli k []) := rfl
theorem u1_s0 {k : IntKind} : sle1 .s0 (.sli k []) := rfl
theorem u2_agg {cs ds : List AV} (h : sleL sle1 cs ds) : sle2 (.agg cs) (.agg ds) := h
theorem u2_fn {f : FuncId} {cs : List AV} : sle2 (.fn f cs) (.fn f cs) := rfl
theorem u2_slc {sz : Nat} {n : SI} {f : Nat → List AV} : sle2 (.slc sz n f) (.slc sz (.s n.val) f) := ⟨rfl, rfl, fun i _ => by
  generalize f i = l
  induction l with
  | nil => trivial
  | cons x r ih => exact ⟨by unfold sle0; split <;> simp_all, ih⟩⟩
end
end Go.Proofs.Ytincnfjihffllaa.Ev
