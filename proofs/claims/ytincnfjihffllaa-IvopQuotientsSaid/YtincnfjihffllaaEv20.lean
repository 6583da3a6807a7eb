/- What a proof uses: a function's contract, calls, loops. -/
import Derived.Test.YtincnfjihffllaaEv19
namespace Go.Proofs.Ytincnfjihffllaa.Ev
open Go Go.RowKit
set_option linter.unusedVariables false
set_option linter.unusedSimpArgs false

section
variable {P : Program} {G : Nat → TI} {base : Nat} {O0 : Nat → Prop} {μ : Nat → Nat} {hp : List Blk} {w w' : World}

theorem frz_notup {E : Env} {hp : List Blk} {v : AV} {r : AV × List Blk} (h : frz E hp v = some r) : ∀ vs, v ≠ .tup vs := by
  rintro vs rfl
  simp [frz, frz1] at h

theorem frzA_notup {E : Env} : ∀ {l : List AV} {hp : List Blk} {r : List AV × List Blk}, frzA E hp l = some r → ∀ c ∈ l, ∀ vs, c ≠ .tup vs
  | [], _, _, _, c, hc, _ => by cases hc
  | x :: l, hp, r, h, c, hc, vs => by
    simp only [frzA] at h
    split at h
    · rename_i y h1 he
      split at h
      · rename_i he2
        rcases List.mem_cons.1 hc with rfl | hc
        · exact frz_notup he vs
        · exact frzA_notup he2 c hc vs
      · cases h
    · cases h

theorem aggR_of_rel {x : X} {c : AV} {v : Value} (h : RelV x c v) (hn : ∀ vs, c ≠ .tup vs) : AggR x c v := by
  unfold RelV at h
  split at h
  · exact absurd rfl (hn _)
  · exact h

/-- THE CALL: of a function of which the contract is known. -/
theorem call_real {f : FuncId} {args cargs : List AV} {r : AV} (hC : CallsA P f cargs r) {ys : List AV} {h h' : List Blk} (hf : frzA (realE P) h args = some (ys, h')) (hc : cleanA h args)
    (hle : sleL sle2 ys cargs) {K : AV → List Blk → Prop} (hK : K r h') : CallsH P f args h K := by
  refine ⟨hC.1, fun base O0 μ w vals H hl hr => ?_⟩
  obtain ⟨F, q1, q2⟩ := frzA_sound args h (fun j => vals.getD j undef) H (fun j c hj => aggR_of_rel (hr j c hj) (frzA_notup hf c (List.mem_of_getElem? hj))) hc hf
  obtain ⟨e1, e2⟩ := sleL_spec hle
  refine (hC.2 (okO base O0 μ h' w) w vals (fun n hn => okO_lt H.all hn) (by omega) (fun j c hj => ?_)).mono ?_
  · obtain ⟨d, hd, hs⟩ := e2 j c hj
    exact sle2_sound hs _ _ _ (q2 j d hd)
  · rintro e w' ⟨val, rfl, hv, hb⟩
    exact ⟨val, r, h', μ, rfl, hK, relV_of_ro (hv.mono (sub_okO F.hr hb) (fun _ _ _ h => h)), F.hr.grow hb, F.ext.trans (Ext.grow H.all hb), hb.mono H.all⟩

/-- THE CONTRACT: out of the run. -/
theorem callsA_real {f : FuncId} {args : List AV} {r : AV} (h : CallsH P f args [] (fun v h => finish (realE P) h v (fun y => sle y r))) : CallsA P f args r := by
  refine ⟨h.1, fun O w vals hO hl hr => ?_⟩
  have H : HR w.heap.size O (fun _ => 0) [] w := ⟨Nat.le_refl _, fun b x hb => by simp at hb, fun b hb => by simp [dimB, Blk.dim] at hb, fun b b' hb => by simp [wrB, Blk.wr] at hb⟩
  refine (h.2 w.heap.size O (fun _ => 0) w vals H hl (fun j c hj => relV_of_ro ((hr j c hj).mono (fun n hn => .inl ⟨hO n hn, hn⟩) (fun _ _ _ h => h)))).mono ?_
  rintro e w' ⟨val, v, h', μ', rfl, hK, hv, hH, hX, hB⟩
  have okn : ∀ hq, ∀ n, okO w.heap.size O μ' hq w' n → newO O w w' n := by
    rintro hq n (⟨_, h1⟩ | ⟨h1, h2, _⟩)
    · exact .inl h1
    · exact .inr ⟨h1, h2⟩
  refine ⟨val, rfl, ?_, hB⟩
  unfold finish at hK
  split at hK
  · rename_i vs
    obtain ⟨hc, hK⟩ := hK
    split at hK
    · rename_i ys h2 hf
      obtain ⟨zs, rfl, hl2, hh⟩ := hv
      obtain ⟨F, q1, q2⟩ := frzA_sound vs h' (fun j => zs.getD j undef) hH hh hc hf
      refine sle_sound hK _ _ _ ?_
      exact (RoV.tup _ _ (by omega) q2).mono (okn _) (fun _ _ _ h => h)
    · exact hK.elim
  · rename_i hnt
    obtain ⟨hc, hK⟩ := hK
    split at hK
    · rename_i y h2 hf
      obtain ⟨F, q⟩ := frz_sound hH (aggR_of_rel hv (fun vs e => hnt vs e)) hc hf
      exact sle_sound hK _ _ _ (q.mono (okn _) (fun _ _ _ h => h))
    · exact hK.elim

/-- what a loop is, to the evaluator -/
def Loops (P : Program) (n : Nat) (lp : Code → St → (Ex → St → Prop) → Prop) : Prop := lp = fun b s K => codeOK n b = true → lpR P n b s K

/-- The evaluator's run is a contract. -/
theorem callsA_of (hG : GOK P G) (hm : P.follows .mixedOrders = true) {f : FuncId} {fn : Func} (hf : P.funcs[f]? = some fn) {args : List AV} (ho : fnOK fn args.length = true) {r : AV}
    (h : ∀ E, E = realE P → ∀ lp, Loops P fn.ntmps lp → evF E G lp fn args [] (fun v h => finish E h v (fun y => sle y r))) : CallsA P f args r :=
  callsA_real (evF_sound hG hm hf ho (lp := fun b s K => codeOK fn.ntmps b = true → lpR P fn.ntmps b s K) (fun b s K hc h => h hc) (h _ rfl _ rfl))

theorem E_br {E : Env} (hE : E = realE P) {b : Bool} {t f : Unit → Prop} (h1 : b = true → t ()) (h2 : b = false → f ()) : E.br b t f := by
  subst hE; exact ⟨h1, h2⟩

theorem E_nm {E : Env} (hE : E = realE P) {n : Int} {K : Int → Prop} (h : ∀ v, v = n → K v) : E.nm n K := by
  subst hE; exact h n rfl

theorem E_row {τ : Type} {E : Env} (hE : E = realE P) {cell : τ → List AV} {g : Nat → τ} {i : Int} {K : List AV → Prop} (h : ∀ t, t = g i.toNat → K (cell t)) : E.row (fun i => cell (g i)) i K := by
  subst hE; exact h _ rfl

theorem E_call {E : Env} (hE : E = realE P) {f : FuncId} {args cargs : List AV} {r : AV} (hC : CallsA P f cargs r) {ys : List AV} {h h' : List Blk} {fz : Option (List AV × List Blk)} (hf : frzA E h args = some (ys, h')) (hc : cleanA h args)
    (hle : sleL sle2 ys cargs) {K : AV → List Blk → Prop} (hK : K r h') : E.call f args h fz K := by
  subst hE; exact call_real hC hf hc hle hK

theorem E_pcall {E : Env} (hE : E = realE P) {f : FuncId} {args : List AV} {r : AV} (hC : CallsA P f args r) (hm : allB AV.mf args = true) {K : AV → Prop} (hK : K r) : E.pcall f args K := by
  subst hE; exact ⟨r, hK, hm, hC⟩

/-- A call within the run: over the same memory. -/
theorem E_in {E : Env} (hE : E = realE P) (hG : GOK P G) (hm : P.follows .mixedOrders = true) {f : FuncId} {fn : Func} (hf : P.funcs[f]? = some fn) {args : List AV} (ho : fnOK fn args.length = true)
    {h : List Blk} {fz : Option (List AV × List Blk)} {K : AV → List Blk → Prop} (hv : ∀ lp, Loops P fn.ntmps lp → evF E G lp fn args h K) : E.call f args h fz K := by
  subst hE
  exact evF_sound hG hm hf ho (lp := fun b s K => codeOK fn.ntmps b = true → lpR P fn.ntmps b s K) (fun b s K hc h => h hc) (hv _ rfl)

/-- A LOOP. -/
theorem E_loop {ι : Type} {E : Env} (hE : E = realE P) (hG : GOK P G) (hm : P.follows .mixedOrders = true) {n : Nat} {lp : Code → St → (Ex → St → Prop) → Prop} (hlp : Loops P n lp) {b : Code} {s : St} {K : Ex → St → Prop}
    (S : ι → St) (m : ι → Nat) (ok : ι → Prop) (h0 : ∃ i, ok i ∧ StLe s (S i))
    (hr : ∀ i, ok i → ev E G lp b (S i) (fun e s => match e with
      | .normal => ∃ j, m j < m i ∧ ok j ∧ StLe s (S j)
      | .exit x => K (.exit x) s
      | .goto x => K (.goto x) s
      | .ret => K .ret s)) : lp b s K := by
  subst hE
  subst hlp
  intro hc
  exact loop_real hG hm (lp := fun b s K => codeOK n b = true → lpR P n b s K) (fun b s K hc h => h hc) hc S m ok h0 hr

/-! ### states that say less -/
theorem leaf_le {x : X} {c d : AV} (h : sle1 c d) {v : Value} (hv : LeafR x c v) : LeafR x d v := by
  have own : ∀ {c d : AV}, (∃ b s r l, c = .ms b s r l) ∨ (∃ b s r l, c = .ptr b s r l) → sle1 c d → d = c ∨ d = .un := by
    rintro c d (⟨b, s, r, l, rfl⟩ | ⟨b, s, r, l, rfl⟩) h <;> (cases d <;> first | exact .inr rfl | exact .inl (show _ = _ from h).symm)
  by_cases hc : (∃ b s r l, c = .ms b s r l) ∨ (∃ b s r l, c = .ptr b s r l)
  · rcases own hc h with rfl | rfl
    · exact hv
    · exact RoV.un _
  · have : RoV x.O x.w c v := by
      unfold LeafR at hv
      split at hv
      · exact absurd (.inl ⟨_, _, _, _, rfl⟩) hc
      · exact absurd (.inr ⟨_, _, _, _, rfl⟩) hc
      · exact hv
    exact leafR_of_ro (sle1_sound h _ _ _ this)

theorem rel_le {x : X} {c d : AV} (h : sle2 c d) {v : Value} (hv : RelV x c v) : RelV x d v := by
  have easy : sle1 c d → RelV x d v := by
    intro h
    have same : d = c ∨ d = .un → RelV x d v := by
      rintro (rfl | rfl)
      · exact hv
      · exact RoV.un _
    cases c with
    | agg cs => exact same (by cases d <;> first | exact .inr rfl | exact .inl (show _ = _ from h).symm)
    | tup cs => exact same (by cases d <;> first | exact .inr rfl | exact .inl (show _ = _ from h).symm)
    | fn f cs => exact same (by cases d <;> first | exact .inr rfl | exact .inl (show _ = _ from h).symm)
    | _ => exact relV_of_leaf (leaf_le h hv)
  unfold sle2 at h
  split at h
  · obtain ⟨ys, rfl, hl, hh⟩ := hv
    obtain ⟨h1, h2⟩ := sleL_spec h
    refine ⟨ys, rfl, by omega, fun j c hj => ?_⟩
    obtain ⟨d, hd, hs⟩ := h2 j c hj
    exact leaf_le hs (hh j d hd)
  · exact easy h

def leT (t : List (Nat × AV)) : List (Nat × AV) → Prop
  | [] => True
  | (i, v) :: r => sle2 (lookT t i) v ∧ leT t r

theorem leT_spec {t : List (Nat × AV)} : ∀ {t' : List (Nat × AV)}, leT t t' → ∀ u, AVle (lookT t u) (lookT t' u)
  | [], _, u => AVle.un _
  | (i, v) :: r, h, u => by
    simp only [lookT]
    cases hb : Nat.beq i u with
    | true =>
      have := Nat.eq_of_beq_eq_true hb
      subst this
      exact fun x val hv => rel_le h.1 hv
    | false => exact leT_spec h.2 u

theorem stLe {t t' : List (Nat × AV)} {h h' : List Blk} (e : h = h') (l : leT t t') : StLe ⟨t, h⟩ ⟨t', h'⟩ := ⟨e, leT_spec l⟩

/-- what a loop keeps of the temporaries -/
def keep (t : List (Nat × AV)) : List Nat → List (Nat × AV)
  | [] => []
  | i :: r => (i, lookT t i) :: keep t r
end
end Go.Proofs.Ytincnfjihffllaa.Ev
