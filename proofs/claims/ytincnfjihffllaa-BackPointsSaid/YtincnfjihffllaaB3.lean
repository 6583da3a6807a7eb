/- Texts of the proof, joined: Ev19 Ev20 Ev21 Ev22 Ev26 Tab Pu1 C1 Pu2 C2 Pu0 C3 Pu4 C4 Rd Pu5 C5 Pu6 C6 Pu8 Pu9 C7 Pu7 -/
import Derived.Test.YtincnfjihffllaaB2
import Derived.Laws.Sem
import Derived.LoopN
import Derived.Test.YtincnfjihffllaaProg
import Derived.KernelRfl
import Derived.Laws.Bits64
import Derived.Laws.BitsLemmas
import Derived.ChangeArms
import Derived.ProofKit
import Derived.RowKit
import Derived.Carry
set_option linter.unusedVariables false
set_option linter.unusedSimpArgs false

/- Functions: contracts out of the evaluator's run. -/
namespace Go.Proofs.Ytincnfjihffllaa.Ev
open Go Go.RowKit
set_option linter.unusedVariables false
set_option linter.unusedSimpArgs false

/-! ### less is told -/
def sleL (p : AV → AV → Prop) : List AV → List AV → Prop
  | [], [] => True
  | x :: r, y :: s => p x y ∧ sleL p r s
  | _, _ => False
def sle0 : AV → AV → Prop
  | .int k a, .int k' b => k = k' ∧ a.val = b.val
  | .bool a, .bool b => a.val = b.val
  | .sli k l, .sli k' l' => k = k' ∧ l = l'
  | .s0, .sli k l => l = []
  | .s0, .slc sz n f => n.val = 0
  | .str a, .str b => a = b
  | .slc sz n f, .sli k l => n.val = 0 ∧ l = []
  | _, .un => True
  | x, y => x = y
def sle1 : AV → AV → Prop
  | .slc sz n f, .slc sz' n' f' => sz = sz' ∧ n.val = n'.val ∧ ∀ i, i < n.val.toNat → sleL sle0 (f i) (f' i)
  | x, y => sle0 x y
def sle2 : AV → AV → Prop
  | .agg cs, .agg cs' => sleL sle1 cs cs'
  | x, y => sle1 x y
def sle : AV → AV → Prop
  | .tup cs, .tup cs' => sleL sle2 cs cs'
  | x, y => sle2 x y

def RoLe (x y : AV) : Prop := ∀ (O : Nat → Prop) (w : World) (v : Value), RoV O w x v → RoV O w y v

theorem sleL_spec {p : AV → AV → Prop} : ∀ {l m : List AV}, sleL p l m → l.length = m.length ∧ ∀ (j : Nat) (c : AV), m[j]? = some c → ∃ d, l[j]? = some d ∧ p d c
  | [], [], _ => ⟨rfl, fun j c hj => by simp at hj⟩
  | x :: r, y :: s, h => by
    obtain ⟨h1, h2⟩ := sleL_spec h.2
    refine ⟨by simp [h1], fun j c hj => ?_⟩
    cases j with
    | zero => simp at hj; subst hj; exact ⟨x, rfl, h.1⟩
    | succ j => simpa using h2 j c (by simpa using hj)
  | [], _ :: _, h => h.elim
  | _ :: _, [], h => h.elim

theorem sle0_sound {x y : AV} (h : sle0 x y) : RoLe x y := by
  intro O w v hv
  unfold sle0 at h
  split at h
  · obtain ⟨rfl, h⟩ := h
    cases hv with
    | int _ _ n hn => exact .int _ _ _ (h ▸ hn)
  · cases hv with
    | bool _ b hb => exact .bool _ _ (h ▸ hb)
  · obtain ⟨rfl, rfl⟩ := h; exact hv
  · subst h; cases hv with
    | s0 => exact .sliN _ none 0
  · cases hv with
    | s0 => exact .slcN _ _ _ none 0 h
  · subst h; exact hv
  · obtain ⟨h, rfl⟩ := h
    cases hv with
    | slc _ _ _ a cap Y hs ho h0 hp hl hc hr =>
      rw [h]
      exact .sliN _ _ _
    | slcN _ _ _ A cap h => exact .sliN _ _ _
  · exact .un _
  · subst h; exact hv

theorem sle1_sound {x y : AV} (h : sle1 x y) : RoLe x y := by
  unfold sle1 at h
  split at h
  · rename_i sz n f sz' n' f'
    obtain ⟨rfl, h1, h2⟩ := h
    intro O w v hv
    cases hv with
    | slc _ _ _ a cap Y hs ho h0 hp hl hc hr =>
      rw [h1]
      refine .slc _ n' f' a cap Y hs ho (by omega) (by omega) (fun i hi => ?_) (fun i j c hi hj => ?_) (fun i j c hi hj => ?_)
      · rw [← (sleL_spec (h2 i (by omega))).1]; exact hl i (by omega)
      · obtain ⟨d, hd, _⟩ := (sleL_spec (h2 i (by omega))).2 j c hj
        exact hc i j d (by omega) hd
      · obtain ⟨d, hd, hs⟩ := (sleL_spec (h2 i (by omega))).2 j c hj
        exact sle0_sound hs _ _ _ (hr i j d (by omega) hd)
    | slcN _ _ _ A cap h => exact .slcN _ _ _ _ _ (by omega)
  · exact sle0_sound h

theorem sle2_sound {x y : AV} (h : sle2 x y) : RoLe x y := by
  unfold sle2 at h
  split at h
  · intro O w v hv
    obtain ⟨h1, h2⟩ := sleL_spec h
    cases hv with
    | agg _ ys hl hh =>
      refine .agg _ _ (by omega) (fun j c hj => ?_)
      obtain ⟨d, hd, hs⟩ := h2 j c hj
      exact sle1_sound hs _ _ _ (hh j d hd)
  · exact sle1_sound h

theorem sle_sound {x y : AV} (h : sle x y) : RoLe x y := by
  unfold sle at h
  split at h
  · intro O w v hv
    obtain ⟨h1, h2⟩ := sleL_spec h
    cases hv with
    | tup _ ys hl hh =>
      refine .tup _ _ (by omega) (fun j c hj => ?_)
      obtain ⟨d, hd, hs⟩ := h2 j c hj
      exact sle2_sound hs _ _ _ (hh j d hd)
  · exact sle2_sound h

/-! ### functions -/
/-- What is asked of a function's text. -/
def fnOK (fn : Func) (n : Nat) : Bool :=
  !(fn.name == "runtime.NumGoroutine") && Nat.ble n fn.ntmps && match fn.body with
    | some c => codeOK fn.ntmps c
    | none => false

/-- The end of a call: what it gives, handed on. -/
def finish (E : Env) (h : List Blk) (v : AV) (K : AV → Prop) : Prop :=
  match v with
  | .tup vs => cleanA h vs ∧ match frzA E h vs with
    | some (ys, _) => K (.tup ys)
    | none => False
  | v => clean h v ∧ match frz E h v with
    | some (y, _) => K y
    | none => False

section
variable {P : Program} {G : Nat → TI} {base : Nat} {O0 : Nat → Prop} {μ : Nat → Nat} {hp : List Blk} {w w' : World}

theorem params_look : ∀ (n : Nat) (l : List AV) (t : Nat), lookT (params n l) t = if n ≤ t then (l[t - n]?).getD .un else .un
  | n, [], t => by simp [params, lookT]
  | n, a :: r, t => by
    simp only [params, lookT]
    cases hb : Nat.beq n t with
    | true =>
      have := Nat.eq_of_beq_eq_true hb
      subst this
      simp
    | false =>
      have hne : n ≠ t := by intro e; rw [e, Nat.beq_refl] at hb; cases hb
      rw [cond_false, params_look (n + 1) r t]
      by_cases h1 : n + 1 ≤ t
      · rw [if_pos h1, if_pos (by omega), show t - n = (t - (n + 1)) + 1 by omega]
        simp
      · rw [if_neg h1]
        rw [if_neg (by omega)]

/-- one result -/
def resOne (tmps : Array Value) : ResultVar → Sem Value
  | .tmp t => pure (tmps.getD t undef)
  | .cell a t => do loadVar t (← asAddr (tmps.getD a undef))

theorem evRes_sound (hG : GOK P G) (H : HR base O0 μ hp w) {tt : List (Nat × AV)} {a : Act} (hT : TR (mkX base O0 μ hp w) tt a) : ∀ (l : List ResultVar) (K : List AV → Prop), evRes (realE P) G ⟨tt, hp⟩ l K →
    ∃ vs ys, K vs ∧ (l.mapM (resOne a.tmps)).run P w = .ok ys w ∧ vs.length = ys.length ∧ ∀ (j : Nat) (c : AV), vs[j]? = some c → RelV (mkX base O0 μ hp w) c (ys.getD j undef)
  | [], K, h => ⟨[], [], h, rfl, rfl, fun j c hj => by simp at hj⟩
  | .tmp t :: r, K, h => by
    obtain ⟨vs, ys, h1, h2, h3, h4⟩ := evRes_sound hG H hT r _ h
    refine ⟨_, a.tmps.getD t undef :: ys, h1, ?_, by simp [h3], fun j c hj => ?_⟩
    · simp only [List.mapM_cons, resOne, Sem.run_bind, Sem.run_pure, Result.andThen_ok, h2]
    · cases j with
      | zero => simp at hj; subst hj; exact hT t
      | succ j => simpa using h4 j c (by simpa using hj)
  | .cell p t :: r, K, h => by
    simp only [evRes] at h
    obtain ⟨v, hv, val, hrun, hrel⟩ := load_sound hG H (hT p) h
    obtain ⟨vs, ys, h1, h2, h3, h4⟩ := evRes_sound hG H hT r _ hv
    refine ⟨_, val :: ys, h1, ?_, by simp [h3], fun j c hj => ?_⟩
    · have : (resOne a.tmps (.cell p t)).run P w = .ok val w := by
        simp only [Instr.loadAt, Sem.run_bind] at hrun
        simp only [resOne, Sem.run_bind]
        generalize a.tmps.getD p undef = pv at hrun ⊢
        cases pv with
        | pointer o => cases o with
          | some ad => exact hrun
          | none => cases hrun
        | _ => cases hrun
      simp only [List.mapM_cons, Sem.run_bind, this, Sem.run_pure, Result.andThen_ok, h2]
    · cases j with
      | zero => simp at hj; subst hj; exact hrel
      | succ j => simpa using h4 j c (by simpa using hj)

theorem evF_sound (hG : GOK P G) (hm : P.follows .mixedOrders = true) {f : FuncId} {fn : Func} (hf : P.funcs[f]? = some fn) {args : List AV} (ho : fnOK fn args.length = true)
    {lp : Code → St → (Ex → St → Prop) → Prop} (hlp : ∀ b s K, codeOK fn.ntmps b = true → lp b s K → lpR P fn.ntmps b s K) {h : List Blk} {K : AV → List Blk → Prop}
    (hv : evF (realE P) G lp fn args h K) : CallsH P f args h K := by
  unfold fnOK at ho
  simp only [Bool.and_eq_true, Bool.not_eq_true'] at ho
  obtain ⟨⟨hname, hn⟩, hc⟩ := ho
  have hn' := Nat.le_of_ble_eq_true hn
  unfold evF at hv
  cases hb : fn.body with
  | none => rw [hb] at hc; cases hc
  | some c =>
    rw [hb] at hc hv
    dsimp only at hc hv
    refine fun base O0 μ w vals H hl hr => .inl ⟨⟨fn, hf, hname, by rw [hb]; rfl⟩, ?_⟩
    let I : X := mkX base O0 μ h w
    have R : SR base O0 I fn.ntmps ⟨params 0 args, h⟩ μ { tmps := vals ++ Array.replicate (fn.ntmps - vals.size) undef, defers := [] } w := by
      refine ⟨by simp; omega, rfl, H, fun t => ?_, Ext.refl _, Below.refl _ _⟩
      rw [params_look, if_pos (Nat.zero_le t), Nat.sub_zero]
      by_cases ht : t < args.length
      · rw [List.getElem?_eq_getElem ht]
        have := hr t args[t] (List.getElem?_eq_getElem ht)
        simp only [Option.getD_some]
        rw [getD_append, if_pos (by omega)]
        exact this
      · rw [List.getElem?_eq_none (by omega)]
        exact RoV.un _
    have hwp := ev_sound hG hm hlp c _ _ _ _ _ hc R hv
    refine calls_of_wp hf hb (wp_mono hwp ?_)
    have fin : ∀ s μ' a w', SR base O0 I fn.ntmps s μ' a w' → evRes (realE P) G s fn.results.toList (retOf K s.h) →
        a.defers = [] ∧ ∃ v, (results fn a.tmps).run P w' = .ok v w' ∧ ∃ val r h' μ', Ending.returned v = .returned val ∧ K r h' ∧ RelV (mkX base O0 μ' h' w') r val ∧ HR base O0 μ' h' w' ∧
          Ext (mkX base O0 μ h w) (mkX base O0 μ' h' w') ∧ Below base w w' := by
      intro s μ' a w' R' hres
      refine ⟨R'.defers, ?_⟩
      obtain ⟨vs, ys, h1, h2, h3, h4⟩ := evRes_sound hG R'.hr R'.tmps fn.results.toList _ hres
      have hrun : (results fn a.tmps).run P w' = .ok (if h : ys.toArray.size = 1 then ys.toArray[0] else .tuple ys.toArray) w' := by
        have e : results fn a.tmps = (do
            let vs ← (List.toArray <$> fn.results.toList.mapM (resOne a.tmps) : Sem (Array Value))
            pure (if h : vs.size = 1 then vs[0] else .tuple vs)) := by
          unfold results
          rw [← Array.mapM_eq_mapM_toList]
          congr 2
        rw [e]
        simp only [Sem.run_bind, map_eq_pure_bind, h2, Sem.run_pure, Result.andThen_ok]
      refine ⟨_, hrun, (if h : ys.toArray.size = 1 then ys.toArray[0] else .tuple ys.toArray), ?_⟩
      have tup : retOf K s.h vs = (bif allB AV.noTup vs then K (.tup vs) s.h else False) → ∃ r h' μ', Ending.returned (.tuple ys.toArray) = .returned (.tuple ys.toArray) ∧ K r h' ∧ RelV (mkX base O0 μ' h' w') r (.tuple ys.toArray) ∧ HR base O0 μ' h' w' ∧
          Ext (mkX base O0 μ h w) (mkX base O0 μ' h' w') ∧ Below base w w' := by
        intro e1
        rw [e1] at h1
        cases hall : allB AV.noTup vs with
        | false => rw [hall] at h1; exact h1.elim
        | true =>
          rw [hall, cond_true] at h1
          refine ⟨.tup vs, s.h, μ', rfl, h1, ⟨ys.toArray, rfl, by simpa using h3, fun j c hj => ?_⟩, R'.hr, R'.ext, R'.below⟩
          have hr := h4 j c hj
          rw [allB_eq, List.all_eq_true] at hall
          have hnt := hall c (List.mem_of_getElem? hj)
          have e2 : ys.toArray.getD j undef = ys.getD j undef := by simp [Array.getD_eq_getD_getElem?, List.getD]
          rw [e2]
          cases c <;> first | exact hr | (exact absurd hnt (by simp [AV.noTup]))
      match vs, ys, h3, h4, h1, tup with
      | [v], [y], _, h4, h1, _ => exact ⟨v, s.h, μ', rfl, h1, by simpa using h4 0 v rfl, R'.hr, R'.ext, R'.below⟩
      | [], [], _, h4, h1, tup => exact tup rfl
      | v :: v' :: vs, y :: y' :: ys, h3, h4, h1, tup =>
        have : ¬ (y :: y' :: ys).toArray.size = 1 := by simp
        rw [dif_neg this]
        exact tup rfl
    intro e a w' hq
    cases e with
    | normal => obtain ⟨s, μ', R', h'⟩ := hq; exact fin s μ' a w' R' h'
    | ret => obtain ⟨s, μ', R', h'⟩ := hq; exact fin s μ' a w' R' h'
    | exit i => obtain ⟨s, μ', R', h'⟩ := hq; exact h'.elim
    | goto i => obtain ⟨s, μ', R', h'⟩ := hq; exact h'.elim
    | panic ch => exact hq.elim
    | outgrown => exact hq.elim
end
end Go.Proofs.Ytincnfjihffllaa.Ev

/- What a proof uses: a function's contract, calls, loops. -/
namespace Go.Proofs.Ytincnfjihffllaa.Ev
open Go Go.RowKit
set_option linter.unusedVariables false
set_option linter.unusedSimpArgs false

section
variable {P : Program} {G : Nat → TI} {base : Nat} {O0 : Nat → Prop} {μ : Nat → Nat} {hp : List Blk} {w w' : World}

theorem frz_notup {E : Env} {hp : List Blk} {v : AV} {r : AV × List Blk} (h : frz E hp v = some r) : ∀ vs, v ≠ .tup vs := by
  rintro vs rfl
  simp [frz, frz1] at h

theorem frzA_notup {E : Env} : ∀ {l : List AV} {hp : List Blk} {r : List AV × List Blk}, frzA E hp l = some r → ∀ c ∈ l, ∀ vs, c ≠ .tup vs
  | [], _, _, _, c, hc, _ => by cases hc
  | x :: l, hp, r, h, c, hc, vs => by
    simp only [frzA] at h
    split at h
    · rename_i y h1 he
      split at h
      · rename_i he2
        rcases List.mem_cons.1 hc with rfl | hc
        · exact frz_notup he vs
        · exact frzA_notup he2 c hc vs
      · cases h
    · cases h

theorem aggR_of_rel {x : X} {c : AV} {v : Value} (h : RelV x c v) (hn : ∀ vs, c ≠ .tup vs) : AggR x c v := by
  unfold RelV at h
  split at h
  · exact absurd rfl (hn _)
  · exact h

/-- THE CALL: of a function of which the contract is known. -/
theorem call_real {f : FuncId} {args cargs : List AV} {r : AV} (hC : CallsA P f cargs r) {ys : List AV} {h h' : List Blk} (hf : frzA (realE P) h args = some (ys, h')) (hc : cleanA h args)
    (hle : sleL sle2 ys cargs) {K : AV → List Blk → Prop} (hK : K r h') : CallsH P f args h K := by
  refine fun base O0 μ w vals H hl hr => ?_
  obtain ⟨F, q1, q2⟩ := frzA_sound args h (fun j => vals.getD j undef) H (fun j c hj => aggR_of_rel (hr j c hj) (frzA_notup hf c (List.mem_of_getElem? hj))) hc hf
  obtain ⟨e1, e2⟩ := sleL_spec hle
  refine (hC (okO base O0 μ h' w) w vals (fun n hn => okO_lt H.all hn) (by omega) (fun j c hj => ?_)).mono ?_
  · obtain ⟨d, hd, hs⟩ := e2 j c hj
    exact sle2_sound hs _ _ _ (q2 j d hd)
  · rintro e w' ⟨val, rfl, hv, hb⟩
    exact ⟨val, r, h', μ, rfl, hK, relV_of_ro (hv.mono (sub_okO F.hr hb) (fun _ _ _ h => h)), F.hr.grow hb, F.ext.trans (Ext.grow H.all hb), hb.mono H.all⟩

/-- THE CONTRACT: out of the run. -/
theorem callsA_real {f : FuncId} {args : List AV} {r : AV} (h : CallsH P f args [] (fun v h => finish (realE P) h v (fun y => sle y r))) : CallsA P f args r := by
  refine fun O w vals hO hl hr => ?_
  have H : HR w.heap.size O (fun _ => 0) [] w := ⟨Nat.le_refl _, fun b x hb => by simp at hb, fun b hb => by simp [dimB, Blk.dim] at hb, fun b b' hb => by simp [wrB, Blk.wr] at hb⟩
  refine (h w.heap.size O (fun _ => 0) w vals H hl (fun j c hj => relV_of_ro ((hr j c hj).mono (fun n hn => .inl ⟨hO n hn, hn⟩) (fun _ _ _ h => h)))).mono ?_
  rintro e w' ⟨val, v, h', μ', rfl, hK, hv, hH, hX, hB⟩
  have okn : ∀ hq, ∀ n, okO w.heap.size O μ' hq w' n → newO O w w' n := by
    rintro hq n (⟨_, h1⟩ | ⟨h1, h2, _⟩)
    · exact .inl h1
    · exact .inr ⟨h1, h2⟩
  refine ⟨val, rfl, ?_, hB⟩
  unfold finish at hK
  split at hK
  · rename_i vs
    obtain ⟨hc, hK⟩ := hK
    split at hK
    · rename_i ys h2 hf
      obtain ⟨zs, rfl, hl2, hh⟩ := hv
      obtain ⟨F, q1, q2⟩ := frzA_sound vs h' (fun j => zs.getD j undef) hH hh hc hf
      refine sle_sound hK _ _ _ ?_
      exact (RoV.tup _ _ (by omega) q2).mono (okn _) (fun _ _ _ h => h)
    · exact hK.elim
  · rename_i hnt
    obtain ⟨hc, hK⟩ := hK
    split at hK
    · rename_i y h2 hf
      obtain ⟨F, q⟩ := frz_sound hH (aggR_of_rel hv (fun vs e => hnt vs e)) hc hf
      exact sle_sound hK _ _ _ (q.mono (okn _) (fun _ _ _ h => h))
    · exact hK.elim

/-- what a loop is, to the evaluator -/
def Loops (P : Program) (n : Nat) (lp : Code → St → (Ex → St → Prop) → Prop) : Prop := lp = fun b s K => codeOK n b = true → lpR P n b s K

/-- The evaluator's run is a contract. -/
theorem callsA_of (hG : GOK P G) (hm : P.follows .mixedOrders = true) {f : FuncId} {fn : Func} (hf : P.funcs[f]? = some fn) {args : List AV} (ho : fnOK fn args.length = true) {r : AV}
    (h : ∀ E, E = realE P → ∀ lp, Loops P fn.ntmps lp → evF E G lp fn args [] (fun v h => finish E h v (fun y => sle y r))) : CallsA P f args r :=
  callsA_real (evF_sound hG hm hf ho (lp := fun b s K => codeOK fn.ntmps b = true → lpR P fn.ntmps b s K) (fun b s K hc h => h hc) (h _ rfl _ rfl))

theorem Goes.calls {f : FuncId} {vals : Array Value} {w : World} {Q : Ending → World → Prop} (hf : FOK P f) (h : Goes P f vals w Q) : Calls P f vals w Q := by
  rcases h with ⟨_, h⟩ | ⟨val, h, _⟩
  · exact h
  · rw [run_callFunc hf] at h; cases h

theorem E_br {E : Env} (hE : E = realE P) {b : Bool} {t f : Unit → Prop} (h1 : b = true → t ()) (h2 : b = false → f ()) : E.br b t f := by
  subst hE; exact ⟨h1, h2⟩

theorem E_nm {E : Env} (hE : E = realE P) {n : Int} {K : Int → Prop} (h : ∀ v, v = n → K v) : E.nm n K := by
  subst hE; exact h n rfl

theorem E_row {τ : Type} {E : Env} (hE : E = realE P) {cell : τ → List AV} {g : Nat → τ} {i : Int} {K : List AV → Prop} (h : ∀ t, t = g i.toNat → K (cell t)) : E.row (fun i => cell (g i)) i K := by
  subst hE; exact h _ rfl

theorem E_call {E : Env} (hE : E = realE P) {f : FuncId} {args cargs : List AV} {r : AV} (hC : CallsA P f cargs r) {ys : List AV} {h h' : List Blk} {fz : Option (List AV × List Blk)} (hf : frzA E h args = some (ys, h')) (hc : cleanA h args)
    (hle : sleL sle2 ys cargs) {K : AV → List Blk → Prop} (hK : K r h') : E.call f args h fz K := by
  subst hE; exact call_real hC hf hc hle hK

theorem E_pcall {E : Env} (hE : E = realE P) {f : FuncId} {args : List AV} {r : AV} (hC : CallsA P f args r) (hm : allB AV.mf args = true) {K : AV → Prop} (hK : K r) : E.pcall f args K := by
  subst hE; exact ⟨r, hK, hm, hC⟩

/-- A call within the run: over the same memory. -/
theorem E_in {E : Env} (hE : E = realE P) (hG : GOK P G) (hm : P.follows .mixedOrders = true) {f : FuncId} {fn : Func} (hf : P.funcs[f]? = some fn) {args : List AV} (ho : fnOK fn args.length = true)
    {h : List Blk} {fz : Option (List AV × List Blk)} {K : AV → List Blk → Prop} (hv : ∀ lp, Loops P fn.ntmps lp → evF E G lp fn args h K) : E.call f args h fz K := by
  subst hE
  exact evF_sound hG hm hf ho (lp := fun b s K => codeOK fn.ntmps b = true → lpR P fn.ntmps b s K) (fun b s K hc h => h hc) (hv _ rfl)

/-- A LOOP. -/
theorem E_loop {ι : Type} {E : Env} (hE : E = realE P) (hG : GOK P G) (hm : P.follows .mixedOrders = true) {n : Nat} {lp : Code → St → (Ex → St → Prop) → Prop} (hlp : Loops P n lp) {b : Code} {s : St} {K : Ex → St → Prop}
    (S : ι → St) (m : ι → Nat) (ok : ι → Prop) (h0 : ∃ i, ok i ∧ StLe s (S i))
    (hr : ∀ i, ok i → ev E G lp b (S i) (fun e s => match e with
      | .normal => ∃ j, m j < m i ∧ ok j ∧ StLe s (S j)
      | .exit x => K (.exit x) s
      | .goto x => K (.goto x) s
      | .ret => K .ret s)) : lp (.loop b) s K := by
  subst hE
  subst hlp
  intro hc
  exact loop_real hG hm (lp := fun b s K => codeOK n b = true → lpR P n b s K) (fun b s K hc h => h hc) (b := b) (show codeOK n b = true from hc) S m ok h0 hr

/-- A LABEL. -/
theorem E_scope {ι : Type} {E : Env} (hE : E = realE P) (hG : GOK P G) (hm : P.follows .mixedOrders = true) {n : Nat} {lp : Code → St → (Ex → St → Prop) → Prop} (hlp : Loops P n lp) {b rest : Code} {s : St} {K : Ex → St → Prop}
    (l : Nat) (hf : findLabel b l = some rest) (S : ι → St) (m : ι → Nat) (ok : ι → Prop)
    (h0 : ev E G lp b s (fun e s => match e with
      | .goto x => x = l ∧ ∃ i, ok i ∧ StLe s (S i)
      | .normal => K .normal s
      | .exit x => K (.exit x) s
      | .ret => K .ret s))
    (hr : ∀ i, ok i → ev E G lp rest (S i) (fun e s => match e with
      | .goto x => x = l ∧ ∃ j, m j < m i ∧ ok j ∧ StLe s (S j)
      | .normal => K .normal s
      | .exit x => K (.exit x) s
      | .ret => K .ret s)) : lp (.scope b) s K := by
  subst hE
  subst hlp
  intro hc
  exact scope_real hG hm (lp := fun b s K => codeOK n b = true → lpR P n b s K) (fun b s K hc h => h hc) (b := b) (show codeOK n b = true from hc) hf S m ok h0 hr

/-! ### states that say less -/
theorem leaf_le {x : X} {c d : AV} (h : sle1 c d) {v : Value} (hv : LeafR x c v) : LeafR x d v := by
  have own : ∀ {c d : AV}, (∃ b s r l, c = .ms b s r l) ∨ (∃ b s r l, c = .ptr b s r l) → sle1 c d → d = c ∨ d = .un := by
    rintro c d (⟨b, s, r, l, rfl⟩ | ⟨b, s, r, l, rfl⟩) h <;> (cases d <;> first | exact .inr rfl | exact .inl (show _ = _ from h).symm)
  by_cases hc : (∃ b s r l, c = .ms b s r l) ∨ (∃ b s r l, c = .ptr b s r l)
  · rcases own hc h with rfl | rfl
    · exact hv
    · exact RoV.un _
  · have : RoV x.O x.w c v := by
      unfold LeafR at hv
      split at hv
      · exact absurd (.inl ⟨_, _, _, _, rfl⟩) hc
      · exact absurd (.inr ⟨_, _, _, _, rfl⟩) hc
      · exact hv
    exact leafR_of_ro (sle1_sound h _ _ _ this)

theorem rel_le {x : X} {c d : AV} (h : sle2 c d) {v : Value} (hv : RelV x c v) : RelV x d v := by
  have easy : sle1 c d → RelV x d v := by
    intro h
    have same : d = c ∨ d = .un → RelV x d v := by
      rintro (rfl | rfl)
      · exact hv
      · exact RoV.un _
    cases c with
    | agg cs => exact same (by cases d <;> first | exact .inr rfl | exact .inl (show _ = _ from h).symm)
    | tup cs => exact same (by cases d <;> first | exact .inr rfl | exact .inl (show _ = _ from h).symm)
    | fn f cs => exact same (by cases d <;> first | exact .inr rfl | exact .inl (show _ = _ from h).symm)
    | _ => exact relV_of_leaf (leaf_le h hv)
  unfold sle2 at h
  split at h
  · obtain ⟨ys, rfl, hl, hh⟩ := hv
    obtain ⟨h1, h2⟩ := sleL_spec h
    refine ⟨ys, rfl, by omega, fun j c hj => ?_⟩
    obtain ⟨d, hd, hs⟩ := h2 j c hj
    exact leaf_le hs (hh j d hd)
  · exact easy h

def leT (t : List (Nat × AV)) : List (Nat × AV) → Prop
  | [] => True
  | (i, v) :: r => sle2 (lookT t i) v ∧ leT t r

theorem leT_spec {t : List (Nat × AV)} : ∀ {t' : List (Nat × AV)}, leT t t' → ∀ u, AVle (lookT t u) (lookT t' u)
  | [], _, u => AVle.un _
  | (i, v) :: r, h, u => by
    simp only [lookT]
    cases hb : Nat.beq i u with
    | true =>
      have := Nat.eq_of_beq_eq_true hb
      subst this
      exact fun x val hv => rel_le h.1 hv
    | false => exact leT_spec h.2 u

theorem stLe {t t' : List (Nat × AV)} {h h' : List Blk} (e : h = h') (l : leT t t') : StLe ⟨t, h⟩ ⟨t', h'⟩ := ⟨e, leT_spec l⟩

/-- what a loop keeps of the temporaries -/
def keep (t : List (Nat × AV)) : List Nat → List (Nat × AV)
  | [] => []
  | i :: r => (i, lookT t i) :: keep t r
end
end Go.Proofs.Ytincnfjihffllaa.Ev

/- What a proof uses: calls by contract, what is told fitting itself, loops unrolled. -/
namespace Go.Proofs.Ytincnfjihffllaa.Ev
open Go Go.RowKit
set_option linter.unusedVariables false
set_option linter.unusedSimpArgs false

section
variable {P : Program} {G : Nat → TI}

/-- THE CALL, of a function that gives one of many: whatever it gives. -/
theorem E_callX {τ : Type} {Q : τ → Prop} {g : τ → AV} {E : Env} (hE : E = realE P) {f : FuncId} {args cargs : List AV} (hC : ∃ t, Q t ∧ CallsA P f cargs (g t)) {ys : List AV} {h h' : List Blk}
    {fz : Option (List AV × List Blk)} (hf : frzA E h args = some (ys, h')) (hc : cleanA h args) (hle : sleL sle2 ys cargs) {K : AV → List Blk → Prop} (hK : ∀ t, Q t → K (g t) h') : E.call f args h fz K := by
  obtain ⟨t, h1, h2⟩ := hC
  exact E_call hE h2 hf hc hle (hK t h1)

theorem callsA_le {f : FuncId} {args cargs : List AV} {r : AV} (hC : CallsA P f cargs r) (hle : sleL sle2 args cargs) : CallsA P f args r := by
  obtain ⟨e1, e2⟩ := sleL_spec hle
  refine fun O w vals hO hl hr => hC O w vals hO (by omega) (fun j c hj => ?_)
  obtain ⟨d, hd, hs⟩ := e2 j c hj
  exact sle2_sound hs _ _ _ (hr j d hd)

/-- THE CALL among operations whose order is open. -/
theorem E_pcallX {τ : Type} {Q : τ → Prop} {g : τ → AV} {E : Env} (hE : E = realE P) {f : FuncId} {args cargs : List AV} (hC : ∃ t, Q t ∧ CallsA P f cargs (g t)) (hm : allB AV.mf args = true)
    (hle : sleL sle2 args cargs) {K : AV → Prop} (hK : ∀ t, Q t → K (g t)) : E.pcall f args K := by
  obtain ⟨t, h1, h2⟩ := hC
  exact E_pcall hE (callsA_le h2 hle) hm (hK t h1)

/-- So many rounds of a loop, at most. -/
def evRounds (E : Env) (G : Nat → TI) (lp : Code → St → (Ex → St → Prop) → Prop) (b : Code) : Nat → St → (Ex → St → Prop) → Prop
  | 0, _, _ => False
  | n + 1, s, K => ev E G lp b s (fun e s => match e with
      | .normal => evRounds E G lp b n s K
      | .exit x => K (.exit x) s
      | .goto x => K (.goto x) s
      | .ret => K .ret s)

theorem E_rounds {E : Env} (hE : E = realE P) (hG : GOK P G) (hm : P.follows .mixedOrders = true) {n : Nat} {lp : Code → St → (Ex → St → Prop) → Prop} (hlp : Loops P n lp) {b : Code} {s : St} {K : Ex → St → Prop}
    (m : Nat) (h : evRounds E G lp b m s K) : lp (.loop b) s K := by
  subst hE
  subst hlp
  intro hc base O0 I μ a w R
  refine wp_loop_rounds m ?_
  induction m generalizing s μ a w with
  | zero => exact h.elim
  | succ m ih =>
    refine wp_mono (ev_sound hG hm (lp := fun b s K => codeOK n b = true → lpR P n b s K) (fun b s K hc h => h hc) b _ s μ a w (show codeOK n b = true from hc) R h) ?_
    intro e a w hq
    cases e with
    | normal =>
      obtain ⟨s', μ', R', h'⟩ := hq
      exact ih h' μ' a w R'
    | exit i => exact hq
    | goto i => exact hq
    | ret => exact hq
    | panic ch => exact hq.elim
    | outgrown => exact hq.elim

/-! ### what the true operations are -/
theorem cmp_eql (a b : Int) : cmpR .eql a b = decide (a = b) := by simp only [cmpR]; by_cases h : a = b <;> simp [h]
theorem cmp_neq (a b : Int) : cmpR .neq a b = decide (a ≠ b) := by simp only [cmpR]; by_cases h : a = b <;> simp [h]
theorem cmp_lss (a b : Int) : cmpR .lss a b = decide (a < b) := rfl
theorem cmp_leq (a b : Int) : cmpR .leq a b = decide (a ≤ b) := rfl
theorem cmp_gtr (a b : Int) : cmpR .gtr a b = decide (b < a) := rfl
theorem cmp_geq (a b : Int) : cmpR .geq a b = decide (b ≤ a) := rfl

/-! ### what is told fits itself -/
theorem u_nil {p : AV → AV → Prop} : sleL p [] [] := trivial
theorem u_cons {p : AV → AV → Prop} {x y : AV} {r s : List AV} (h : p x y) (k : sleL p r s) : sleL p (x :: r) (y :: s) := ⟨h, k⟩
theorem u2_int {k : IntKind} {a : SI} : sle2 (.int k a) (.int k (.s a.val)) := ⟨rfl, rfl⟩
theorem u1_int {k : IntKind} {a : SI} : sle1 (.int k a) (.int k (.s a.val)) := ⟨rfl, rfl⟩
theorem u2_bool {a : SB} : sle2 (.bool a) (.bool (.s a.val)) := rfl
theorem u1_bool {a : SB} : sle1 (.bool a) (.bool (.s a.val)) := rfl
theorem u2_sli {k : IntKind} {l : List Int} : sle2 (.sli k l) (.sli k l) := ⟨rfl, rfl⟩
theorem u1_sli {k : IntKind} {l : List Int} : sle1 (.sli k l) (.sli k l) := ⟨rfl, rfl⟩
theorem u2_s0 {k : IntKind} : sle2 .s0 (.sli k []) := rfl
theorem u1_s0 {k : IntKind} : sle1 .s0 (.sli k []) := rfl
theorem u2_agg {cs ds : List AV} (h : sleL sle1 cs ds) : sle2 (.agg cs) (.agg ds) := h
theorem u2_fn {f : FuncId} {cs : List AV} : sle2 (.fn f cs) (.fn f cs) := rfl
theorem u2_slc {sz : Nat} {n : SI} {f : Nat → List AV} : sle2 (.slc sz n f) (.slc sz (.s n.val) f) := ⟨rfl, rfl, fun i _ => by
  generalize f i = l
  induction l with
  | nil => trivial
  | cons x r ih => exact ⟨by unfold sle0; split <;> simp_all, ih⟩⟩
end
end Go.Proofs.Ytincnfjihffllaa.Ev

/- Loops whose rounds make memory of their own: it is let go behind each. -/
namespace Go.Proofs.Ytincnfjihffllaa.Ev
open Go Go.RowKit
set_option linter.unusedVariables false
set_option linter.unusedSimpArgs false

/-- does it look only at the first so many blocks? -/
def in1 (k : Nat) : AV → Bool
  | .ms b _ _ _ => Nat.blt b k
  | .ptr b _ _ _ => Nat.blt b k
  | _ => true
def in2 (k : Nat) : AV → Bool
  | .agg cs => allB (in1 k) cs
  | .fn _ cs => allB (in1 k) cs
  | x => in1 k x
def in3 (k : Nat) : AV → Bool
  | .tup cs => allB (in2 k) cs
  | x => in2 k x

def takeB : Nat → List Blk → List Blk
  | 0, _ => []
  | _, [] => []
  | n + 1, c :: r => c :: takeB n r
theorem takeB_eq : ∀ (n : Nat) (l : List Blk), takeB n l = l.take n
  | 0, l => by simp [takeB]
  | n + 1, [] => by simp [takeB]
  | n + 1, c :: r => by simp [takeB, takeB_eq n r]

/-- what lies in the blocks looks only at the first so many -/
def blksIn (k : Nat) : List Blk → Prop
  | [] => True
  | .rows _ _ _ l :: r => allB (allB (in1 k)) l = true ∧ blksIn k r
  | _ :: r => blksIn k r

theorem blksIn_at {k : Nat} : ∀ {h : List Blk} {b : Nat} {w : Bool} {sz : Nat} {d : List AV} {l : List (List AV)}, blksIn k h → h[b]? = some (.rows w sz d l) → allB (allB (in1 k)) l = true
  | [], b, _, _, _, _, _, hb => by simp at hb
  | c :: r, 0, _, _, _, _, h, hb => by
    simp at hb
    subst hb
    exact h.1
  | c :: r, b + 1, _, _, _, _, h, hb => by
    have : blksIn k r := by cases c <;> first | exact h | exact h.2
    exact blksIn_at this (by simpa using hb)

section
variable {P : Program} {G : Nat → TI} {base : Nat} {O0 : Nat → Prop} {μ : Nat → Nat} {hp : List Blk} {w w' : World}

theorem wr_take {k b : Nat} (h : wrB (hp.take k) b = true) : wrB hp b = true := by
  unfold wrB at *
  rw [List.getElem?_take] at h
  split at h
  · exact h
  · simp [Blk.wr] at h
theorem dim_take {k b : Nat} {n : Nat × Nat} (h : dimB (hp.take k) b = some n) : dimB hp b = some n := by
  unfold dimB at *
  rw [List.getElem?_take] at h
  split at h
  · exact h
  · simp [Blk.dim] at h
theorem ok_take {k n : Nat} (h : okO base O0 μ hp w n) : okO base O0 μ (hp.take k) w n := by
  rcases h with h | ⟨h1, h2, h3⟩
  · exact .inl h
  · exact .inr ⟨h1, h2, fun b hb => h3 b (wr_take hb)⟩

theorem leaf_take {k : Nat} {c : AV} {v : Value} (h : LeafR (mkX base O0 μ hp w) c v) (hi : in1 k c = true) : LeafR (mkX base O0 μ (hp.take k) w) c v := by
  unfold LeafR at *
  split at h
  · obtain ⟨hb, h0, h1, A, cap, rfl, hle, hA, hd⟩ := h
    have hbk := Nat.le_of_ble_eq_true hi
    refine ⟨by simp [mkX] at hb ⊢; omega, h0, h1, A, cap, rfl, hle, hA, fun n s hn => hd n s (dim_take hn)⟩
  · obtain ⟨hb, h0, rfl, hd⟩ := h
    have hbk := Nat.le_of_ble_eq_true hi
    exact ⟨by simp [mkX] at hb ⊢; omega, h0, rfl, fun n s hn => hd n s (dim_take hn)⟩
  · exact RoV.mono (fun n hn => ok_take hn) (fun _ _ _ h => h) h

theorem agg_take {k : Nat} {c : AV} {v : Value} (h : AggR (mkX base O0 μ hp w) c v) (hi : in2 k c = true) : AggR (mkX base O0 μ (hp.take k) w) c v := by
  unfold AggR at *
  split at h
  · simp only [in2, allB_eq, List.all_eq_true] at hi
    obtain ⟨ys, rfl, hl, h⟩ := h
    exact ⟨ys, rfl, hl, fun j c hj => leaf_take (h j c hj) (hi c (List.mem_of_getElem? hj))⟩
  · simp only [in2, allB_eq, List.all_eq_true] at hi
    obtain ⟨ys, rfl, hl, h⟩ := h
    exact ⟨ys, rfl, hl, fun j c hj => leaf_take (h j c hj) (hi c (List.mem_of_getElem? hj))⟩
  · rename_i h1 h2
    exact leaf_take h (by unfold in2 at hi; split at hi <;> first | exact hi | (exfalso; first | exact h1 _ rfl | exact h2 _ _ rfl))

theorem rel_take {k : Nat} {c : AV} {v : Value} (h : RelV (mkX base O0 μ hp w) c v) (hi : in3 k c = true) : RelV (mkX base O0 μ (hp.take k) w) c v := by
  unfold RelV at *
  split at h
  · simp only [in3, allB_eq, List.all_eq_true] at hi
    obtain ⟨ys, rfl, hl, h⟩ := h
    exact ⟨ys, rfl, hl, fun j c hj => agg_take (h j c hj) (hi c (List.mem_of_getElem? hj))⟩
  · rename_i h1
    exact agg_take h (by unfold in3 at hi; split at hi <;> first | exact hi | (exfalso; exact h1 _ rfl))

theorem HR.take {k : Nat} (H : HR base O0 μ hp w) (hb : blksIn k (hp.take k)) : HR base O0 μ (hp.take k) w := by
  refine ⟨H.all, fun b x hx => ?_, fun b hd => ?_, fun b b' h1 h2 h3 => ?_⟩
  · have hx' : hp[b]? = some x := by
      rw [List.getElem?_take] at hx
      split at hx
      · exact hx
      · cases hx
    have := H.blk b x hx'
    cases x with
    | dead => trivial
    | ints wr kk l => exact this
    | rows wr sz d l =>
      obtain ⟨h1, c, e, h2, h3⟩ := this
      have hin := blksIn_at hb hx
      rw [allB_eq, List.all_eq_true] at hin
      refine ⟨h1, c, e, h2, fun i r hi => ⟨(h3 i r hi).1, fun j a hj => ?_⟩⟩
      obtain ⟨y, h4, h5⟩ := (h3 i r hi).2 j a hj
      have hr := hin r (List.mem_of_getElem? hi)
      rw [allB_eq, List.all_eq_true] at hr
      exact ⟨y, h4, leaf_take h5 (hr a (List.mem_of_getElem? hj))⟩
  · cases hn : dimB (hp.take k) b with
    | none => exact absurd hn hd
    | some n => exact H.low b (by rw [dim_take hn]; simp)
  · cases hn : dimB (hp.take k) b' with
    | none => exact absurd hn h2
    | some n => exact H.inj b b' (wr_take h1) (by rw [dim_take hn]; simp) h3

/-- A round's end is told as the next round's start. -/
def StLeW (s s' : St) : Prop := s'.h = takeB (lenB s'.h) s.h ∧ blksIn (lenB s'.h) s'.h ∧ ∀ u, AVle (lookT s.t u) (lookT s'.t u) ∧ in3 (lenB s'.h) (lookT s'.t u) = true

theorem SR.leW {I : X} {nt : Nat} {s s' : St} {a : Act} (R : SR base O0 I nt s μ a w) (h : StLeW s s') (hI : I.h.length ≤ s'.h.length) : SR base O0 I nt s' μ a w := by
  obtain ⟨h1, h2, h3⟩ := h
  rw [lenB_eq] at *
  rw [takeB_eq] at h1
  obtain ⟨t', h'⟩ := s'
  dsimp only at *
  generalize hk : h'.length = k at h1 h2 h3 hI
  subst h1
  refine ⟨R.size, R.defers, R.hr.take h2, fun u => rel_take ((h3 u).1 _ _ (R.tmps u)) (h3 u).2, ?_, R.below⟩
  have e := R.ext
  exact ⟨fun n hn => ok_take (e.o n hn), e.mu, (by show I.h.length ≤ (List.take k s.h).length; rw [hk]; exact hI), fun b hb n hn => e.dim b hb n (dim_take hn), e.cell, e.shape⟩

def leW (k : Nat) (t : List (Nat × AV)) : List (Nat × AV) → Prop
  | [] => True
  | (i, v) :: r => (sle2 (lookT t i) v ∧ in3 k v = true) ∧ leW k t r

theorem leW_spec {k : Nat} {t : List (Nat × AV)} : ∀ {t' : List (Nat × AV)}, leW k t t' → ∀ u, AVle (lookT t u) (lookT t' u) ∧ in3 k (lookT t' u) = true
  | [], _, u => ⟨AVle.un _, rfl⟩
  | (i, v) :: r, h, u => by
    simp only [lookT]
    cases hb : Nat.beq i u with
    | true =>
      have := Nat.eq_of_beq_eq_true hb
      subst this
      exact ⟨fun x val hv => rel_le h.1.1 hv, h.1.2⟩
    | false => exact leW_spec h.2 u

theorem stLeW {t t' : List (Nat × AV)} {h h' : List Blk} (e : h' = takeB (lenB h') h) (b : blksIn (lenB h') h') (l : leW (lenB h') t t') : StLeW ⟨t, h⟩ ⟨t', h'⟩ := ⟨e, b, leW_spec l⟩

theorem loopW_real {ι : Type} (hG : GOK P G) (hm : P.follows .mixedOrders = true) {nt : Nat} {lp : Code → St → (Ex → St → Prop) → Prop} (hlp : ∀ b s K, codeOK nt b = true → lp b s K → lpR P nt b s K) {b : Code} (hc : codeOK nt b = true)
    {s : St} {K : Ex → St → Prop} (S : ι → St) (m : ι → Nat) (ok : ι → Prop) (hlen : ∀ i, lenB (S i).h = lenB s.h) (h0 : ∃ i, ok i ∧ StLe s (S i))
    (hr : ∀ i, ok i → ev (realE P) G lp b (S i) (fun e s => match e with
      | .normal => ∃ j, m j < m i ∧ ok j ∧ StLeW s (S j)
      | .exit x => K (.exit x) s
      | .goto x => K (.goto x) s
      | .ret => K .ret s)) : lpR P nt (.loop b) s K := by
  intro base O0 I μ a w R
  have hI : ∀ i, I.h.length ≤ (S i).h.length := by
    intro i
    have h1 := R.ext.len
    have h2 := hlen i
    rw [lenB_eq, lenB_eq] at h2
    simp only [mkX] at h1
    omega
  obtain ⟨i0, ho0, hl0⟩ := h0
  refine wp_loop_ghost (fun n a w => ∃ i μ, m i = n ∧ ok i ∧ SR base O0 I nt (S i) μ a w) (m i0) ⟨i0, μ, rfl, ho0, R.le hl0⟩ ?_
  rintro n a w ⟨i, μ, rfl, ho, R⟩
  refine wp_mono (ev_sound hG hm hlp b _ (S i) μ a w hc R (hr i ho)) ?_
  intro e a w hq
  cases e with
  | normal =>
    obtain ⟨s', μ', R', j, h1, h2, h3⟩ := hq
    exact ⟨m j, h1, j, μ', rfl, h2, R'.leW h3 (hI j)⟩
  | exit i => exact hq
  | goto i => exact hq
  | ret => exact hq
  | panic ch => exact hq.elim
  | outgrown => exact hq.elim

/-- A LOOP, of which each round's memory is let go behind it. -/
theorem E_loopW {ι : Type} {E : Env} (hE : E = realE P) (hG : GOK P G) (hm : P.follows .mixedOrders = true) {n : Nat} {lp : Code → St → (Ex → St → Prop) → Prop} (hlp : Loops P n lp) {b : Code} {s : St} {K : Ex → St → Prop}
    (S : ι → St) (m : ι → Nat) (ok : ι → Prop) (hlen : ∀ i, lenB (S i).h = lenB s.h) (h0 : ∃ i, ok i ∧ StLe s (S i))
    (hr : ∀ i, ok i → ev E G lp b (S i) (fun e s => match e with
      | .normal => ∃ j, m j < m i ∧ ok j ∧ StLeW s (S j)
      | .exit x => K (.exit x) s
      | .goto x => K (.goto x) s
      | .ret => K .ret s)) : lp (.loop b) s K := by
  subst hE
  subst hlp
  intro hc
  exact loopW_real hG hm (lp := fun b s K => codeOK n b = true → lpR P n b s K) (fun b s K hc h => h hc) (b := b) (show codeOK n b = true from hc) S m ok hlen h0 hr

theorem u2_ptr {b sz : Nat} {row : SI} {col : Nat} : sle2 (.ptr b sz row col) (.ptr b sz row col) := rfl
theorem u2_ms {b sz : Nat} {row len : SI} : sle2 (.ms b sz row len) (.ms b sz row len) := rfl
theorem u2_slc' {sz : Nat} {n : SI} {f : Nat → List AV} : sle2 (.slc sz n f) (.slc sz n f) := ⟨rfl, rfl, fun i _ => by
  generalize f i = l
  induction l with
  | nil => trivial
  | cons x r ih => exact ⟨by unfold sle0; split <;> simp_all, ih⟩⟩
theorem u2_str {s : ByteArray} : sle2 (.str s) (.str s) := rfl
theorem t_nil {t : List (Nat × AV)} : leT t [] := trivial
theorem t_cons {t : List (Nat × AV)} {i : Nat} {v : AV} {r : List (Nat × AV)} (h : sle2 (lookT t i) v) (k : leT t r) : leT t ((i, v) :: r) := ⟨h, k⟩
theorem w_nil {k : Nat} {t : List (Nat × AV)} : leW k t [] := trivial
theorem w_cons {k : Nat} {t : List (Nat × AV)} {i : Nat} {v : AV} {r : List (Nat × AV)} (h : sle2 (lookT t i) v) (h' : in3 k v = true) (q : leW k t r) : leW k t ((i, v) :: r) := ⟨⟨h, h'⟩, q⟩
end
end Go.Proofs.Ytincnfjihffllaa.Ev

/- Loops whose rounds hand on memory that they have made: it is named anew behind each. -/
namespace Go.Proofs.Ytincnfjihffllaa.Ev
open Go Go.RowKit
set_option linter.unusedVariables false
set_option linter.unusedSimpArgs false

/-- a block's former name -/
def nth0 : List Nat → Nat → Nat
  | [], n => n
  | r :: _, 0 => r
  | _ :: rs, n + 1 => nth0 rs n
def lenN : List Nat → Nat
  | [] => 0
  | _ :: r => lenN r + 1
def rn1 (ρ : List Nat) : AV → AV
  | .ms b sz row len => .ms (nth0 ρ b) sz row len
  | .ptr b sz row col => .ptr (nth0 ρ b) sz row col
  | c => c
def mapB {α β : Type} (f : α → β) : List α → List β
  | [] => []
  | x :: r => f x :: mapB f r
def rn2 (ρ : List Nat) : AV → AV
  | .agg cs => .agg (mapB (rn1 ρ) cs)
  | .fn f cs => .fn f (mapB (rn1 ρ) cs)
  | c => rn1 ρ c
def rn3 (ρ : List Nat) : AV → AV
  | .tup cs => .tup (mapB (rn2 ρ) cs)
  | c => rn2 ρ c
def rnB (ρ : List Nat) : Blk → Blk
  | .rows w sz d l => .rows w sz d (mapB (mapB (rn1 ρ)) l)
  | b => b
/-- each block that is not let go was there, under its former name -/
def blksM (ρ : List Nat) (h : List Blk) : List Nat → List Blk → Prop
  | _ :: rs, .dead :: bs => blksM ρ h rs bs
  | r :: rs, b :: bs => getBlk h r = rnB ρ b ∧ blksM ρ h rs bs
  | [], [] => True
  | _, _ => False
def memN (n : Nat) : List Nat → Bool
  | [] => false
  | x :: r => bif Nat.beq n x then true else memN n r
/-- the former names of those that are not let go are apart -/
def apartN : List Nat → List Blk → List Nat → Bool
  | _ :: rs, .dead :: bs, seen => apartN rs bs seen
  | r :: rs, _ :: bs, seen => bif memN r seen then false else apartN rs bs (r :: seen)
  | _, _, _ => true
/-- the first ones keep their names -/
def idPre (ρ : List Nat) : Nat → Bool
  | 0 => true
  | n + 1 => bif Nat.beq (nth0 ρ n) n then idPre ρ n else false

theorem mapB_eq {α β : Type} (f : α → β) (l : List α) : mapB f l = l.map f := by induction l <;> simp_all [mapB]
theorem lenN_eq (l : List Nat) : lenN l = l.length := by induction l <;> simp_all [lenN]
theorem idPre_at {ρ : List Nat} : ∀ {n : Nat}, idPre ρ n = true → ∀ b, b < n → nth0 ρ b = b
  | 0, _, b, hb => by omega
  | n + 1, h, b, hb => by
    simp only [idPre] at h
    cases e : Nat.beq (nth0 ρ n) n with
    | false => rw [e] at h; cases h
    | true =>
      rw [e, cond_true] at h
      rcases Nat.lt_or_ge b n with h1 | h1
      · exact idPre_at h b h1
      · have : b = n := by omega
        subst this
        exact Nat.eq_of_beq_eq_true e

theorem memN_iff {n : Nat} : ∀ {l : List Nat}, memN n l = true ↔ n ∈ l
  | [] => by simp [memN]
  | x :: r => by
    simp only [memN]
    cases e : Nat.beq n x with
    | true => simp [Nat.eq_of_beq_eq_true e]
    | false =>
      have : n ≠ x := fun h => by rw [h, Nat.beq_refl] at e; cases e
      simp [memN_iff, this]

/-- block b of the new names: what it was -/
theorem blksM_at {ρ : List Nat} {h : List Blk} : ∀ {rs : List Nat} {bs : List Blk} {b : Nat} {x : Blk}, blksM ρ h rs bs → bs[b]? = some x → x ≠ .dead → getBlk h (nth0 rs b) = rnB ρ x
  | [], bs, b, x, hM, hb, _ => by
    cases bs with
    | nil => simp at hb
    | cons => exact hM.elim
  | r :: rs, [], b, x, hM, hb, _ => by simp at hb
  | r :: rs, y :: bs, 0, x, hM, hb, hx => by
    simp at hb
    subst hb
    cases y with
    | dead => exact absurd rfl hx
    | ints => exact hM.1
    | rows => exact hM.1
  | r :: rs, y :: bs, b + 1, x, hM, hb, hx => by
    have hM' : blksM ρ h rs bs := by cases y with
      | dead => exact hM
      | ints => exact hM.2
      | rows => exact hM.2
    exact blksM_at (rs := rs) (bs := bs) (b := b) hM' (by simpa using hb) hx

theorem blksM_len {ρ : List Nat} {h : List Blk} : ∀ {rs : List Nat} {bs : List Blk}, blksM ρ h rs bs → rs.length = bs.length
  | [], [], _ => rfl
  | [], _ :: _, hM => by exact hM.elim
  | _ :: _, [], hM => by exact hM.elim
  | r :: rs, y :: bs, hM => by
    have hM' : blksM ρ h rs bs := by cases y with
      | dead => exact hM
      | ints => exact hM.2
      | rows => exact hM.2
    simp [blksM_len hM']

theorem apartN_at : ∀ {rs : List Nat} {bs : List Blk} {seen : List Nat}, apartN rs bs seen = true → rs.length = bs.length →
    (∀ b x, bs[b]? = some x → x ≠ .dead → nth0 rs b ∉ seen) ∧ (∀ b b' x x', bs[b]? = some x → x ≠ .dead → bs[b']? = some x' → x' ≠ .dead → nth0 rs b = nth0 rs b' → b = b')
  | [], [], _, _, _ => ⟨fun b x hb => by simp at hb, fun b b' x x' hb => by simp at hb⟩
  | [], _ :: _, _, _, hl => by simp at hl
  | _ :: _, [], _, _, hl => by simp at hl
  | r :: rs, y :: bs, seen, h, hl => by
    have hl' : rs.length = bs.length := by simpa using hl
    by_cases hy : y = .dead
    · subst hy
      obtain ⟨h1, h2⟩ := apartN_at (show apartN rs bs seen = true from h) hl'
      refine ⟨fun b x hb hx => ?_, fun b b' x x' hb hx hb' hx' e => ?_⟩
      · cases b with
        | zero => simp at hb; exact absurd hb.symm hx
        | succ b => exact h1 b x (by simpa using hb) hx
      · cases b with
        | zero => simp at hb; exact absurd hb.symm hx
        | succ b =>
          cases b' with
          | zero => simp at hb'; exact absurd hb'.symm hx'
          | succ b' => rw [h2 b b' x x' (by simpa using hb) hx (by simpa using hb') hx' e]
    · have h' : (bif memN r seen then false else apartN rs bs (r :: seen)) = true := by
        cases y with
        | dead => exact absurd rfl hy
        | ints => exact h
        | rows => exact h
      cases hm : memN r seen with
      | true => rw [hm] at h'; cases h'
      | false =>
        rw [hm, cond_false] at h'
        have hr : r ∉ seen := fun hc => by rw [memN_iff.2 hc] at hm; cases hm
        obtain ⟨h1, h2⟩ := apartN_at h' hl'
        refine ⟨fun b x hb hx => ?_, fun b b' x x' hb hx hb' hx' e => ?_⟩
        · cases b with
          | zero => exact hr
          | succ b => exact fun hc => h1 b x (by simpa using hb) hx (List.mem_cons_of_mem _ hc)
        · cases b with
          | zero =>
            cases b' with
            | zero => rfl
            | succ b' => exact absurd (show nth0 rs b' ∈ r :: seen by rw [← show r = nth0 rs b' from e]; exact List.mem_cons_self ..) (h1 b' x' (by simpa using hb') hx')
          | succ b =>
            cases b' with
            | zero => exact absurd (show nth0 rs b ∈ r :: seen by rw [show nth0 rs b = r from e]; exact List.mem_cons_self ..) (h1 b x (by simpa using hb) hx)
            | succ b' => rw [h2 b b' x x' (by simpa using hb) hx (by simpa using hb') hx' e]

section
variable {P : Program} {G : Nat → TI} {base : Nat} {O0 : Nat → Prop} {μ : Nat → Nat} {hp hq : List Blk} {w w' : World}

/-- memory and its new names -/
structure Named (ρ : List Nat) (hp hq : List Blk) : Prop where
  len : ρ.length = hq.length
  blk : ∀ b x, hq[b]? = some x → x ≠ .dead → hp[nth0 ρ b]? = some (rnB ρ x)
  apart : ∀ b b' x x', hq[b]? = some x → x ≠ .dead → hq[b']? = some x' → x' ≠ .dead → nth0 ρ b = nth0 ρ b' → b = b'
  inl : blksIn (lenB hq) hq

theorem rnB_dead {ρ : List Nat} {x : Blk} (h : x ≠ .dead) : rnB ρ x ≠ .dead := by cases x <;> simp_all [rnB]
theorem rnB_dim {ρ : List Nat} {x : Blk} : (rnB ρ x).dim = x.dim := by cases x <;> simp [rnB, Blk.dim, mapB_eq]
theorem rnB_wr {ρ : List Nat} {x : Blk} : (rnB ρ x).wr = x.wr := by cases x <;> rfl
theorem not_dead_of_dim {x : Blk} {n : Nat × Nat} (h : x.dim = some n) : x ≠ .dead := by rintro rfl; simp [Blk.dim] at h
theorem not_dead_of_wr {x : Blk} (h : x.wr = true) : x ≠ .dead := by rintro rfl; simp [Blk.wr] at h

theorem Named.dim {ρ : List Nat} (N : Named ρ hp hq) {b : Nat} {n : Nat × Nat} (h : dimB hq b = some n) : dimB hp (nth0 ρ b) = some n := by
  unfold dimB at h ⊢
  cases hb : hq[b]? with
  | none => rw [hb] at h; simp [Blk.dim] at h
  | some x =>
    rw [hb] at h
    have hx : x ≠ .dead := not_dead_of_dim h
    rw [N.blk b x hb hx]
    simp only [Option.getD_some] at h ⊢
    rw [rnB_dim]
    exact h
theorem Named.wr {ρ : List Nat} (N : Named ρ hp hq) {b : Nat} (h : wrB hq b = true) : wrB hp (nth0 ρ b) = true := by
  unfold wrB at h ⊢
  cases hb : hq[b]? with
  | none => rw [hb] at h; simp [Blk.wr] at h
  | some x =>
    rw [hb] at h
    have hx : x ≠ .dead := not_dead_of_wr h
    rw [N.blk b x hb hx]
    simp only [Option.getD_some] at h ⊢
    rw [rnB_wr]
    exact h
theorem some_of_dim {b : Nat} (h : dimB hq b ≠ none) : ∃ x, hq[b]? = some x ∧ x ≠ .dead := by
  unfold dimB at h
  cases hb : hq[b]? with
  | none => rw [hb] at h; simp [Blk.dim] at h
  | some x => exact ⟨x, rfl, by rintro rfl; rw [hb] at h; simp [Blk.dim] at h⟩
theorem some_of_wr {b : Nat} (h : wrB hq b = true) : ∃ x, hq[b]? = some x ∧ x ≠ .dead := by
  unfold wrB at h
  cases hb : hq[b]? with
  | none => rw [hb] at h; simp [Blk.wr] at h
  | some x => exact ⟨x, rfl, by rintro rfl; rw [hb] at h; simp [Blk.wr] at h⟩

theorem Named.ok {ρ : List Nat} (N : Named ρ hp hq) {n : Nat} (h : okO base O0 μ hp w n) : okO base O0 (fun b => μ (nth0 ρ b)) hq w n := by
  rcases h with h | ⟨h1, h2, h3⟩
  · exact .inl h
  · exact .inr ⟨h1, h2, fun b hb => h3 _ (N.wr hb)⟩

theorem leaf_named {ρ : List Nat} (N : Named ρ hp hq) {c : AV} {v : Value} (h : LeafR (mkX base O0 μ hp w) (rn1 ρ c) v) (hi : in1 (lenB hq) c = true) : LeafR (mkX base O0 (fun b => μ (nth0 ρ b)) hq w) c v := by
  rw [lenB_eq] at hi
  cases c with
  | ms b sz row len =>
    obtain ⟨hb, h0, h1, A, cap, rfl, hle, hA, hd⟩ := (show LeafR _ (.ms (nth0 ρ b) sz row len) v from h)
    exact ⟨Nat.le_of_ble_eq_true hi, h0, h1, A, cap, rfl, hle, hA, fun n s hn => hd n s (N.dim hn)⟩
  | ptr b sz row col =>
    obtain ⟨hb, h0, rfl, hd⟩ := (show LeafR _ (.ptr (nth0 ρ b) sz row col) v from h)
    exact ⟨Nat.le_of_ble_eq_true hi, h0, rfl, fun n s hn => hd n s (N.dim hn)⟩
  | _ => exact RoV.mono (fun n hn => N.ok hn) (fun _ _ _ h => h) (show RoV _ _ _ v from h)

theorem agg_named {ρ : List Nat} (N : Named ρ hp hq) {c : AV} {v : Value} (h : AggR (mkX base O0 μ hp w) (rn2 ρ c) v) (hi : in2 (lenB hq) c = true) : AggR (mkX base O0 (fun b => μ (nth0 ρ b)) hq w) c v := by
  have list : ∀ {cs : List AV} {ys : Array Value}, allB (in1 (lenB hq)) cs = true → (mapB (rn1 ρ) cs).length = ys.size → (∀ (j : Nat) (c : AV), (mapB (rn1 ρ) cs)[j]? = some c → LeafR (mkX base O0 μ hp w) c (ys.getD j undef)) →
      cs.length = ys.size ∧ ∀ (j : Nat) (c : AV), cs[j]? = some c → LeafR (mkX base O0 (fun b => μ (nth0 ρ b)) hq w) c (ys.getD j undef) := by
    intro cs ys hi hl h
    rw [allB_eq, List.all_eq_true] at hi
    rw [mapB_eq] at hl h
    refine ⟨by simpa using hl, fun j c hj => leaf_named N (h j _ (by rw [List.getElem?_map, hj]; rfl)) (hi c (List.mem_of_getElem? hj))⟩
  cases c with
  | agg cs =>
    obtain ⟨ys, rfl, hl, h⟩ := h
    obtain ⟨h1, h2⟩ := list hi hl h
    exact ⟨ys, rfl, h1, h2⟩
  | fn f cs =>
    obtain ⟨ys, rfl, hl, h⟩ := h
    obtain ⟨h1, h2⟩ := list hi hl h
    exact ⟨ys, rfl, h1, h2⟩
  | un => exact leaf_named (c := .un) N h hi
  | lit x => exact leaf_named (c := .lit x) N h hi
  | int k n => exact leaf_named (c := .int k n) N h hi
  | bool b => exact leaf_named (c := .bool b) N h hi
  | str s => exact leaf_named (c := .str s) N h hi
  | tup cs => exact leaf_named (c := .tup cs) N h hi
  | sli k l => exact leaf_named (c := .sli k l) N h hi
  | slc sz n f => exact leaf_named (c := .slc sz n f) N h hi
  | s0 => exact leaf_named (c := .s0) N h hi
  | ms b sz row len => exact leaf_named (c := .ms b sz row len) N h hi
  | ptr b sz row col => exact leaf_named (c := .ptr b sz row col) N h hi
  | rp cs => exact leaf_named (c := .rp cs) N h hi

theorem rel_named {ρ : List Nat} (N : Named ρ hp hq) {c : AV} {v : Value} (h : RelV (mkX base O0 μ hp w) (rn3 ρ c) v) (hi : in3 (lenB hq) c = true) : RelV (mkX base O0 (fun b => μ (nth0 ρ b)) hq w) c v := by
  cases c with
  | tup cs =>
    obtain ⟨ys, rfl, hl, h⟩ := h
    simp only [in3, allB_eq, List.all_eq_true] at hi
    rw [mapB_eq] at hl h
    exact ⟨ys, rfl, by simpa using hl, fun j c hj => agg_named N (h j _ (by rw [List.getElem?_map, hj]; rfl)) (hi c (List.mem_of_getElem? hj))⟩
  | un => exact agg_named (c := .un) N h hi
  | lit x => exact agg_named (c := .lit x) N h hi
  | int k n => exact agg_named (c := .int k n) N h hi
  | bool b => exact agg_named (c := .bool b) N h hi
  | str s => exact agg_named (c := .str s) N h hi
  | agg cs => exact agg_named (c := .agg cs) N h hi
  | fn f cs => exact agg_named (c := .fn f cs) N h hi
  | sli k l => exact agg_named (c := .sli k l) N h hi
  | slc sz n f => exact agg_named (c := .slc sz n f) N h hi
  | s0 => exact agg_named (c := .s0) N h hi
  | ms b sz row len => exact agg_named (c := .ms b sz row len) N h hi
  | ptr b sz row col => exact agg_named (c := .ptr b sz row col) N h hi
  | rp cs => exact agg_named (c := .rp cs) N h hi

theorem HR.named {ρ : List Nat} (H : HR base O0 μ hp w) (N : Named ρ hp hq) : HR base O0 (fun b => μ (nth0 ρ b)) hq w := by
  refine ⟨H.all, fun b x hx => ?_, fun b hd => ?_, fun b b' h1 h2 h3 => ?_⟩
  · by_cases hne : x = .dead
    · subst hne; trivial
    · have := H.blk _ _ (N.blk b x hx hne)
      cases x with
      | dead => trivial
      | ints wr kk l => exact this
      | rows wr sz d l =>
        obtain ⟨h1, c, e, h2, h3⟩ := this
        have hin := blksIn_at N.inl hx
        rw [allB_eq, List.all_eq_true] at hin
        refine ⟨h1, c, e, h2, fun i r hi => ?_⟩
        have h4 := h3 i (mapB (rn1 ρ) r) (by rw [mapB_eq, List.getElem?_map, hi]; rfl)
        refine ⟨by simpa [mapB_eq] using h4.1, fun j a hj => ?_⟩
        obtain ⟨y, h5, h6⟩ := h4.2 j (rn1 ρ a) (by rw [mapB_eq, List.getElem?_map, hj]; rfl)
        have hr := hin r (List.mem_of_getElem? hi)
        rw [allB_eq, List.all_eq_true] at hr
        exact ⟨y, h5, leaf_named N h6 (hr a (List.mem_of_getElem? hj))⟩
  · cases hn : dimB hq b with
    | none => exact absurd hn hd
    | some n => exact H.low _ (by rw [N.dim hn]; simp)
  · obtain ⟨x, q1, q2⟩ := some_of_wr h1
    obtain ⟨x', q3, q4⟩ := some_of_dim h2
    cases hn : dimB hq b' with
    | none => exact absurd hn h2
    | some n => exact N.apart b b' x x' q1 q2 q3 q4 (H.inj _ _ (N.wr h1) (by rw [N.dim hn]; simp) h3)

/-- A round's end is told as the next round's start, under new names; the first n0 blocks keep theirs. -/
def StLeM (n0 : Nat) (ρ : List Nat) (s s' : St) : Prop :=
  blksM ρ s.h ρ s'.h ∧ apartN ρ s'.h [] = true ∧ idPre ρ n0 = true ∧ n0 ≤ lenB s'.h ∧ blksIn (lenB s'.h) s'.h ∧
    ∀ u, AVle (lookT s.t u) (rn3 ρ (lookT s'.t u)) ∧ in3 (lenB s'.h) (lookT s'.t u) = true

theorem SR.leM {I : X} {nt : Nat} {s s' : St} {a : Act} {n0 : Nat} {ρ : List Nat} (R : SR base O0 I nt s μ a w) (h : StLeM n0 ρ s s') (hI : I.h.length ≤ n0) : ∃ μ', SR base O0 I nt s' μ' a w := by
  obtain ⟨h1, h2, h3, h4, h5, h6⟩ := h
  have hl := blksM_len h1
  have N : Named ρ s.h s'.h := by
    refine ⟨hl, fun b x hb hx => ?_, (apartN_at h2 hl).2, h5⟩
    have := blksM_at h1 hb hx
    exact getBlk_some this (rnB_dead hx)
  refine ⟨fun b => μ (nth0 ρ b), R.size, R.defers, R.hr.named N, fun u => rel_named N ((h6 u).1 _ _ (R.tmps u)) (h6 u).2, ?_, R.below⟩
  have e := R.ext
  rw [lenB_eq] at h4
  refine ⟨fun n hn => N.ok (e.o n hn), fun b hb => ?_, by simp only [mkX]; omega, fun b hb n hn => ?_, e.cell, e.shape⟩
  · have := idPre_at h3 b (by omega)
    show μ (nth0 ρ b) = _
    rw [this]
    exact e.mu b hb
  · have := idPre_at h3 b (by omega)
    have hd := N.dim hn
    rw [this] at hd
    exact e.dim b hb n hd

def leM (ρ : List Nat) (k : Nat) (t : List (Nat × AV)) : List (Nat × AV) → Prop
  | [] => True
  | (i, v) :: r => (AVle (lookT t i) (rn3 ρ v) ∧ in3 k v = true) ∧ leM ρ k t r

theorem leM_spec {ρ : List Nat} {k : Nat} {t : List (Nat × AV)} : ∀ {t' : List (Nat × AV)}, leM ρ k t t' → ∀ u, AVle (lookT t u) (rn3 ρ (lookT t' u)) ∧ in3 k (lookT t' u) = true
  | [], _, u => ⟨AVle.un _, rfl⟩
  | (i, v) :: r, h, u => by
    simp only [lookT]
    cases hb : Nat.beq i u with
    | true =>
      have := Nat.eq_of_beq_eq_true hb
      subst this
      exact ⟨h.1.1, h.1.2⟩
    | false => exact leM_spec h.2 u

theorem stLeM {n0 : Nat} {ρ : List Nat} {t t' : List (Nat × AV)} {h h' : List Blk} (e : blksM ρ h ρ h') (a : apartN ρ h' [] = true) (i : idPre ρ n0 = true) (k : Nat.ble n0 (lenB h') = true) (b : blksIn (lenB h') h') (l : leM ρ (lenB h') t t') :
    StLeM n0 ρ ⟨t, h⟩ ⟨t', h'⟩ := ⟨e, a, i, Nat.le_of_ble_eq_true k, b, leM_spec l⟩

theorem loopM_real {ι : Type} (hG : GOK P G) (hm : P.follows .mixedOrders = true) {nt : Nat} {lp : Code → St → (Ex → St → Prop) → Prop} (hlp : ∀ b s K, codeOK nt b = true → lp b s K → lpR P nt b s K) {b : Code} (hc : codeOK nt b = true)
    {s : St} {K : Ex → St → Prop} (S : ι → St) (m : ι → Nat) (ok : ι → Prop) (h0 : ∃ i ρ, ok i ∧ StLeM (lenB s.h) ρ s (S i))
    (hr : ∀ i, ok i → ev (realE P) G lp b (S i) (fun e s2 => match e with
      | .normal => ∃ j ρ, m j < m i ∧ ok j ∧ StLeM (lenB s.h) ρ s2 (S j)
      | .exit x => K (.exit x) s2
      | .goto x => K (.goto x) s2
      | .ret => K .ret s2)) : lpR P nt (.loop b) s K := by
  intro base O0 I μ a w R
  have hI : I.h.length ≤ lenB s.h := by
    have h1 := R.ext.len
    rw [lenB_eq]
    simpa only [mkX] using h1
  obtain ⟨i0, ρ0, ho0, hl0⟩ := h0
  obtain ⟨μ0, R0⟩ := R.leM hl0 hI
  refine wp_loop_ghost (fun n a w => ∃ i μ, m i = n ∧ ok i ∧ SR base O0 I nt (S i) μ a w) (m i0) ⟨i0, μ0, rfl, ho0, R0⟩ ?_
  rintro n a w ⟨i, μ, rfl, ho, R⟩
  refine wp_mono (ev_sound hG hm hlp b _ (S i) μ a w hc R (hr i ho)) ?_
  intro e a w hq
  cases e with
  | normal =>
    obtain ⟨s', μ', R', j, ρ, h1, h2, h3⟩ := hq
    obtain ⟨μ2, R2⟩ := R'.leM h3 hI
    exact ⟨m j, h1, j, μ2, rfl, h2, R2⟩
  | exit i => exact hq
  | goto i => exact hq
  | ret => exact hq
  | panic ch => exact hq.elim
  | outgrown => exact hq.elim

/-- A LOOP, whose rounds hand on memory that they have made. -/
theorem E_loopM {ι : Type} {E : Env} (hE : E = realE P) (hG : GOK P G) (hm : P.follows .mixedOrders = true) {n : Nat} {lp : Code → St → (Ex → St → Prop) → Prop} (hlp : Loops P n lp) {b : Code} {s : St} {K : Ex → St → Prop}
    (S : ι → St) (m : ι → Nat) (ok : ι → Prop) (h0 : ∃ i ρ, ok i ∧ StLeM (lenB s.h) ρ s (S i))
    (hr : ∀ i, ok i → ev E G lp b (S i) (fun e s2 => match e with
      | .normal => ∃ j ρ, m j < m i ∧ ok j ∧ StLeM (lenB s.h) ρ s2 (S j)
      | .exit x => K (.exit x) s2
      | .goto x => K (.goto x) s2
      | .ret => K .ret s2)) : lp (.loop b) s K := by
  subst hE
  subst hlp
  intro hc
  exact loopM_real hG hm (lp := fun b s K => codeOK n b = true → lpR P n b s K) (fun b s K hc h => h hc) (b := b) (show codeOK n b = true from hc) S m ok h0 hr

theorem m_nil {ρ : List Nat} {k : Nat} {t : List (Nat × AV)} : leM ρ k t [] := trivial
theorem m_cons {ρ : List Nat} {k : Nat} {t : List (Nat × AV)} {i : Nat} {v : AV} {r : List (Nat × AV)} (h : sle2 (lookT t i) (rn3 ρ v)) (h' : in3 k v = true) (q : leM ρ k t r) : leM ρ k t ((i, v) :: r) := ⟨⟨fun x val hv => rel_le h hv, h'⟩, q⟩
theorem m_consA {ρ : List Nat} {k : Nat} {t : List (Nat × AV)} {i : Nat} {v : AV} {r : List (Nat × AV)} (h : AVle (lookT t i) (rn3 ρ v)) (h' : in3 k v = true) (q : leM ρ k t r) : leM ρ k t ((i, v) :: r) := ⟨⟨h, h'⟩, q⟩
/-- a place, told by other numbers of the same worth -/
theorem ms_le {b sz : Nat} {row len row' len' : SI} (h1 : row.val = row'.val) (h2 : len.val = len'.val) : AVle (.ms b sz row len) (.ms b sz row' len') := by
  intro x v h
  have h := (show LeafR x (.ms b sz row len) v from h)
  show LeafR x (.ms b sz row' len') v
  unfold LeafR at h ⊢
  dsimp only at h ⊢
  rw [← h1, ← h2]
  exact h
end
end Go.Proofs.Ytincnfjihffllaa.Ev

/- The types' table of this seat. -/
namespace Go.Proofs.Ytincnfjihffllaa.Ev
open Go Go.Proofs
def tab : List (Nat × TI) :=
[(3, ⟨.int .i64, 1, 8, [.int .i64 (.l 0)], (some [some .i64])⟩),
   (4, ⟨.bool, 1, 1, [.bool (.l false)], (some [none])⟩),
   (5, ⟨.int .u8, 1, 1, [.int .u8 (.l 0)], (some [some .u8])⟩),
   (9, ⟨.str, 1, 16, [.str ⟨#[]⟩], none⟩),
   (22, ⟨.int .u64, 1, 8, [.int .u64 (.l 0)], (some [some .u64])⟩),
   (24, ⟨.struct [(0, 1, false), (1, 1, false), (2, 1, false), (3, 1, false)], 4, 32, [.int .i64 (.l 0), .bool (.l false), .int .u64 (.l 0), .int .i64 (.l 0)], (some [some .i64, none, some .u64, some .i64])⟩),
   (26, ⟨.one, 1, 8, [.lit .nilFunc], none⟩),
   (32, ⟨.slice 71, 1, 24, [.s0], none⟩),
   (34, ⟨.struct [(0, 1, false), (1, 1, false)], 2, 32, [.bool (.l false), .s0], none⟩),
   (36, ⟨.struct [(0, 2, true), (2, 1, false)], 3, 40, [.bool (.l false), .s0, .int .i64 (.l 0)], none⟩),
   (50, ⟨.struct [(0, 1, false), (1, 4, true), (5, 4, true)], 9, 72, [.bool (.l false), .int .i64 (.l 0), .bool (.l false), .int .u64 (.l 0), .int .i64 (.l 0), .int .i64 (.l 0), .bool (.l false), .int .u64 (.l 0), .int .i64 (.l 0)], (some [none, some .i64, none, some .u64, some .i64, some .i64, none, some .u64, some .i64])⟩),
   (56, ⟨.slice 50, 1, 24, [.s0], none⟩),
   (62, ⟨.slice 3, 1, 24, [.s0], none⟩),
   (71, ⟨.int .u32, 1, 4, [.int .u32 (.l 0)], (some [some .u32])⟩),
   (73, ⟨.int .u64, 1, 8, [.int .u64 (.l 0)], (some [some .u64])⟩),
   (78, ⟨.struct [(0, 2, true), (2, 1, false)], 3, 40, [.bool (.l false), .s0, .int .i64 (.l 0)], none⟩),
   (101, ⟨.int .i64, 1, 8, [.int .i64 (.l 0)], (some [some .i64])⟩),
   (111, ⟨.slice 24, 1, 24, [.s0], none⟩),
   (118, ⟨.struct [(0, 9, true), (9, 1, false)], 10, 80, [.bool (.l false), .int .i64 (.l 0), .bool (.l false), .int .u64 (.l 0), .int .i64 (.l 0), .int .i64 (.l 0), .bool (.l false), .int .u64 (.l 0), .int .i64 (.l 0), .bool (.l false)], (some [none, some .i64, none, some .u64, some .i64, some .i64, none, some .u64, some .i64, none])⟩),
   (122, ⟨.one, 1, 16, [.lit .nilIface], none⟩),
   (133, ⟨.slice 34, 1, 24, [.s0], none⟩),
   (148, ⟨.slice 5, 1, 24, [.s0], none⟩),
   (151, ⟨.struct [(0, 1, false), (1, 1, false)], 2, 32, [.lit (.pointer none), .s0], none⟩),
   (155, ⟨.struct [(0, 1, false), (1, 1, false), (2, 1, false)], 3, 24, [.int .u64 (.l 0), .int .u64 (.l 0), .bool (.l false)], (some [some .u64, some .u64, none])⟩)]
def G : Nat → TI := lookG tab
theorem hG : GOK Try.prog G := tabOK (by kernel_rfl) (by kernel_rfl)
theorem hm : Try.prog.follows .mixedOrders = true := by kernel_rfl
end Go.Proofs.Ytincnfjihffllaa.Ev

/- Numbers and intervals, and what the program's functions make of them: plain Lean. -/
namespace Go.Proofs.Ytincnfjihffllaa.Ev
open Go

structure Num where
  kind : Int
  neg : Bool
  m : Int
  e : Int
  deriving DecidableEq

structure Iv where
  empty : Bool
  lo : Num
  hi : Num
  deriving DecidableEq

theorem Num.eq_iff (a b : Num) : a = b ↔ a.kind = b.kind ∧ a.neg = b.neg ∧ a.m = b.m ∧ a.e = b.e := by
  cases a; cases b; simp
theorem Iv.eq_iff (a b : Iv) : a = b ↔ a.empty = b.empty ∧ a.lo = b.lo ∧ a.hi = b.hi := by
  cases a; cases b; simp

theorem Num.eta (n : Num) : (⟨n.kind, n.neg, n.m, n.e⟩ : Num) = n := rfl
theorem Iv.eta (x : Iv) : (⟨x.empty, x.lo, x.hi⟩ : Iv) = x := rfl

def Num.cells (n : Num) : List AV := [.int .i64 (.s n.kind), .bool (.s n.neg), .int .u64 (.s n.m), .int .i64 (.s n.e)]
def Num.av (n : Num) : AV := .agg [.int .i64 (.s n.kind), .bool (.s n.neg), .int .u64 (.s n.m), .int .i64 (.s n.e)]
def Iv.av (x : Iv) : AV := .agg [.bool (.s x.empty), .int .i64 (.s x.lo.kind), .bool (.s x.lo.neg), .int .u64 (.s x.lo.m), .int .i64 (.s x.lo.e),
  .int .i64 (.s x.hi.kind), .bool (.s x.hi.neg), .int .u64 (.s x.hi.m), .int .i64 (.s x.hi.e)]

def Num.zero : Num := ⟨0, false, 0, 0⟩
def Num.top : Int := 9223372036854775808
def Num.may (n : Num) : Bool :=
  if n.kind = 0 then decide (n = Num.zero) else if n.kind = 1 then decide (9223372036854775808 ≤ n.m) && decide (-1048576 ≤ n.e) && decide (n.e ≤ 1048576) else if n.kind = 2 then decide (n.m = 0) && decide (n.e = 0) else false
def Num.fair (n : Num) : Num := if n.may then n else Num.zero
def Num.inf (b : Bool) : Num := ⟨2, b, 0, 0⟩
def Num.huge (b : Bool) : Num := ⟨1, b, 18446744073709551615, 1048576⟩
def Num.tiny (b : Bool) : Num := ⟨1, b, Num.top, -1048576⟩
def Num.bound (neg : Bool) (m e : Int) (away : Bool) : Num :=
  if 1048576 < e then (if away then Num.inf neg else Num.huge neg) else if e < -1048576 then (if away then Num.tiny neg else Num.zero) else ⟨1, neg, m, e⟩
def Num.grow (neg : Bool) (m e : Int) (cut away : Bool) : Num :=
  if cut && away then (if IntKind.u64.wrap (m + 1) = 0 then Num.bound neg Num.top (IntKind.i64.wrap (e + 1)) away else Num.bound neg (IntKind.u64.wrap (m + 1)) e away) else Num.bound neg m e away
def Num.sign (n : Num) : Int := if n.fair.kind = 0 then 0 else if n.fair.neg then -1 else 1
def Num.farther (a b : Num) : Bool := if a.kind ≠ b.kind then decide (b.kind < a.kind) else if a.e ≠ b.e then decide (b.e < a.e) else decide (b.m < a.m)
def Num.cmp (a b : Num) : Int :=
  if a.fair.sign < b.fair.sign then -1 else if b.fair.sign < a.fair.sign then 1 else if a.fair.farther b.fair then a.fair.sign else if b.fair.farther a.fair then IntKind.i64.wrap (0 - a.fair.sign) else 0
def Num.opp (n : Num) : Num := ⟨n.fair.kind, decide (n.fair.kind ≠ 0) && !n.fair.neg, n.fair.m, n.fair.e⟩
end Go.Proofs.Ytincnfjihffllaa.Ev

/- Contracts: numbers. Printed by gen.py out of C1.spec. -/
namespace Go.Proofs.Ytincnfjihffllaa.Ev
open Go Go.Proofs
set_option linter.unusedVariables false
set_option linter.unusedSimpArgs false

theorem c_May (n : Num)  : ∃ t : Bool, t = n.may ∧ CallsA Try.prog 22 [n.av] (.bool (.s t)) := by
  refine ⟨_, rfl, ?_⟩
  generalize hr : n.may = r
  refine callsA_of hG hm Try.func22 (by kernel_rfl) ?_
  intro E hE lp hl
  cbv
  repeat' (first
    | (refine E_br hE (fun h => ?_) (fun h => ?_) <;> cbv)
    | (refine E_nm hE (fun v hv => ?_); cbv)
    | fail)
  all_goals (subst hE; subst hr)
  all_goals (try simp only [realE, cmp_eql, cmp_neq, cmp_lss, cmp_leq, cmp_gtr, cmp_geq, intBinR, decide_eq_true_eq, decide_eq_false_iff_not, SI.val, SB.val, Num.eta, Iv.eta] at *)
  all_goals (simp only [Num.may, Num.zero, Num.top, Num.eq_iff])
  all_goals (try simp_all)
  all_goals (try (intros; omega))
  all_goals (try (simp only [decide_eq_true_eq]; intros; omega))

theorem c_fair (n : Num)  : ∃ t : Num, t = n.fair ∧ CallsA Try.prog 94 [n.av] (t.av) := by
  refine ⟨_, rfl, ?_⟩
  generalize hr : n.fair = r
  refine callsA_of hG hm Try.func94 (by kernel_rfl) ?_
  intro E hE lp hl
  cbv
  repeat' (first
    | (refine E_br hE (fun h => ?_) (fun h => ?_) <;> cbv)
    | (refine E_nm hE (fun v hv => ?_); cbv)
    | (apply E_callX hE (c_May ⟨_, _, _, _⟩); (case hf => rfl); (case hc => (cbv <;> trivial)); (case hle => (repeat' (first | exact u_nil | apply u_cons | apply u2_agg | exact u2_int | exact u1_int | exact u2_bool | exact u1_bool | exact u2_sli | exact u1_sli | exact u2_s0 | exact u1_s0))); intro t ht; cbv)
    | (apply E_pcallX hE (c_May ⟨_, _, _, _⟩); (case hm => rfl); (case hle => (repeat' (first | exact u_nil | apply u_cons | apply u2_agg | exact u2_int | exact u1_int | exact u2_bool | exact u1_bool | exact u2_sli | exact u1_sli | exact u2_s0 | exact u1_s0))); intro t ht; cbv)
    | fail)
  all_goals (subst hE; subst hr)
  all_goals (try simp only [realE, cmp_eql, cmp_neq, cmp_lss, cmp_leq, cmp_gtr, cmp_geq, intBinR, decide_eq_true_eq, decide_eq_false_iff_not, SI.val, SB.val, Num.eta, Iv.eta] at *)
  all_goals (try simp_all [Num.fair, Num.zero])
  all_goals (try omega)
  all_goals (try simp only [Bool.and_assoc])
  all_goals (try rfl)
  all_goals ((repeat' split) <;> (try simp_all) <;> (try omega))

theorem c_Inf (b : Bool)  : ∃ t : Num, t = Num.inf b ∧ CallsA Try.prog 67 [.bool (.s b)] (t.av) := by
  refine ⟨_, rfl, ?_⟩
  generalize hr : Num.inf b = r
  refine callsA_of hG hm Try.func67 (by kernel_rfl) ?_
  intro E hE lp hl
  cbv
  repeat' (first
    | (refine E_br hE (fun h => ?_) (fun h => ?_) <;> cbv)
    | (refine E_nm hE (fun v hv => ?_); cbv)
    | fail)
  all_goals (subst hE; subst hr)
  all_goals (try simp only [realE, cmp_eql, cmp_neq, cmp_lss, cmp_leq, cmp_gtr, cmp_geq, intBinR, decide_eq_true_eq, decide_eq_false_iff_not, SI.val, SB.val, Num.eta, Iv.eta] at *)
  all_goals (try simp_all [Num.inf])
  all_goals (try omega)
  all_goals (try simp only [Bool.and_assoc])
  all_goals (try rfl)
  all_goals ((repeat' split) <;> (try simp_all) <;> (try omega))

theorem c_huge (b : Bool)  : ∃ t : Num, t = Num.huge b ∧ CallsA Try.prog 101 [.bool (.s b)] (t.av) := by
  refine ⟨_, rfl, ?_⟩
  generalize hr : Num.huge b = r
  refine callsA_of hG hm Try.func101 (by kernel_rfl) ?_
  intro E hE lp hl
  cbv
  repeat' (first
    | (refine E_br hE (fun h => ?_) (fun h => ?_) <;> cbv)
    | (refine E_nm hE (fun v hv => ?_); cbv)
    | fail)
  all_goals (subst hE; subst hr)
  all_goals (try simp only [realE, cmp_eql, cmp_neq, cmp_lss, cmp_leq, cmp_gtr, cmp_geq, intBinR, decide_eq_true_eq, decide_eq_false_iff_not, SI.val, SB.val, Num.eta, Iv.eta] at *)
  all_goals (try simp_all [Num.huge])
  all_goals (try omega)
  all_goals (try simp only [Bool.and_assoc])
  all_goals (try rfl)
  all_goals ((repeat' split) <;> (try simp_all) <;> (try omega))

theorem c_tiny (b : Bool)  : ∃ t : Num, t = Num.tiny b ∧ CallsA Try.prog 100 [.bool (.s b)] (t.av) := by
  refine ⟨_, rfl, ?_⟩
  generalize hr : Num.tiny b = r
  refine callsA_of hG hm Try.func100 (by kernel_rfl) ?_
  intro E hE lp hl
  cbv
  repeat' (first
    | (refine E_br hE (fun h => ?_) (fun h => ?_) <;> cbv)
    | (refine E_nm hE (fun v hv => ?_); cbv)
    | fail)
  all_goals (subst hE; subst hr)
  all_goals (try simp only [realE, cmp_eql, cmp_neq, cmp_lss, cmp_leq, cmp_gtr, cmp_geq, intBinR, decide_eq_true_eq, decide_eq_false_iff_not, SI.val, SB.val, Num.eta, Iv.eta] at *)
  all_goals (try simp_all [Num.tiny, Num.top])
  all_goals (try omega)
  all_goals (try simp only [Bool.and_assoc])
  all_goals (try rfl)
  all_goals ((repeat' split) <;> (try simp_all) <;> (try omega))

theorem c_Bound (neg : Bool) (m : Int) (e : Int) (away : Bool)  : ∃ t : Num, t = Num.bound neg m e away ∧ CallsA Try.prog 102 [.bool (.s neg), .int .u64 (.s m), .int .i64 (.s e), .bool (.s away)] (t.av) := by
  refine ⟨_, rfl, ?_⟩
  generalize hr : Num.bound neg m e away = r
  refine callsA_of hG hm Try.func102 (by kernel_rfl) ?_
  intro E hE lp hl
  cbv
  repeat' (first
    | (refine E_br hE (fun h => ?_) (fun h => ?_) <;> cbv)
    | (refine E_nm hE (fun v hv => ?_); cbv)
    | (apply E_callX hE (c_Inf _); (case hf => rfl); (case hc => (cbv <;> trivial)); (case hle => (repeat' (first | exact u_nil | apply u_cons | apply u2_agg | exact u2_int | exact u1_int | exact u2_bool | exact u1_bool | exact u2_sli | exact u1_sli | exact u2_s0 | exact u1_s0))); intro t ht; cbv)
    | (apply E_pcallX hE (c_Inf _); (case hm => rfl); (case hle => (repeat' (first | exact u_nil | apply u_cons | apply u2_agg | exact u2_int | exact u1_int | exact u2_bool | exact u1_bool | exact u2_sli | exact u1_sli | exact u2_s0 | exact u1_s0))); intro t ht; cbv)
    | (apply E_callX hE (c_huge _); (case hf => rfl); (case hc => (cbv <;> trivial)); (case hle => (repeat' (first | exact u_nil | apply u_cons | apply u2_agg | exact u2_int | exact u1_int | exact u2_bool | exact u1_bool | exact u2_sli | exact u1_sli | exact u2_s0 | exact u1_s0))); intro t ht; cbv)
    | (apply E_pcallX hE (c_huge _); (case hm => rfl); (case hle => (repeat' (first | exact u_nil | apply u_cons | apply u2_agg | exact u2_int | exact u1_int | exact u2_bool | exact u1_bool | exact u2_sli | exact u1_sli | exact u2_s0 | exact u1_s0))); intro t ht; cbv)
    | (apply E_callX hE (c_tiny _); (case hf => rfl); (case hc => (cbv <;> trivial)); (case hle => (repeat' (first | exact u_nil | apply u_cons | apply u2_agg | exact u2_int | exact u1_int | exact u2_bool | exact u1_bool | exact u2_sli | exact u1_sli | exact u2_s0 | exact u1_s0))); intro t ht; cbv)
    | (apply E_pcallX hE (c_tiny _); (case hm => rfl); (case hle => (repeat' (first | exact u_nil | apply u_cons | apply u2_agg | exact u2_int | exact u1_int | exact u2_bool | exact u1_bool | exact u2_sli | exact u1_sli | exact u2_s0 | exact u1_s0))); intro t ht; cbv)
    | fail)
  all_goals (subst hE; subst hr)
  all_goals (try simp only [realE, cmp_eql, cmp_neq, cmp_lss, cmp_leq, cmp_gtr, cmp_geq, intBinR, decide_eq_true_eq, decide_eq_false_iff_not, SI.val, SB.val, Num.eta, Iv.eta] at *)
  all_goals (try simp_all [Num.bound, Num.zero])
  all_goals (try omega)
  all_goals (try simp only [Bool.and_assoc])
  all_goals (try rfl)
  all_goals ((repeat' split) <;> (try simp_all) <;> (try omega))

theorem c_Grow (neg : Bool) (m : Int) (e : Int) (cut : Bool) (away : Bool)  : ∃ t : Num, t = Num.grow neg m e cut away ∧ CallsA Try.prog 69 [.bool (.s neg), .int .u64 (.s m), .int .i64 (.s e), .bool (.s cut), .bool (.s away)] (t.av) := by
  refine ⟨_, rfl, ?_⟩
  generalize hr : Num.grow neg m e cut away = r
  refine callsA_of hG hm Try.func69 (by kernel_rfl) ?_
  intro E hE lp hl
  cbv
  repeat' (first
    | (refine E_br hE (fun h => ?_) (fun h => ?_) <;> cbv)
    | (refine E_nm hE (fun v hv => ?_); cbv)
    | (apply E_callX hE (c_Bound _ _ _ _); (case hf => rfl); (case hc => (cbv <;> trivial)); (case hle => (repeat' (first | exact u_nil | apply u_cons | apply u2_agg | exact u2_int | exact u1_int | exact u2_bool | exact u1_bool | exact u2_sli | exact u1_sli | exact u2_s0 | exact u1_s0))); intro t ht; cbv)
    | (apply E_pcallX hE (c_Bound _ _ _ _); (case hm => rfl); (case hle => (repeat' (first | exact u_nil | apply u_cons | apply u2_agg | exact u2_int | exact u1_int | exact u2_bool | exact u1_bool | exact u2_sli | exact u1_sli | exact u2_s0 | exact u1_s0))); intro t ht; cbv)
    | fail)
  all_goals (subst hE; subst hr)
  all_goals (try simp only [realE, cmp_eql, cmp_neq, cmp_lss, cmp_leq, cmp_gtr, cmp_geq, intBinR, decide_eq_true_eq, decide_eq_false_iff_not, SI.val, SB.val, Num.eta, Iv.eta] at *)
  all_goals (try simp_all [Num.grow, Num.top])
  all_goals (try omega)
  all_goals (try simp only [Bool.and_assoc])
  all_goals (try rfl)
  all_goals ((repeat' split) <;> (try simp_all) <;> (try omega))

theorem c_Sign (n : Num)  : ∃ t : Int, t = n.sign ∧ CallsA Try.prog 30 [n.av] (.int .i64 (.s t)) := by
  refine ⟨_, rfl, ?_⟩
  generalize hr : n.sign = r
  refine callsA_of hG hm Try.func30 (by kernel_rfl) ?_
  intro E hE lp hl
  cbv
  repeat' (first
    | (refine E_br hE (fun h => ?_) (fun h => ?_) <;> cbv)
    | (refine E_nm hE (fun v hv => ?_); cbv)
    | (apply E_callX hE (c_fair ⟨_, _, _, _⟩); (case hf => rfl); (case hc => (cbv <;> trivial)); (case hle => (repeat' (first | exact u_nil | apply u_cons | apply u2_agg | exact u2_int | exact u1_int | exact u2_bool | exact u1_bool | exact u2_sli | exact u1_sli | exact u2_s0 | exact u1_s0))); intro t ht; cbv)
    | (apply E_pcallX hE (c_fair ⟨_, _, _, _⟩); (case hm => rfl); (case hle => (repeat' (first | exact u_nil | apply u_cons | apply u2_agg | exact u2_int | exact u1_int | exact u2_bool | exact u1_bool | exact u2_sli | exact u1_sli | exact u2_s0 | exact u1_s0))); intro t ht; cbv)
    | fail)
  all_goals (subst hE; subst hr)
  all_goals (try simp only [realE, cmp_eql, cmp_neq, cmp_lss, cmp_leq, cmp_gtr, cmp_geq, intBinR, decide_eq_true_eq, decide_eq_false_iff_not, SI.val, SB.val, Num.eta, Iv.eta] at *)
  all_goals (try simp_all [Num.sign])
  all_goals (try omega)
  all_goals (try simp only [Bool.and_assoc])
  all_goals (try rfl)
  all_goals ((repeat' split) <;> (try simp_all) <;> (try omega))

theorem c_farther (a : Num) (b : Num)  : ∃ t : Bool, t = a.farther b ∧ CallsA Try.prog 99 [a.av, b.av] (.bool (.s t)) := by
  refine ⟨_, rfl, ?_⟩
  generalize hr : a.farther b = r
  refine callsA_of hG hm Try.func99 (by kernel_rfl) ?_
  intro E hE lp hl
  cbv
  repeat' (first
    | (refine E_br hE (fun h => ?_) (fun h => ?_) <;> cbv)
    | (refine E_nm hE (fun v hv => ?_); cbv)
    | fail)
  all_goals (subst hE; subst hr)
  all_goals (try simp only [realE, cmp_eql, cmp_neq, cmp_lss, cmp_leq, cmp_gtr, cmp_geq, intBinR, decide_eq_true_eq, decide_eq_false_iff_not, SI.val, SB.val, Num.eta, Iv.eta] at *)
  all_goals (try simp_all [Num.farther])
  all_goals (try omega)
  all_goals (try simp only [Bool.and_assoc])
  all_goals (try rfl)
  all_goals ((repeat' split) <;> (try simp_all) <;> (try omega))

theorem c_Cmp (a : Num) (b : Num)  : ∃ t : Int, t = a.cmp b ∧ CallsA Try.prog 34 [a.av, b.av] (.int .i64 (.s t)) := by
  refine ⟨_, rfl, ?_⟩
  generalize hr : a.cmp b = r
  refine callsA_of hG hm Try.func34 (by kernel_rfl) ?_
  intro E hE lp hl
  cbv
  repeat' (first
    | (refine E_br hE (fun h => ?_) (fun h => ?_) <;> cbv)
    | (refine E_nm hE (fun v hv => ?_); cbv)
    | (apply E_callX hE (c_fair ⟨_, _, _, _⟩); (case hf => rfl); (case hc => (cbv <;> trivial)); (case hle => (repeat' (first | exact u_nil | apply u_cons | apply u2_agg | exact u2_int | exact u1_int | exact u2_bool | exact u1_bool | exact u2_sli | exact u1_sli | exact u2_s0 | exact u1_s0))); intro t ht; cbv)
    | (apply E_pcallX hE (c_fair ⟨_, _, _, _⟩); (case hm => rfl); (case hle => (repeat' (first | exact u_nil | apply u_cons | apply u2_agg | exact u2_int | exact u1_int | exact u2_bool | exact u1_bool | exact u2_sli | exact u1_sli | exact u2_s0 | exact u1_s0))); intro t ht; cbv)
    | (apply E_callX hE (c_Sign ⟨_, _, _, _⟩); (case hf => rfl); (case hc => (cbv <;> trivial)); (case hle => (repeat' (first | exact u_nil | apply u_cons | apply u2_agg | exact u2_int | exact u1_int | exact u2_bool | exact u1_bool | exact u2_sli | exact u1_sli | exact u2_s0 | exact u1_s0))); intro t ht; cbv)
    | (apply E_pcallX hE (c_Sign ⟨_, _, _, _⟩); (case hm => rfl); (case hle => (repeat' (first | exact u_nil | apply u_cons | apply u2_agg | exact u2_int | exact u1_int | exact u2_bool | exact u1_bool | exact u2_sli | exact u1_sli | exact u2_s0 | exact u1_s0))); intro t ht; cbv)
    | (apply E_callX hE (c_farther ⟨_, _, _, _⟩ ⟨_, _, _, _⟩); (case hf => rfl); (case hc => (cbv <;> trivial)); (case hle => (repeat' (first | exact u_nil | apply u_cons | apply u2_agg | exact u2_int | exact u1_int | exact u2_bool | exact u1_bool | exact u2_sli | exact u1_sli | exact u2_s0 | exact u1_s0))); intro t ht; cbv)
    | (apply E_pcallX hE (c_farther ⟨_, _, _, _⟩ ⟨_, _, _, _⟩); (case hm => rfl); (case hle => (repeat' (first | exact u_nil | apply u_cons | apply u2_agg | exact u2_int | exact u1_int | exact u2_bool | exact u1_bool | exact u2_sli | exact u1_sli | exact u2_s0 | exact u1_s0))); intro t ht; cbv)
    | fail)
  all_goals (subst hE; subst hr)
  all_goals (try simp only [realE, cmp_eql, cmp_neq, cmp_lss, cmp_leq, cmp_gtr, cmp_geq, intBinR, decide_eq_true_eq, decide_eq_false_iff_not, SI.val, SB.val, Num.eta, Iv.eta] at *)
  all_goals (try simp_all [Num.cmp])
  all_goals (try omega)
  all_goals (try simp only [Bool.and_assoc])
  all_goals (try rfl)
  all_goals ((repeat' split) <;> (try simp_all) <;> (try omega))

theorem c_Neg (n : Num)  : ∃ t : Num, t = n.opp ∧ CallsA Try.prog 31 [n.av] (t.av) := by
  refine ⟨_, rfl, ?_⟩
  generalize hr : n.opp = r
  refine callsA_of hG hm Try.func31 (by kernel_rfl) ?_
  intro E hE lp hl
  cbv
  repeat' (first
    | (refine E_br hE (fun h => ?_) (fun h => ?_) <;> cbv)
    | (refine E_nm hE (fun v hv => ?_); cbv)
    | (apply E_callX hE (c_fair ⟨_, _, _, _⟩); (case hf => rfl); (case hc => (cbv <;> trivial)); (case hle => (repeat' (first | exact u_nil | apply u_cons | apply u2_agg | exact u2_int | exact u1_int | exact u2_bool | exact u1_bool | exact u2_sli | exact u1_sli | exact u2_s0 | exact u1_s0))); intro t ht; cbv)
    | (apply E_pcallX hE (c_fair ⟨_, _, _, _⟩); (case hm => rfl); (case hle => (repeat' (first | exact u_nil | apply u_cons | apply u2_agg | exact u2_int | exact u1_int | exact u2_bool | exact u1_bool | exact u2_sli | exact u1_sli | exact u2_s0 | exact u1_s0))); intro t ht; cbv)
    | fail)
  all_goals (subst hE; subst hr)
  all_goals (try simp only [realE, cmp_eql, cmp_neq, cmp_lss, cmp_leq, cmp_gtr, cmp_geq, intBinR, decide_eq_true_eq, decide_eq_false_iff_not, SI.val, SB.val, Num.eta, Iv.eta] at *)
  all_goals (try simp_all [Num.opp])
  all_goals (try omega)
  all_goals (try simp only [Bool.and_assoc])
  all_goals (try rfl)
  all_goals ((repeat' split) <;> (try simp_all) <;> (try omega))

end Go.Proofs.Ytincnfjihffllaa.Ev

/- Intervals: plain Lean. -/
namespace Go.Proofs.Ytincnfjihffllaa.Ev
open Go

def Iv.none : Iv := ⟨true, Num.zero, Num.zero⟩
def Iv.all : Iv := ⟨false, Num.inf true, Num.inf false⟩
def Iv.may (x : Iv) : Bool :=
  if x.empty then decide (x = Iv.none) else x.lo.may && x.hi.may && decide (x.lo.cmp x.hi ≤ 0) && decide (x.lo ≠ Num.inf false) && decide (x.hi ≠ Num.inf true)
def Iv.fair (x : Iv) : Iv := if x.may then x else Iv.none
def Iv.make (lo hi : Num) : Iv := Iv.fair ⟨false, lo.opp.opp, hi.opp.opp⟩
def Iv.point (n : Num) : Iv := Iv.make n n
def Iv.within (a b : Iv) : Bool := a.fair.empty || (!b.fair.empty && decide (b.fair.lo.cmp a.fair.lo ≤ 0) && decide (a.fair.hi.cmp b.fair.hi ≤ 0))
def Iv.has (x : Iv) (n : Num) : Bool := !(Iv.point n).empty && (Iv.point n).within x
end Go.Proofs.Ytincnfjihffllaa.Ev

/- Contracts: intervals. Printed by gen.py out of C2.spec. -/
namespace Go.Proofs.Ytincnfjihffllaa.Ev
open Go Go.Proofs
set_option linter.unusedVariables false
set_option linter.unusedSimpArgs false

theorem c_ivNone   : ∃ t : Iv, t = Iv.none ∧ CallsA Try.prog 64 [] (t.av) := by
  refine ⟨_, rfl, ?_⟩
  generalize hr : Iv.none = r
  refine callsA_of hG hm Try.func64 (by kernel_rfl) ?_
  intro E hE lp hl
  cbv
  repeat' (first
    | (refine E_br hE (fun h => ?_) (fun h => ?_) <;> cbv)
    | (refine E_nm hE (fun v hv => ?_); cbv)
    | fail)
  all_goals (subst hE; subst hr)
  all_goals (try simp only [realE, cmp_eql, cmp_neq, cmp_lss, cmp_leq, cmp_gtr, cmp_geq, intBinR, decide_eq_true_eq, decide_eq_false_iff_not, SI.val, SB.val, Num.eta, Iv.eta] at *)
  all_goals (try simp_all [Iv.none, Num.zero])
  all_goals (try omega)
  all_goals (try simp only [Bool.and_assoc])
  all_goals (try rfl)
  all_goals ((repeat' split) <;> (try simp_all) <;> (try omega))

theorem c_ivAll   : ∃ t : Iv, t = Iv.all ∧ CallsA Try.prog 113 [] (t.av) := by
  refine ⟨_, rfl, ?_⟩
  generalize hr : Iv.all = r
  refine callsA_of hG hm Try.func113 (by kernel_rfl) ?_
  intro E hE lp hl
  cbv
  repeat' (first
    | (refine E_br hE (fun h => ?_) (fun h => ?_) <;> cbv)
    | (refine E_nm hE (fun v hv => ?_); cbv)
    | (apply E_callX hE (c_Inf _); (case hf => rfl); (case hc => (cbv <;> trivial)); (case hle => (repeat' (first | exact u_nil | apply u_cons | apply u2_agg | exact u2_int | exact u1_int | exact u2_bool | exact u1_bool | exact u2_sli | exact u1_sli | exact u2_s0 | exact u1_s0))); intro t ht; cbv)
    | (apply E_pcallX hE (c_Inf _); (case hm => rfl); (case hle => (repeat' (first | exact u_nil | apply u_cons | apply u2_agg | exact u2_int | exact u1_int | exact u2_bool | exact u1_bool | exact u2_sli | exact u1_sli | exact u2_s0 | exact u1_s0))); intro t ht; cbv)
    | fail)
  all_goals (subst hE; subst hr)
  all_goals (try simp only [realE, cmp_eql, cmp_neq, cmp_lss, cmp_leq, cmp_gtr, cmp_geq, intBinR, decide_eq_true_eq, decide_eq_false_iff_not, SI.val, SB.val, Num.eta, Iv.eta] at *)
  all_goals (try simp_all [Iv.all, Num.inf])
  all_goals (try omega)
  all_goals (try simp only [Bool.and_assoc])
  all_goals (try rfl)
  all_goals ((repeat' split) <;> (try simp_all) <;> (try omega))

theorem c_ivMay (x : Iv)  : ∃ t : Bool, t = x.may ∧ CallsA Try.prog 55 [x.av] (.bool (.s t)) := by
  refine ⟨_, rfl, ?_⟩
  generalize hr : x.may = r
  refine callsA_of hG hm Try.func55 (by kernel_rfl) ?_
  intro E hE lp hl
  cbv
  repeat' (first
    | (refine E_br hE (fun h => ?_) (fun h => ?_) <;> cbv)
    | (refine E_nm hE (fun v hv => ?_); cbv)
    | (apply E_callX hE (c_ivNone ); (case hf => rfl); (case hc => (cbv <;> trivial)); (case hle => (repeat' (first | exact u_nil | apply u_cons | apply u2_agg | exact u2_int | exact u1_int | exact u2_bool | exact u1_bool | exact u2_sli | exact u1_sli | exact u2_s0 | exact u1_s0))); intro t ht; cbv)
    | (apply E_pcallX hE (c_ivNone ); (case hm => rfl); (case hle => (repeat' (first | exact u_nil | apply u_cons | apply u2_agg | exact u2_int | exact u1_int | exact u2_bool | exact u1_bool | exact u2_sli | exact u1_sli | exact u2_s0 | exact u1_s0))); intro t ht; cbv)
    | (apply E_callX hE (c_May ⟨_, _, _, _⟩); (case hf => rfl); (case hc => (cbv <;> trivial)); (case hle => (repeat' (first | exact u_nil | apply u_cons | apply u2_agg | exact u2_int | exact u1_int | exact u2_bool | exact u1_bool | exact u2_sli | exact u1_sli | exact u2_s0 | exact u1_s0))); intro t ht; cbv)
    | (apply E_pcallX hE (c_May ⟨_, _, _, _⟩); (case hm => rfl); (case hle => (repeat' (first | exact u_nil | apply u_cons | apply u2_agg | exact u2_int | exact u1_int | exact u2_bool | exact u1_bool | exact u2_sli | exact u1_sli | exact u2_s0 | exact u1_s0))); intro t ht; cbv)
    | (apply E_callX hE (c_Cmp ⟨_, _, _, _⟩ ⟨_, _, _, _⟩); (case hf => rfl); (case hc => (cbv <;> trivial)); (case hle => (repeat' (first | exact u_nil | apply u_cons | apply u2_agg | exact u2_int | exact u1_int | exact u2_bool | exact u1_bool | exact u2_sli | exact u1_sli | exact u2_s0 | exact u1_s0))); intro t ht; cbv)
    | (apply E_pcallX hE (c_Cmp ⟨_, _, _, _⟩ ⟨_, _, _, _⟩); (case hm => rfl); (case hle => (repeat' (first | exact u_nil | apply u_cons | apply u2_agg | exact u2_int | exact u1_int | exact u2_bool | exact u1_bool | exact u2_sli | exact u1_sli | exact u2_s0 | exact u1_s0))); intro t ht; cbv)
    | (apply E_callX hE (c_Inf _); (case hf => rfl); (case hc => (cbv <;> trivial)); (case hle => (repeat' (first | exact u_nil | apply u_cons | apply u2_agg | exact u2_int | exact u1_int | exact u2_bool | exact u1_bool | exact u2_sli | exact u1_sli | exact u2_s0 | exact u1_s0))); intro t ht; cbv)
    | (apply E_pcallX hE (c_Inf _); (case hm => rfl); (case hle => (repeat' (first | exact u_nil | apply u_cons | apply u2_agg | exact u2_int | exact u1_int | exact u2_bool | exact u1_bool | exact u2_sli | exact u1_sli | exact u2_s0 | exact u1_s0))); intro t ht; cbv)
    | fail)
  all_goals (subst hE; subst hr)
  all_goals (try simp only [realE, cmp_eql, cmp_neq, cmp_lss, cmp_leq, cmp_gtr, cmp_geq, intBinR, decide_eq_true_eq, decide_eq_false_iff_not, SI.val, SB.val, Num.eta, Iv.eta] at *)
  all_goals (try simp_all [Iv.may, Iv.none, Num.zero, Iv.eq_iff, Num.eq_iff, Num.inf])
  all_goals (try omega)
  all_goals (try simp only [Bool.and_assoc])
  all_goals (try rfl)
  all_goals ((repeat' split) <;> (try simp_all) <;> (try omega))

theorem c_ivFair (x : Iv)  : ∃ t : Iv, t = x.fair ∧ CallsA Try.prog 127 [x.av] (t.av) := by
  refine ⟨_, rfl, ?_⟩
  generalize hr : x.fair = r
  refine callsA_of hG hm Try.func127 (by kernel_rfl) ?_
  intro E hE lp hl
  cbv
  repeat' (first
    | (refine E_br hE (fun h => ?_) (fun h => ?_) <;> cbv)
    | (refine E_nm hE (fun v hv => ?_); cbv)
    | (apply E_callX hE (c_ivMay ⟨_, ⟨_, _, _, _⟩, ⟨_, _, _, _⟩⟩); (case hf => rfl); (case hc => (cbv <;> trivial)); (case hle => (repeat' (first | exact u_nil | apply u_cons | apply u2_agg | exact u2_int | exact u1_int | exact u2_bool | exact u1_bool | exact u2_sli | exact u1_sli | exact u2_s0 | exact u1_s0))); intro t ht; cbv)
    | (apply E_pcallX hE (c_ivMay ⟨_, ⟨_, _, _, _⟩, ⟨_, _, _, _⟩⟩); (case hm => rfl); (case hle => (repeat' (first | exact u_nil | apply u_cons | apply u2_agg | exact u2_int | exact u1_int | exact u2_bool | exact u1_bool | exact u2_sli | exact u1_sli | exact u2_s0 | exact u1_s0))); intro t ht; cbv)
    | (apply E_callX hE (c_ivNone ); (case hf => rfl); (case hc => (cbv <;> trivial)); (case hle => (repeat' (first | exact u_nil | apply u_cons | apply u2_agg | exact u2_int | exact u1_int | exact u2_bool | exact u1_bool | exact u2_sli | exact u1_sli | exact u2_s0 | exact u1_s0))); intro t ht; cbv)
    | (apply E_pcallX hE (c_ivNone ); (case hm => rfl); (case hle => (repeat' (first | exact u_nil | apply u_cons | apply u2_agg | exact u2_int | exact u1_int | exact u2_bool | exact u1_bool | exact u2_sli | exact u1_sli | exact u2_s0 | exact u1_s0))); intro t ht; cbv)
    | fail)
  all_goals (subst hE; subst hr)
  all_goals (try simp only [realE, cmp_eql, cmp_neq, cmp_lss, cmp_leq, cmp_gtr, cmp_geq, intBinR, decide_eq_true_eq, decide_eq_false_iff_not, SI.val, SB.val, Num.eta, Iv.eta] at *)
  all_goals (try simp_all [Iv.fair])
  all_goals (try omega)
  all_goals (try simp only [Bool.and_assoc])
  all_goals (try rfl)
  all_goals ((repeat' split) <;> (try simp_all) <;> (try omega))

theorem c_ivMake (lo : Num) (hi : Num)  : ∃ t : Iv, t = Iv.make lo hi ∧ CallsA Try.prog 114 [lo.av, hi.av] (t.av) := by
  refine ⟨_, rfl, ?_⟩
  generalize hr : Iv.make lo hi = r
  refine callsA_of hG hm Try.func114 (by kernel_rfl) ?_
  intro E hE lp hl
  cbv
  repeat' (first
    | (refine E_br hE (fun h => ?_) (fun h => ?_) <;> cbv)
    | (refine E_nm hE (fun v hv => ?_); cbv)
    | (apply E_callX hE (c_Neg ⟨_, _, _, _⟩); (case hf => rfl); (case hc => (cbv <;> trivial)); (case hle => (repeat' (first | exact u_nil | apply u_cons | apply u2_agg | exact u2_int | exact u1_int | exact u2_bool | exact u1_bool | exact u2_sli | exact u1_sli | exact u2_s0 | exact u1_s0))); intro t ht; cbv)
    | (apply E_pcallX hE (c_Neg ⟨_, _, _, _⟩); (case hm => rfl); (case hle => (repeat' (first | exact u_nil | apply u_cons | apply u2_agg | exact u2_int | exact u1_int | exact u2_bool | exact u1_bool | exact u2_sli | exact u1_sli | exact u2_s0 | exact u1_s0))); intro t ht; cbv)
    | (apply E_callX hE (c_ivFair ⟨_, ⟨_, _, _, _⟩, ⟨_, _, _, _⟩⟩); (case hf => rfl); (case hc => (cbv <;> trivial)); (case hle => (repeat' (first | exact u_nil | apply u_cons | apply u2_agg | exact u2_int | exact u1_int | exact u2_bool | exact u1_bool | exact u2_sli | exact u1_sli | exact u2_s0 | exact u1_s0))); intro t ht; cbv)
    | (apply E_pcallX hE (c_ivFair ⟨_, ⟨_, _, _, _⟩, ⟨_, _, _, _⟩⟩); (case hm => rfl); (case hle => (repeat' (first | exact u_nil | apply u_cons | apply u2_agg | exact u2_int | exact u1_int | exact u2_bool | exact u1_bool | exact u2_sli | exact u1_sli | exact u2_s0 | exact u1_s0))); intro t ht; cbv)
    | fail)
  all_goals (subst hE; subst hr)
  all_goals (try simp only [realE, cmp_eql, cmp_neq, cmp_lss, cmp_leq, cmp_gtr, cmp_geq, intBinR, decide_eq_true_eq, decide_eq_false_iff_not, SI.val, SB.val, Num.eta, Iv.eta] at *)
  all_goals (try simp_all [Iv.make])
  all_goals (try omega)
  all_goals (try simp only [Bool.and_assoc])
  all_goals (try rfl)
  all_goals ((repeat' split) <;> (try simp_all) <;> (try omega))

theorem c_ivPoint (n : Num)  : ∃ t : Iv, t = Iv.point n ∧ CallsA Try.prog 42 [n.av] (t.av) := by
  refine ⟨_, rfl, ?_⟩
  generalize hr : Iv.point n = r
  refine callsA_of hG hm Try.func42 (by kernel_rfl) ?_
  intro E hE lp hl
  cbv
  repeat' (first
    | (refine E_br hE (fun h => ?_) (fun h => ?_) <;> cbv)
    | (refine E_nm hE (fun v hv => ?_); cbv)
    | (apply E_callX hE (c_ivMake ⟨_, _, _, _⟩ ⟨_, _, _, _⟩); (case hf => rfl); (case hc => (cbv <;> trivial)); (case hle => (repeat' (first | exact u_nil | apply u_cons | apply u2_agg | exact u2_int | exact u1_int | exact u2_bool | exact u1_bool | exact u2_sli | exact u1_sli | exact u2_s0 | exact u1_s0))); intro t ht; cbv)
    | (apply E_pcallX hE (c_ivMake ⟨_, _, _, _⟩ ⟨_, _, _, _⟩); (case hm => rfl); (case hle => (repeat' (first | exact u_nil | apply u_cons | apply u2_agg | exact u2_int | exact u1_int | exact u2_bool | exact u1_bool | exact u2_sli | exact u1_sli | exact u2_s0 | exact u1_s0))); intro t ht; cbv)
    | fail)
  all_goals (subst hE; subst hr)
  all_goals (try simp only [realE, cmp_eql, cmp_neq, cmp_lss, cmp_leq, cmp_gtr, cmp_geq, intBinR, decide_eq_true_eq, decide_eq_false_iff_not, SI.val, SB.val, Num.eta, Iv.eta] at *)
  all_goals (try simp_all [Iv.point])
  all_goals (try omega)
  all_goals (try simp only [Bool.and_assoc])
  all_goals (try rfl)
  all_goals ((repeat' split) <;> (try simp_all) <;> (try omega))

theorem c_ivWithin (a : Iv) (b : Iv)  : ∃ t : Bool, t = a.within b ∧ CallsA Try.prog 51 [a.av, b.av] (.bool (.s t)) := by
  refine ⟨_, rfl, ?_⟩
  generalize hr : a.within b = r
  refine callsA_of hG hm Try.func51 (by kernel_rfl) ?_
  intro E hE lp hl
  cbv
  repeat' (first
    | (refine E_br hE (fun h => ?_) (fun h => ?_) <;> cbv)
    | (refine E_nm hE (fun v hv => ?_); cbv)
    | (apply E_callX hE (c_ivFair ⟨_, ⟨_, _, _, _⟩, ⟨_, _, _, _⟩⟩); (case hf => rfl); (case hc => (cbv <;> trivial)); (case hle => (repeat' (first | exact u_nil | apply u_cons | apply u2_agg | exact u2_int | exact u1_int | exact u2_bool | exact u1_bool | exact u2_sli | exact u1_sli | exact u2_s0 | exact u1_s0))); intro t ht; cbv)
    | (apply E_pcallX hE (c_ivFair ⟨_, ⟨_, _, _, _⟩, ⟨_, _, _, _⟩⟩); (case hm => rfl); (case hle => (repeat' (first | exact u_nil | apply u_cons | apply u2_agg | exact u2_int | exact u1_int | exact u2_bool | exact u1_bool | exact u2_sli | exact u1_sli | exact u2_s0 | exact u1_s0))); intro t ht; cbv)
    | (apply E_callX hE (c_Cmp ⟨_, _, _, _⟩ ⟨_, _, _, _⟩); (case hf => rfl); (case hc => (cbv <;> trivial)); (case hle => (repeat' (first | exact u_nil | apply u_cons | apply u2_agg | exact u2_int | exact u1_int | exact u2_bool | exact u1_bool | exact u2_sli | exact u1_sli | exact u2_s0 | exact u1_s0))); intro t ht; cbv)
    | (apply E_pcallX hE (c_Cmp ⟨_, _, _, _⟩ ⟨_, _, _, _⟩); (case hm => rfl); (case hle => (repeat' (first | exact u_nil | apply u_cons | apply u2_agg | exact u2_int | exact u1_int | exact u2_bool | exact u1_bool | exact u2_sli | exact u1_sli | exact u2_s0 | exact u1_s0))); intro t ht; cbv)
    | fail)
  all_goals (subst hE; subst hr)
  all_goals (try simp only [realE, cmp_eql, cmp_neq, cmp_lss, cmp_leq, cmp_gtr, cmp_geq, intBinR, decide_eq_true_eq, decide_eq_false_iff_not, SI.val, SB.val, Num.eta, Iv.eta] at *)
  all_goals (try simp_all [Iv.within])
  all_goals (try omega)
  all_goals (try simp only [Bool.and_assoc])
  all_goals (try rfl)
  all_goals ((repeat' split) <;> (try simp_all) <;> (try omega))

theorem c_ivHas (x : Iv) (n : Num)  : ∃ t : Bool, t = x.has n ∧ CallsA Try.prog 41 [x.av, n.av] (.bool (.s t)) := by
  refine ⟨_, rfl, ?_⟩
  generalize hr : x.has n = r
  refine callsA_of hG hm Try.func41 (by kernel_rfl) ?_
  intro E hE lp hl
  cbv
  repeat' (first
    | (refine E_br hE (fun h => ?_) (fun h => ?_) <;> cbv)
    | (refine E_nm hE (fun v hv => ?_); cbv)
    | (apply E_callX hE (c_ivPoint ⟨_, _, _, _⟩); (case hf => rfl); (case hc => (cbv <;> trivial)); (case hle => (repeat' (first | exact u_nil | apply u_cons | apply u2_agg | exact u2_int | exact u1_int | exact u2_bool | exact u1_bool | exact u2_sli | exact u1_sli | exact u2_s0 | exact u1_s0))); intro t ht; cbv)
    | (apply E_pcallX hE (c_ivPoint ⟨_, _, _, _⟩); (case hm => rfl); (case hle => (repeat' (first | exact u_nil | apply u_cons | apply u2_agg | exact u2_int | exact u1_int | exact u2_bool | exact u1_bool | exact u2_sli | exact u1_sli | exact u2_s0 | exact u1_s0))); intro t ht; cbv)
    | (apply E_callX hE (c_ivWithin ⟨_, ⟨_, _, _, _⟩, ⟨_, _, _, _⟩⟩ ⟨_, ⟨_, _, _, _⟩, ⟨_, _, _, _⟩⟩); (case hf => rfl); (case hc => (cbv <;> trivial)); (case hle => (repeat' (first | exact u_nil | apply u_cons | apply u2_agg | exact u2_int | exact u1_int | exact u2_bool | exact u1_bool | exact u2_sli | exact u1_sli | exact u2_s0 | exact u1_s0))); intro t ht; cbv)
    | (apply E_pcallX hE (c_ivWithin ⟨_, ⟨_, _, _, _⟩, ⟨_, _, _, _⟩⟩ ⟨_, ⟨_, _, _, _⟩, ⟨_, _, _, _⟩⟩); (case hm => rfl); (case hle => (repeat' (first | exact u_nil | apply u_cons | apply u2_agg | exact u2_int | exact u1_int | exact u2_bool | exact u1_bool | exact u2_sli | exact u1_sli | exact u2_s0 | exact u1_s0))); intro t ht; cbv)
    | fail)
  all_goals (subst hE; subst hr)
  all_goals (try simp only [realE, cmp_eql, cmp_neq, cmp_lss, cmp_leq, cmp_gtr, cmp_geq, intBinR, decide_eq_true_eq, decide_eq_false_iff_not, SI.val, SB.val, Num.eta, Iv.eta] at *)
  all_goals (try simp_all [Iv.has])
  all_goals (try omega)
  all_goals (try simp only [Bool.and_assoc])
  all_goals (try rfl)
  all_goals ((repeat' split) <;> (try simp_all) <;> (try omega))

theorem c_arFair (n : Num)  : ∃ t : Num, t = n.fair ∧ CallsA Try.prog 167 [n.av] (t.av) := by
  refine ⟨_, rfl, ?_⟩
  generalize hr : n.fair = r
  refine callsA_of hG hm Try.func167 (by kernel_rfl) ?_
  intro E hE lp hl
  cbv
  repeat' (first
    | (refine E_br hE (fun h => ?_) (fun h => ?_) <;> cbv)
    | (refine E_nm hE (fun v hv => ?_); cbv)
    | (apply E_callX hE (c_May ⟨_, _, _, _⟩); (case hf => rfl); (case hc => (cbv <;> trivial)); (case hle => (repeat' (first | exact u_nil | apply u_cons | apply u2_agg | exact u2_int | exact u1_int | exact u2_bool | exact u1_bool | exact u2_sli | exact u1_sli | exact u2_s0 | exact u1_s0))); intro t ht; cbv)
    | (apply E_pcallX hE (c_May ⟨_, _, _, _⟩); (case hm => rfl); (case hle => (repeat' (first | exact u_nil | apply u_cons | apply u2_agg | exact u2_int | exact u1_int | exact u2_bool | exact u1_bool | exact u2_sli | exact u1_sli | exact u2_s0 | exact u1_s0))); intro t ht; cbv)
    | fail)
  all_goals (subst hE; subst hr)
  all_goals (try simp only [realE, cmp_eql, cmp_neq, cmp_lss, cmp_leq, cmp_gtr, cmp_geq, intBinR, decide_eq_true_eq, decide_eq_false_iff_not, SI.val, SB.val, Num.eta, Iv.eta] at *)
  all_goals (try simp_all [Num.fair, Num.zero])
  all_goals (try omega)
  all_goals (try simp only [Bool.and_assoc])
  all_goals (try rfl)
  all_goals ((repeat' split) <;> (try simp_all) <;> (try omega))

theorem c_quFair (n : Num)  : ∃ t : Num, t = n.fair ∧ CallsA Try.prog 66 [n.av] (t.av) := by
  refine ⟨_, rfl, ?_⟩
  generalize hr : n.fair = r
  refine callsA_of hG hm Try.func66 (by kernel_rfl) ?_
  intro E hE lp hl
  cbv
  repeat' (first
    | (refine E_br hE (fun h => ?_) (fun h => ?_) <;> cbv)
    | (refine E_nm hE (fun v hv => ?_); cbv)
    | (apply E_callX hE (c_May ⟨_, _, _, _⟩); (case hf => rfl); (case hc => (cbv <;> trivial)); (case hle => (repeat' (first | exact u_nil | apply u_cons | apply u2_agg | exact u2_int | exact u1_int | exact u2_bool | exact u1_bool | exact u2_sli | exact u1_sli | exact u2_s0 | exact u1_s0))); intro t ht; cbv)
    | (apply E_pcallX hE (c_May ⟨_, _, _, _⟩); (case hm => rfl); (case hle => (repeat' (first | exact u_nil | apply u_cons | apply u2_agg | exact u2_int | exact u1_int | exact u2_bool | exact u1_bool | exact u2_sli | exact u1_sli | exact u2_s0 | exact u1_s0))); intro t ht; cbv)
    | fail)
  all_goals (subst hE; subst hr)
  all_goals (try simp only [realE, cmp_eql, cmp_neq, cmp_lss, cmp_leq, cmp_gtr, cmp_geq, intBinR, decide_eq_true_eq, decide_eq_false_iff_not, SI.val, SB.val, Num.eta, Iv.eta] at *)
  all_goals (try simp_all [Num.fair, Num.zero])
  all_goals (try omega)
  all_goals (try simp only [Bool.and_assoc])
  all_goals (try rfl)
  all_goals ((repeat' split) <;> (try simp_all) <;> (try omega))

end Go.Proofs.Ytincnfjihffllaa.Ev

/- Words of 64 bits: plain Lean. -/
namespace Go.Proofs.Ytincnfjihffllaa.Ev
open Go

theorem wu8 (n : Int) : IntKind.u8.wrap n = n % 256 := IntKind.wrap_u8 n
theorem wu32 (n : Int) : IntKind.u32.wrap n = n % 4294967296 := IntKind.wrap_u32 n
theorem wu64 (n : Int) : IntKind.u64.wrap n = n % 18446744073709551616 := IntKind.wrap_u64 n
theorem wi64 (n : Int) : IntKind.i64.wrap n = (n + 9223372036854775808) % 18446744073709551616 - 9223372036854775808 := IntKind.wrap_i64 n

theorem fdiv_pos (n : Int) (d : Nat) : n.fdiv (d : Int) = n / (d : Int) := Int.fdiv_eq_ediv_of_nonneg n (Int.natCast_nonneg d)
theorem shr_lit {n d : Int} (h : 0 ≤ d) : n.fdiv d = n / d := Int.fdiv_eq_ediv_of_nonneg n h

theorem ofInt_toNat (x : Int) : ((BitVec.ofInt 64 x).toNat : Int) = x % 18446744073709551616 := by
  rw [BitVec.toNat_ofInt]
  omega

theorem and_low (x : Int) (k : Nat) (hk : k ≤ 64) : ((BitVec.ofInt 64 x &&& BitVec.ofInt 64 (2 ^ k - 1 : Int)).toNat : Int) = x % 2 ^ k := by
  rw [BitVec.toNat_and]
  have h2 : (BitVec.ofInt 64 (2 ^ k - 1 : Int)).toNat = 2 ^ k - 1 := by
    have h1 : ((BitVec.ofInt 64 (2 ^ k - 1 : Int)).toNat : Int) = ((2 ^ k - 1 : Nat) : Int) := by
      rw [ofInt_toNat]
      have e : (2 ^ k - 1 : Int) = ((2 ^ k - 1 : Nat) : Int) := by
        have : 1 ≤ 2 ^ k := Nat.one_le_two_pow
        push_cast [Int.ofNat_sub this]
        rfl
      rw [e]
      have : (2 : Nat) ^ k ≤ 2 ^ 64 := Nat.pow_le_pow_right (by omega) hk
      omega
    omega
  rw [h2, Nat.and_two_pow_sub_one_eq_mod]
  have h3 := ofInt_toNat x
  have hd : (2 ^ k : Int) ∣ 18446744073709551616 := ⟨2 ^ (64 - k), by
    rw [← Int.pow_add]
    rw [show k + (64 - k) = 64 by omega]
    rfl⟩
  push_cast
  rw [h3]
  exact Int.emod_emod_of_dvd x hd

theorem and_32 (x : Int) : IntKind.u64.wrap ((BitVec.ofInt 64 x &&& BitVec.ofInt 64 4294967295).toNat : Int) = x % 4294967296 := by
  have := and_low x 32 (by omega)
  rw [show (2 ^ 32 - 1 : Int) = 4294967295 by decide, show (2 ^ 32 : Int) = 4294967296 by decide] at this
  rw [this, wu64]
  omega

theorem and_32' (x : Int) : IntKind.u64.wrap ((BitVec.ofInt IntKind.u64.bits x &&& BitVec.ofInt IntKind.u64.bits 4294967295).toNat : Int) = x % 4294967296 := and_32 x

theorem shr1 (x : Int) : x.fdiv (2 ^ min (Int.toNat 1) IntKind.u64.bits) = x / 2 := shr_lit (by decide)
theorem shr8 (x : Int) : x.fdiv (2 ^ min (Int.toNat 8) IntKind.u64.bits) = x / 256 := shr_lit (by decide)
theorem shr16 (x : Int) : x.fdiv (2 ^ min (Int.toNat 16) IntKind.u64.bits) = x / 65536 := shr_lit (by decide)
theorem shr32 (x : Int) : x.fdiv (2 ^ min (Int.toNat 32) IntKind.u64.bits) = x / 4294967296 := shr_lit (by decide)
theorem shr63 (x : Int) : x.fdiv (2 ^ min (Int.toNat 63) IntKind.u64.bits) = x / 9223372036854775808 := shr_lit (by decide)
theorem shl1 : (2 : Int) ^ min (Int.toNat 1) IntKind.u64.bits = 2 := by decide
theorem shl63 : (2 : Int) ^ min (Int.toNat 63) IntKind.u64.bits = 9223372036854775808 := by decide
theorem shl32 : (2 : Int) ^ min (Int.toNat 32) IntKind.u64.bits = 4294967296 := by decide

/-- the product of two words -/
theorem mul64 {x y : Int} (hx : 0 ≤ x) (hx' : x < 18446744073709551616) (hy : 0 ≤ y) (hy' : y < 18446744073709551616) {x0 x1 y0 y1 w0 t w1 w2 w1' hi : Int}
    (h1 : x0 = x % 4294967296) (h2 : x1 = x / 4294967296) (h3 : y0 = y % 4294967296) (h4 : y1 = y / 4294967296) (h5 : w0 = x0 * y0 % 18446744073709551616)
    (h6 : t = (x1 * y0 % 18446744073709551616 + w0 / 4294967296) % 18446744073709551616) (h7 : w1 = t % 4294967296) (h8 : w2 = t / 4294967296)
    (h9 : w1' = (w1 + x0 * y1 % 18446744073709551616) % 18446744073709551616)
    (h10 : hi = ((x1 * y1 % 18446744073709551616 + w2) % 18446744073709551616 + w1' / 4294967296) % 18446744073709551616) : hi = x * y / 18446744073709551616 := by
  have b : ∀ {a b : Int}, 0 ≤ a → a < 4294967296 → 0 ≤ b → b < 4294967296 → 0 ≤ a * b ∧ a * b ≤ 18446744065119617025 := by
    intro a b ha ha' hb hb'
    refine ⟨Int.mul_nonneg ha hb, ?_⟩
    have := Int.mul_le_mul (show a ≤ 4294967295 by omega) (show b ≤ 4294967295 by omega) hb (by omega)
    omega
  have e00 := b (a := x0) (b := y0) (by omega) (by omega) (by omega) (by omega)
  have e10 := b (a := x1) (b := y0) (by omega) (by omega) (by omega) (by omega)
  have e01 := b (a := x0) (b := y1) (by omega) (by omega) (by omega) (by omega)
  have e11 := b (a := x1) (b := y1) (by omega) (by omega) (by omega) (by omega)
  have ex : x = x1 * 4294967296 + x0 := by omega
  have ey : y = y1 * 4294967296 + y0 := by omega
  have exy : x * y = x1 * y1 * 18446744073709551616 + (x1 * y0 + x0 * y1) * 4294967296 + x0 * y0 := by
    rw [ex, ey]
    grind
  rw [exy]
  generalize x0 * y0 = p00 at *
  generalize x1 * y0 = p10 at *
  generalize x0 * y1 = p01 at *
  generalize x1 * y1 = p11 at *
  clear exy ex ey h1 h2 h3 h4
  omega

/-! ### how long a word is -/
def blen (x : Int) : Int := if x ≤ 0 then 0 else (Nat.log2 x.toNat : Int) + 1

theorem blen_iff {x : Int} (hx : 0 < x) (n : Nat) : blen x = (n : Int) + 1 ↔ (2 : Int) ^ n ≤ x ∧ x < 2 ^ (n + 1) := by
  unfold blen
  rw [if_neg (by omega)]
  have h := Nat.log2_eq_iff (n := x.toNat) (k := n) (by omega)
  have e1 : ((2 ^ n : Nat) : Int) = (2 : Int) ^ n := by push_cast; rfl
  have e2 : ((2 ^ (n + 1) : Nat) : Int) = (2 : Int) ^ (n + 1) := by push_cast; rfl
  rw [← e1, ← e2]
  constructor
  · intro h1
    have := h.1 (by omega)
    omega
  · rintro ⟨h1, h2⟩
    have := h.2 ⟨by omega, by omega⟩
    omega

theorem blen_pos {x : Int} (hx : 0 < x) : ∃ n : Nat, blen x = (n : Int) + 1 ∧ (2 : Int) ^ n ≤ x ∧ x < 2 ^ (n + 1) := by
  refine ⟨Nat.log2 x.toNat, ?_, ?_⟩
  · unfold blen; rw [if_neg (by omega)]
  · exact (blen_iff hx _).1 (by unfold blen; rw [if_neg (by omega)])

theorem blen_zero : blen 0 = 0 := rfl

theorem blen_div {x : Int} (k : Nat) (h : (2 : Int) ^ k ≤ x) : blen (x / 2 ^ k) = blen x - k := by
  have hk : (0 : Int) < 2 ^ k := Int.pow_pos (by omega)
  obtain ⟨n, h1, h2, h3⟩ := blen_pos (x := x) (by omega)
  have hkn : k ≤ n := by
    rcases Nat.lt_or_ge n k with h4 | h4
    · exfalso
      have : (2 : Int) ^ (n + 1) ≤ 2 ^ k := by
        have := Nat.pow_le_pow_right (n := 2) (by omega) h4
        exact_mod_cast this
      omega
    · exact h4
  have hq : 0 < x / 2 ^ k := by
    have := Int.le_ediv_of_mul_le hk (show 1 * 2 ^ k ≤ x by omega)
    omega
  have : blen (x / 2 ^ k) = ((n - k : Nat) : Int) + 1 := by
    rw [blen_iff hq]
    have e1 : (2 : Int) ^ n = 2 ^ (n - k) * 2 ^ k := by rw [← Int.pow_add]; congr 1; omega
    have e2 : (2 : Int) ^ (n + 1) = 2 ^ (n - k + 1) * 2 ^ k := by rw [← Int.pow_add]; congr 1; omega
    constructor
    · exact (Int.le_ediv_iff_mul_le hk).2 (by rw [← e1]; exact h2)
    · exact (Int.ediv_lt_iff_lt_mul hk).2 (by rw [← e2]; exact h3)
  omega

theorem blen_le {x : Int} (k : Nat) (h : x < 2 ^ k) : blen x ≤ k := by
  by_cases hx : x ≤ 0
  · unfold blen; rw [if_pos hx]; omega
  · obtain ⟨n, h1, h2, h3⟩ := blen_pos (x := x) (by omega)
    have : n < k := by
      rcases Nat.lt_or_ge n k with h4 | h4
      · exact h4
      · exfalso
        have : (2 : Int) ^ k ≤ 2 ^ n := by
          have := Nat.pow_le_pow_right (n := 2) (by omega) h4
          exact_mod_cast this
        omega
    omega
theorem blen_nonneg (x : Int) : 0 ≤ blen x := by
  unfold blen; split <;> omega

theorem len8_all : (List.range 256).all (fun i => (([0, 1, 2, 2, 3, 3, 3, 3, 4, 4, 4, 4, 4, 4, 4, 4, 5, 5, 5, 5, 5, 5, 5, 5, 5, 5, 5, 5, 5, 5, 5, 5, 6, 6, 6, 6, 6, 6, 6, 6, 6, 6, 6, 6, 6, 6, 6, 6, 6, 6, 6, 6, 6, 6, 6, 6, 6, 6, 6, 6, 6, 6, 6, 6, 7, 7, 7, 7, 7, 7, 7, 7, 7, 7, 7, 7, 7, 7, 7, 7, 7, 7, 7, 7, 7, 7, 7, 7, 7, 7, 7, 7, 7, 7, 7, 7, 7, 7, 7, 7, 7, 7, 7, 7, 7, 7, 7, 7, 7, 7, 7, 7, 7, 7, 7, 7, 7, 7, 7, 7, 7, 7, 7, 7, 7, 7, 7, 7, 8, 8, 8, 8, 8, 8, 8, 8, 8, 8, 8, 8, 8, 8, 8, 8, 8, 8, 8, 8, 8, 8, 8, 8, 8, 8, 8, 8, 8, 8, 8, 8, 8, 8, 8, 8, 8, 8, 8, 8, 8, 8, 8, 8, 8, 8, 8, 8, 8, 8, 8, 8, 8, 8, 8, 8, 8, 8, 8, 8, 8, 8, 8, 8, 8, 8, 8, 8, 8, 8, 8, 8, 8, 8, 8, 8, 8, 8, 8, 8, 8, 8, 8, 8, 8, 8, 8, 8, 8, 8, 8, 8, 8, 8, 8, 8, 8, 8, 8, 8, 8, 8, 8, 8, 8, 8, 8, 8, 8, 8, 8, 8, 8, 8, 8, 8, 8, 8, 8, 8, 8, 8, 8, 8, 8, 8, 8, 8] : List UInt8).getD i 0).toNat == (blen i).toNat) = true := by decide +kernel
theorem len8_at (i : Int) (h0 : 0 ≤ i) (h1 : i < 256) : (((([0, 1, 2, 2, 3, 3, 3, 3, 4, 4, 4, 4, 4, 4, 4, 4, 5, 5, 5, 5, 5, 5, 5, 5, 5, 5, 5, 5, 5, 5, 5, 5, 6, 6, 6, 6, 6, 6, 6, 6, 6, 6, 6, 6, 6, 6, 6, 6, 6, 6, 6, 6, 6, 6, 6, 6, 6, 6, 6, 6, 6, 6, 6, 6, 7, 7, 7, 7, 7, 7, 7, 7, 7, 7, 7, 7, 7, 7, 7, 7, 7, 7, 7, 7, 7, 7, 7, 7, 7, 7, 7, 7, 7, 7, 7, 7, 7, 7, 7, 7, 7, 7, 7, 7, 7, 7, 7, 7, 7, 7, 7, 7, 7, 7, 7, 7, 7, 7, 7, 7, 7, 7, 7, 7, 7, 7, 7, 7, 8, 8, 8, 8, 8, 8, 8, 8, 8, 8, 8, 8, 8, 8, 8, 8, 8, 8, 8, 8, 8, 8, 8, 8, 8, 8, 8, 8, 8, 8, 8, 8, 8, 8, 8, 8, 8, 8, 8, 8, 8, 8, 8, 8, 8, 8, 8, 8, 8, 8, 8, 8, 8, 8, 8, 8, 8, 8, 8, 8, 8, 8, 8, 8, 8, 8, 8, 8, 8, 8, 8, 8, 8, 8, 8, 8, 8, 8, 8, 8, 8, 8, 8, 8, 8, 8, 8, 8, 8, 8, 8, 8, 8, 8, 8, 8, 8, 8, 8, 8, 8, 8, 8, 8, 8, 8, 8, 8, 8, 8, 8, 8, 8, 8, 8, 8, 8, 8, 8, 8, 8, 8, 8, 8, 8, 8, 8, 8] : List UInt8).getD i.toNat 0).toNat : Nat) : Int) = blen i := by
  have := List.all_eq_true.1 len8_all i.toNat (List.mem_range.2 (by omega))
  have h2 := blen_nonneg i
  rw [beq_iff_eq] at this
  rw [this, Int.toNat_of_nonneg h0]
  omega

theorem getD_lit (l : List UInt8) (n : Nat) : (⟨⟨l⟩⟩ : ByteArray).data.getD n 0 = l.getD n 0 := by
  simp only [Array.getD_eq_getD_getElem?, List.getElem?_toArray, List.getD_eq_getElem?_getD]

theorem len8_str {L : ByteArray} (h : (⟨⟨[0, 1, 2, 2, 3, 3, 3, 3, 4, 4, 4, 4, 4, 4, 4, 4, 5, 5, 5, 5, 5, 5, 5, 5, 5, 5, 5, 5, 5, 5, 5, 5, 6, 6, 6, 6, 6, 6, 6, 6, 6, 6, 6, 6, 6, 6, 6, 6, 6, 6, 6, 6, 6, 6, 6, 6, 6, 6, 6, 6, 6, 6, 6, 6, 7, 7, 7, 7, 7, 7, 7, 7, 7, 7, 7, 7, 7, 7, 7, 7, 7, 7, 7, 7, 7, 7, 7, 7, 7, 7, 7, 7, 7, 7, 7, 7, 7, 7, 7, 7, 7, 7, 7, 7, 7, 7, 7, 7, 7, 7, 7, 7, 7, 7, 7, 7, 7, 7, 7, 7, 7, 7, 7, 7, 7, 7, 7, 7, 8, 8, 8, 8, 8, 8, 8, 8, 8, 8, 8, 8, 8, 8, 8, 8, 8, 8, 8, 8, 8, 8, 8, 8, 8, 8, 8, 8, 8, 8, 8, 8, 8, 8, 8, 8, 8, 8, 8, 8, 8, 8, 8, 8, 8, 8, 8, 8, 8, 8, 8, 8, 8, 8, 8, 8, 8, 8, 8, 8, 8, 8, 8, 8, 8, 8, 8, 8, 8, 8, 8, 8, 8, 8, 8, 8, 8, 8, 8, 8, 8, 8, 8, 8, 8, 8, 8, 8, 8, 8, 8, 8, 8, 8, 8, 8, 8, 8, 8, 8, 8, 8, 8, 8, 8, 8, 8, 8, 8, 8, 8, 8, 8, 8, 8, 8, 8, 8, 8, 8, 8, 8, 8, 8, 8, 8, 8, 8]⟩⟩ : ByteArray) = L) : L.size = 256 ∧ ∀ i : Int, 0 ≤ i → i < 256 → (((L.data.getD (i % 256).toNat 0).toNat : Nat) : Int) = blen i := by
  subst h
  refine ⟨by decide +kernel, fun i h0 h1 => ?_⟩
  rw [Int.emod_eq_of_lt h0 h1, ← len8_at i h0 h1, getD_lit]

theorem len32 {x y : Int} (h : 4294967296 ≤ x) (hy : y = x / 4294967296) : blen y = blen x - 32 := by subst hy; exact blen_div 32 h
theorem len16 {x y : Int} (h : 65536 ≤ x) (hy : y = x / 65536) : blen y = blen x - 16 := by subst hy; exact blen_div 16 h
theorem len8 {x y : Int} (h : 256 ≤ x) (hy : y = x / 256) : blen y = blen x - 8 := by subst hy; exact blen_div 8 h
end Go.Proofs.Ytincnfjihffllaa.Ev

/- Contracts: words of 64 bits. Printed by gen.py out of C3.spec. -/
namespace Go.Proofs.Ytincnfjihffllaa.Ev
open Go Go.Proofs
set_option linter.unusedVariables false
set_option linter.unusedSimpArgs false

theorem c_Mul64 (x : Int) (y : Int) (hx : 0 ≤ x) (hx' : x < 18446744073709551616) (hy : 0 ≤ y) (hy' : y < 18446744073709551616) : ∃ t : Int × Int, t = (x * y / 18446744073709551616, x * y % 18446744073709551616) ∧ CallsA Try.prog 168 [.int .u64 (.s x), .int .u64 (.s y)] (.tup [.int .u64 (.s t.1), .int .u64 (.s t.2)]) := by
  refine ⟨_, rfl, ?_⟩
  generalize hr : (x * y / 18446744073709551616, x * y % 18446744073709551616) = r
  refine callsA_of hG hm Try.func168 (by kernel_rfl) ?_
  intro E hE lp hl
  cbv
  repeat' (first
    | (refine E_br hE (fun h => ?_) (fun h => ?_) <;> cbv)
    | (refine E_nm hE (fun v hv => ?_); cbv)
    | fail)
  all_goals (subst hE; subst hr)
  all_goals (try simp only [realE, cmp_eql, cmp_neq, cmp_lss, cmp_leq, cmp_gtr, cmp_geq, intBinR, decide_eq_true_eq, decide_eq_false_iff_not, SI.val, SB.val, Num.eta, Iv.eta] at *)
  all_goals (simp only [and_32', shr32] at *)
  all_goals (simp only [wu64] at *)
  rename_i x0 x1 y0 y1 w0 t w1 w2 w1' hi _ _ _ _ _ _ _ _ _ _
  exact ⟨mul64 (x0 := x0) (x1 := x1) (y0 := y0) (y1 := y1) (w0 := w0) (t := t) (w1 := w1) (w2 := w2) (w1' := w1') hx hx' hy hy' (by assumption) (by assumption) (by assumption) (by assumption) (by assumption) (by assumption) (by assumption) (by assumption) (by assumption) (by assumption), by assumption, trivial⟩

theorem c_Len64 (x : Int) (hx : 0 ≤ x) (hx' : x < 18446744073709551616) : ∃ t : Int, t = blen x ∧ CallsA Try.prog 163 [.int .u64 (.s x)] (.int .i64 (.s t)) := by
  refine ⟨_, rfl, ?_⟩
  generalize hr : blen x = r
  refine callsA_of hG hm Try.func163 (by kernel_rfl) ?_
  intro E hE lp hl
  cbv
  repeat' (first
    | (refine E_br hE (fun h => ?_) (fun h => ?_) <;> cbv)
    | (refine E_nm hE (fun v hv => ?_); cbv)
    | fail)
  all_goals (try (generalize hL : (⟨⟨[0, 1, 2, 2, 3, 3, 3, 3, 4, 4, 4, 4, 4, 4, 4, 4, 5, 5, 5, 5, 5, 5, 5, 5, 5, 5, 5, 5, 5, 5, 5, 5, 6, 6, 6, 6, 6, 6, 6, 6, 6, 6, 6, 6, 6, 6, 6, 6, 6, 6, 6, 6, 6, 6, 6, 6, 6, 6, 6, 6, 6, 6, 6, 6, 7, 7, 7, 7, 7, 7, 7, 7, 7, 7, 7, 7, 7, 7, 7, 7, 7, 7, 7, 7, 7, 7, 7, 7, 7, 7, 7, 7, 7, 7, 7, 7, 7, 7, 7, 7, 7, 7, 7, 7, 7, 7, 7, 7, 7, 7, 7, 7, 7, 7, 7, 7, 7, 7, 7, 7, 7, 7, 7, 7, 7, 7, 7, 7, 8, 8, 8, 8, 8, 8, 8, 8, 8, 8, 8, 8, 8, 8, 8, 8, 8, 8, 8, 8, 8, 8, 8, 8, 8, 8, 8, 8, 8, 8, 8, 8, 8, 8, 8, 8, 8, 8, 8, 8, 8, 8, 8, 8, 8, 8, 8, 8, 8, 8, 8, 8, 8, 8, 8, 8, 8, 8, 8, 8, 8, 8, 8, 8, 8, 8, 8, 8, 8, 8, 8, 8, 8, 8, 8, 8, 8, 8, 8, 8, 8, 8, 8, 8, 8, 8, 8, 8, 8, 8, 8, 8, 8, 8, 8, 8, 8, 8, 8, 8, 8, 8, 8, 8, 8, 8, 8, 8, 8, 8, 8, 8, 8, 8, 8, 8, 8, 8, 8, 8, 8, 8, 8, 8, 8, 8, 8, 8]⟩⟩ : ByteArray) = L at *; replace hL := len8_str hL; obtain ⟨hL1, hL2⟩ := hL))
  all_goals (subst hE; subst hr)
  all_goals (try simp only [realE, cmp_eql, cmp_neq, cmp_lss, cmp_leq, cmp_gtr, cmp_geq, intBinR, decide_eq_true_eq, decide_eq_false_iff_not, SI.val, SB.val, Num.eta, Iv.eta] at *)
  all_goals (simp only [shr8, shr16, shr32, wu8, wi64] at *)
  all_goals (try omega)
  all_goals (try rw [hL2 _ (by omega) (by omega)] at hv)
  all_goals (have b1 := blen_nonneg x; have b2 := blen_le 64 (x := x) (by omega))
  all_goals (try have s1 := len32 ‹(4294967296 : Int) ≤ _› ‹_ = _ / (4294967296 : Int)›)
  all_goals (try have s2 := len16 ‹(65536 : Int) ≤ _› ‹_ = _ / (65536 : Int)›)
  all_goals (try have s3 := len8 ‹(256 : Int) ≤ _› ‹_ = _ / (256 : Int)›)
  all_goals omega

theorem c_LZ64 (x : Int) (hx : 0 ≤ x) (hx' : x < 18446744073709551616) : ∃ t : Int, t = 64 - blen x ∧ CallsA Try.prog 93 [.int .u64 (.s x)] (.int .i64 (.s t)) := by
  refine ⟨_, rfl, ?_⟩
  generalize hr : 64 - blen x = r
  refine callsA_of hG hm Try.func93 (by kernel_rfl) ?_
  intro E hE lp hl
  cbv
  repeat' (first
    | (refine E_br hE (fun h => ?_) (fun h => ?_) <;> cbv)
    | (refine E_nm hE (fun v hv => ?_); cbv)
    | (apply E_callX hE (c_Len64 _ ?_ ?_); (case hf => rfl); (case hc => (cbv <;> trivial)); (case hle => (repeat' (first | exact u_nil | apply u_cons | apply u2_agg | exact u2_int | exact u1_int | exact u2_bool | exact u1_bool | exact u2_sli | exact u1_sli | exact u2_s0 | exact u1_s0))); all_goals (first | (intro t ht; cbv) | (subst hE; (try simp only [realE, cmp_eql, cmp_neq, cmp_lss, cmp_leq, cmp_gtr, cmp_geq, intBinR, decide_eq_true_eq, decide_eq_false_iff_not, SI.val, SB.val, Num.eta, Iv.eta] at *); first | assumption | omega)))
    | (apply E_pcallX hE (c_Len64 _ ?_ ?_); (case hm => rfl); (case hle => (repeat' (first | exact u_nil | apply u_cons | apply u2_agg | exact u2_int | exact u1_int | exact u2_bool | exact u1_bool | exact u2_sli | exact u1_sli | exact u2_s0 | exact u1_s0))); all_goals (first | (intro t ht; cbv) | (subst hE; (try simp only [realE, cmp_eql, cmp_neq, cmp_lss, cmp_leq, cmp_gtr, cmp_geq, intBinR, decide_eq_true_eq, decide_eq_false_iff_not, SI.val, SB.val, Num.eta, Iv.eta] at *); first | assumption | omega)))
    | fail)
  all_goals (subst hE; subst hr)
  all_goals (try simp only [realE, cmp_eql, cmp_neq, cmp_lss, cmp_leq, cmp_gtr, cmp_geq, intBinR, decide_eq_true_eq, decide_eq_false_iff_not, SI.val, SB.val, Num.eta, Iv.eta] at *)
  all_goals (try simp only [wi64] at *)
  all_goals (have b1 := blen_nonneg x; have b2 := blen_le 64 (x := x) (by omega); omega)

end Go.Proofs.Ytincnfjihffllaa.Ev

/- The product of two numbers: plain Lean. -/
namespace Go.Proofs.Ytincnfjihffllaa.Ev
open Go

theorem or_bit {h c : Int} (h0 : 0 ≤ h) (h1 : h < 9223372036854775808) (c0 : 0 ≤ c) (c1 : c < 2) :
    IntKind.u64.wrap ((BitVec.ofInt IntKind.u64.bits (IntKind.u64.wrap (h * 2)) ||| BitVec.ofInt IntKind.u64.bits c).toNat : Int) = h * 2 + c := by
  have e1 : IntKind.u64.wrap (h * 2) = h * 2 := by rw [wu64]; omega
  rw [e1]
  show IntKind.u64.wrap ((BitVec.ofInt 64 (h * 2) ||| BitVec.ofInt 64 c).toNat : Int) = _
  rw [BitVec.toNat_or]
  have a1 : (BitVec.ofInt 64 (h * 2)).toNat = h.toNat <<< 1 := by
    have := ofInt_toNat (h * 2)
    rw [Nat.shiftLeft_eq]
    omega
  have a2 : (BitVec.ofInt 64 c).toNat = c.toNat := by
    have := ofInt_toNat c
    omega
  rw [a1, a2, ← Nat.shiftLeft_add_eq_or_of_lt (by omega), Nat.shiftLeft_eq, wu64]
  omega

/-- of a word -/
def Num.ok (n : Num) : Prop := 0 ≤ n.m ∧ n.m < 18446744073709551616

theorem Num.zero_ok : Num.zero.ok := by unfold Num.ok Num.zero; decide
theorem Num.inf_ok (b : Bool) : (Num.inf b).ok := ⟨by simp [Num.inf], by simp [Num.inf]⟩
theorem Num.fair_ok {n : Num} (h : n.ok) : n.fair.ok := by
  unfold Num.fair; split
  · exact h
  · exact Num.zero_ok

/-- what may be: nought, finite, infinite -/
theorem Num.may_cases {n : Num} (h : n.may = true) : n = Num.zero ∨ (n.kind = 1 ∧ 9223372036854775808 ≤ n.m ∧ -1048576 ≤ n.e ∧ n.e ≤ 1048576) ∨ (n = Num.inf n.neg) := by
  unfold Num.may at h
  split at h
  · exact .inl (by simpa using h)
  · split at h
    · rename_i h1
      simp only [Bool.and_eq_true, decide_eq_true_eq] at h
      exact .inr (.inl ⟨h1, h.1.1, h.1.2, h.2⟩)
    · split at h
      · rename_i h1
        simp only [Bool.and_eq_true, decide_eq_true_eq] at h
        exact .inr (.inr (by rw [Num.eq_iff]; simp [Num.inf, h1, h.1, h.2]))
      · cases h

theorem Num.fair_may (n : Num) : n.fair.may = true := by
  unfold Num.fair; split
  · assumption
  · decide
theorem Num.fair_of_may {n : Num} (h : n.may = true) : n.fair = n := by unfold Num.fair; rw [if_pos h]
theorem Num.fair_fair (n : Num) : n.fair.fair = n.fair := Num.fair_of_may n.fair_may

/-- the product, of finite ones -/
def Num.mulF (a b : Num) (up : Bool) : Num :=
  if a.m * b.m < 170141183460469231731687303715884105728 then Num.grow (a.neg != b.neg) (a.m * b.m / 9223372036854775808) (a.e + b.e + 63) (decide (a.m * b.m % 9223372036854775808 ≠ 0)) (up != (a.neg != b.neg))
  else Num.grow (a.neg != b.neg) (a.m * b.m / 18446744073709551616) (a.e + b.e + 64) (decide (a.m * b.m % 18446744073709551616 ≠ 0)) (up != (a.neg != b.neg))

def Num.mul (a b : Num) (up : Bool) : Num :=
  if a.fair.kind = 0 ∨ b.fair.kind = 0 then Num.zero else if a.fair.kind = 2 ∨ b.fair.kind = 2 then Num.inf (a.fair.neg != b.fair.neg) else Num.mulF a.fair b.fair up

theorem Num.fin_of {n : Num} (h0 : n.fair.kind ≠ 0) (h2 : n.fair.kind ≠ 2) : n.fair.kind = 1 ∧ 9223372036854775808 ≤ n.fair.m ∧ -1048576 ≤ n.fair.e ∧ n.fair.e ≤ 1048576 := by
  rcases Num.may_cases n.fair_may with h | h | h
  · rw [h] at h0; exact absurd rfl h0
  · exact h
  · rw [h] at h2; exact absurd rfl h2

theorem Num.fin {t r : Num} (h : t = r) : t.kind = r.kind ∧ t.neg = r.neg ∧ t.m = r.m ∧ t.e = r.e ∧ True := by
  subst h; exact ⟨rfl, rfl, rfl, rfl, trivial⟩

theorem Num.mul_lo {A B : Num} {up : Bool} (hA : A.ok) (hB : B.ok) (fA : -1048576 ≤ A.e ∧ A.e ≤ 1048576) (fB : -1048576 ≤ B.e ∧ B.e ≤ 1048576) (h : A.m * B.m / 18446744073709551616 < 9223372036854775808) :
    Num.grow (A.neg != B.neg) (IntKind.u64.wrap ((BitVec.ofInt IntKind.u64.bits (IntKind.u64.wrap (A.m * B.m / 18446744073709551616 * 2 ^ min (Int.toNat 1) IntKind.u64.bits)) |||
      BitVec.ofInt IntKind.u64.bits ((A.m * B.m % 18446744073709551616).fdiv (2 ^ min (Int.toNat 63) IntKind.u64.bits))).toNat : Int))
      (IntKind.i64.wrap (IntKind.i64.wrap (IntKind.i64.wrap (A.e + B.e) + 64) - 1)) (decide (IntKind.u64.wrap (A.m * B.m % 18446744073709551616 * 2 ^ min (Int.toNat 1) IntKind.u64.bits) ≠ 0)) (up != (A.neg != B.neg)) = Num.mulF A B up := by
  have hp : 0 ≤ A.m * B.m := Int.mul_nonneg hA.1 hB.1
  unfold Num.mulF
  generalize A.m * B.m = p at *
  rw [if_pos (by omega), shl1, shr63, or_bit (by omega) h (by omega) (by omega)]
  have e1 : p / 18446744073709551616 * 2 + p % 18446744073709551616 / 9223372036854775808 = p / 9223372036854775808 := by omega
  have e2 : IntKind.i64.wrap (IntKind.i64.wrap (IntKind.i64.wrap (A.e + B.e) + 64) - 1) = A.e + B.e + 63 := by
    simp only [wi64]; omega
  have e3 : decide (IntKind.u64.wrap (p % 18446744073709551616 * 2) ≠ 0) = decide (p % 9223372036854775808 ≠ 0) := by
    rw [wu64]
    apply decide_eq_decide.2
    omega
  rw [e1, e2, e3]

theorem Num.mul_hi {A B : Num} {up : Bool} (hA : A.ok) (hB : B.ok) (fA : -1048576 ≤ A.e ∧ A.e ≤ 1048576) (fB : -1048576 ≤ B.e ∧ B.e ≤ 1048576) (h : ¬ A.m * B.m / 18446744073709551616 < 9223372036854775808) :
    Num.grow (A.neg != B.neg) (A.m * B.m / 18446744073709551616) (IntKind.i64.wrap (IntKind.i64.wrap (A.e + B.e) + 64)) (decide (A.m * B.m % 18446744073709551616 ≠ 0)) (up != (A.neg != B.neg)) = Num.mulF A B up := by
  have hp : 0 ≤ A.m * B.m := Int.mul_nonneg hA.1 hB.1
  unfold Num.mulF
  generalize A.m * B.m = p at *
  rw [if_neg (by omega)]
  have e2 : IntKind.i64.wrap (IntKind.i64.wrap (A.e + B.e) + 64) = A.e + B.e + 64 := by
    simp only [wi64]; omega
  rw [e2]
end Go.Proofs.Ytincnfjihffllaa.Ev

/- Contracts: the product. Printed by gen.py out of C4.spec. -/
namespace Go.Proofs.Ytincnfjihffllaa.Ev
open Go Go.Proofs
set_option linter.unusedVariables false
set_option linter.unusedSimpArgs false

theorem c_arMul (a : Num) (b : Num) (up : Bool) (ha : a.ok) (hb : b.ok) : ∃ t : Num, t = a.mul b up ∧ CallsA Try.prog 106 [a.av, b.av, .bool (.s up)] (t.av) := by
  refine ⟨_, rfl, ?_⟩
  generalize hr : a.mul b up = r
  refine callsA_of hG hm Try.func106 (by kernel_rfl) ?_
  intro E hE lp hl
  cbv
  repeat' (first
    | (refine E_br hE (fun h => ?_) (fun h => ?_) <;> cbv)
    | (refine E_nm hE (fun v hv => ?_); cbv)
    | (apply E_callX hE (c_arFair ⟨_, _, _, _⟩); (case hf => rfl); (case hc => (cbv <;> trivial)); (case hle => (repeat' (first | exact u_nil | apply u_cons | apply u2_agg | exact u2_int | exact u1_int | exact u2_bool | exact u1_bool | exact u2_sli | exact u1_sli | exact u2_s0 | exact u1_s0))); intro t ht; cbv)
    | (apply E_pcallX hE (c_arFair ⟨_, _, _, _⟩); (case hm => rfl); (case hle => (repeat' (first | exact u_nil | apply u_cons | apply u2_agg | exact u2_int | exact u1_int | exact u2_bool | exact u1_bool | exact u2_sli | exact u1_sli | exact u2_s0 | exact u1_s0))); intro t ht; cbv)
    | (apply E_callX hE (c_Inf _); (case hf => rfl); (case hc => (cbv <;> trivial)); (case hle => (repeat' (first | exact u_nil | apply u_cons | apply u2_agg | exact u2_int | exact u1_int | exact u2_bool | exact u1_bool | exact u2_sli | exact u1_sli | exact u2_s0 | exact u1_s0))); intro t ht; cbv)
    | (apply E_pcallX hE (c_Inf _); (case hm => rfl); (case hle => (repeat' (first | exact u_nil | apply u_cons | apply u2_agg | exact u2_int | exact u1_int | exact u2_bool | exact u1_bool | exact u2_sli | exact u1_sli | exact u2_s0 | exact u1_s0))); intro t ht; cbv)
    | (apply E_callX hE (c_Mul64 _ _ ?_ ?_ ?_ ?_); (case hf => rfl); (case hc => (cbv <;> trivial)); (case hle => (repeat' (first | exact u_nil | apply u_cons | apply u2_agg | exact u2_int | exact u1_int | exact u2_bool | exact u1_bool | exact u2_sli | exact u1_sli | exact u2_s0 | exact u1_s0))); all_goals (first | (intro t ht; cbv) | (subst hE; (try simp only [realE, cmp_eql, cmp_neq, cmp_lss, cmp_leq, cmp_gtr, cmp_geq, intBinR, decide_eq_true_eq, decide_eq_false_iff_not, SI.val, SB.val, Num.eta, Iv.eta] at *); (subst_vars; first | exact (Num.fair_ok ha).1 | exact (Num.fair_ok ha).2 | exact (Num.fair_ok hb).1 | exact (Num.fair_ok hb).2))))
    | (apply E_pcallX hE (c_Mul64 _ _ ?_ ?_ ?_ ?_); (case hm => rfl); (case hle => (repeat' (first | exact u_nil | apply u_cons | apply u2_agg | exact u2_int | exact u1_int | exact u2_bool | exact u1_bool | exact u2_sli | exact u1_sli | exact u2_s0 | exact u1_s0))); all_goals (first | (intro t ht; cbv) | (subst hE; (try simp only [realE, cmp_eql, cmp_neq, cmp_lss, cmp_leq, cmp_gtr, cmp_geq, intBinR, decide_eq_true_eq, decide_eq_false_iff_not, SI.val, SB.val, Num.eta, Iv.eta] at *); (subst_vars; first | exact (Num.fair_ok ha).1 | exact (Num.fair_ok ha).2 | exact (Num.fair_ok hb).1 | exact (Num.fair_ok hb).2))))
    | (apply E_callX hE (c_Grow _ _ _ _ _); (case hf => rfl); (case hc => (cbv <;> trivial)); (case hle => (repeat' (first | exact u_nil | apply u_cons | apply u2_agg | exact u2_int | exact u1_int | exact u2_bool | exact u1_bool | exact u2_sli | exact u1_sli | exact u2_s0 | exact u1_s0))); intro t ht; cbv)
    | (apply E_pcallX hE (c_Grow _ _ _ _ _); (case hm => rfl); (case hle => (repeat' (first | exact u_nil | apply u_cons | apply u2_agg | exact u2_int | exact u1_int | exact u2_bool | exact u1_bool | exact u2_sli | exact u1_sli | exact u2_s0 | exact u1_s0))); intro t ht; cbv)
    | fail)
  all_goals (subst hE; subst hr)
  all_goals (try simp only [realE, cmp_eql, cmp_neq, cmp_lss, cmp_leq, cmp_gtr, cmp_geq, intBinR, decide_eq_true_eq, decide_eq_false_iff_not, SI.val, SB.val, Num.eta, Iv.eta] at *)
  all_goals (refine Num.fin (t := ⟨_, _, _, _⟩) ?_; subst_vars; unfold Num.mul)
  case' hK.hK.refine_1 => rw [if_pos (.inl ‹_›)]; rfl
  case' hK.hK.refine_2.refine_1 => rw [if_pos (.inr ‹_›)]; rfl
  case' hK.hK.refine_2.refine_2.refine_1.hK => rw [if_neg (by simp_all), if_pos (.inl ‹_›)]; rfl
  case' hK.hK.refine_2.refine_2.refine_2.refine_1.hK => rw [if_neg (by simp_all), if_pos (.inr ‹_›)]; rfl
  all_goals (rw [if_neg (by simp_all), if_neg (by simp_all)])
  all_goals (have fa := Num.fin_of (n := a) ‹_› ‹_›; have fb := Num.fin_of (n := b) ‹_› ‹_›)
  all_goals (first | exact Num.mul_lo (Num.fair_ok ha) (Num.fair_ok hb) fa.2.2 fb.2.2 ‹_› | exact Num.mul_hi (Num.fair_ok ha) (Num.fair_ok hb) fa.2.2 fb.2.2 ‹_›)

end Go.Proofs.Ytincnfjihffllaa.Ev

/- What an argument that reads as data stands for: numbers and intervals. -/
namespace Go.Proofs.Ytincnfjihffllaa.Ev
open Go Go.ChangeShapes Go.WideShapes Go.RowKit
set_option linter.unusedVariables false
set_option maxRecDepth 100000

section
variable {H : Type} {enc : TypeId × Value → H} {w : World} {base : Nat} {spare : Nat → Bool} {held : Bool}

theorem wf_u64 {n : Int} (h : (Lit.int .u64 n).wf = true) : 0 ≤ n ∧ n < 18446744073709551616 := by
  simp only [Lit.wf, IntKind.min, IntKind.max, IntKind.signed, IntKind.bits, Bool.and_eq_true] at h
  have := h.1; have := h.2
  simp at *
  omega
theorem wf_i64 {n : Int} (h : (Lit.int .i64 n).wf = true) : -9223372036854775808 ≤ n ∧ n < 9223372036854775808 := by
  simp only [Lit.wf, IntKind.min, IntKind.max, IntKind.signed, IntKind.bits, Bool.and_eq_true] at h
  have := h.1; have := h.2
  simp at *
  omega

/-- a number's fields are of their words -/
def Num.wf (n : Num) : Prop := n.ok ∧ (-9223372036854775808 ≤ n.e ∧ n.e < 9223372036854775808) ∧ (-9223372036854775808 ≤ n.kind ∧ n.kind < 9223372036854775808)
def Num.vals (n : Num) : List Value := [.int .i64 n.kind, .bool n.neg, .int .u64 n.m, .int .i64 n.e]

theorem read_num {fuel : Nat} {cs : List Value} {x : DataW H × List MemPlace} (h : DataW.trod enc Try.prog w base spare held fuel 24 cs = some x) : ∃ n : Num, cs = n.vals ∧ n.wf := by
  obtain ⟨xs, m, rfl, _, hl, hxs, hf⟩ := DataW.trod_struct Try.underlying24 h
  rw [show Try.prog.cellsOf 24 = 4 by kernel_rfl] at hl
  obtain ⟨c0, c1, c2, c3, rfl⟩ : ∃ a b c d, cs = [a, b, c, d] := by
    rcases cs with _ | ⟨a, _ | ⟨b, _ | ⟨c, _ | ⟨d, _ | ⟨e, r⟩⟩⟩⟩⟩ <;> simp at hl
    exact ⟨a, b, c, d, rfl⟩
  have get : ∀ i, i < 4 → ∃ y, xs[i]? = some y := fun i hi => ⟨_, List.getElem?_eq_getElem (by rw [hxs]; exact hi)⟩
  obtain ⟨y0, e0⟩ := get 0 (by omega)
  obtain ⟨y1, e1⟩ := get 1 (by omega)
  obtain ⟨y2, e2⟩ := get 2 (by omega)
  obtain ⟨y3, e3⟩ := get 3 (by omega)
  have z3 : Try.prog.cellsOf 3 = 1 := by kernel_rfl
  have z4 : Try.prog.cellsOf 4 = 1 := by kernel_rfl
  have z22 : Try.prog.cellsOf 22 = 1 := by kernel_rfl
  have h0 : DataW.trod enc Try.prog w base spare held m 3 (([c0, c1, c2, c3].drop 0).take (Try.prog.cellsOf 3)) = some y0 := (hf 0 _ rfl).trans e0
  have h1 : DataW.trod enc Try.prog w base spare held m 4 (([c0, c1, c2, c3].drop 1).take (Try.prog.cellsOf 4)) = some y1 := (hf 1 _ rfl).trans e1
  have h2 : DataW.trod enc Try.prog w base spare held m 22 (([c0, c1, c2, c3].drop 2).take (Try.prog.cellsOf 22)) = some y2 := (hf 2 _ rfl).trans e2
  have h3 : DataW.trod enc Try.prog w base spare held m 3 (([c0, c1, c2, c3].drop 3).take (Try.prog.cellsOf 3)) = some y3 := (hf 3 _ rfl).trans e3
  rw [z3] at h0 h3
  rw [z4] at h1
  rw [z22] at h2
  obtain ⟨n0, q0, _, w0⟩ := DataW.trod_int Try.underlying3 h0
  obtain ⟨n1, q1, _⟩ := DataW.trod_bool Try.underlying4 h1
  obtain ⟨n2, q2, _, w2⟩ := DataW.trod_int Try.underlying22 h2
  obtain ⟨n3, q3, _, w3⟩ := DataW.trod_int Try.underlying3 h3
  refine ⟨⟨n0, n1, n2, n3⟩, ?_, wf_u64 w2, wf_i64 w3, wf_i64 w0⟩
  obtain ⟨rfl⟩ : c0 = _ := (List.cons.inj q0).1
  obtain ⟨rfl⟩ : c1 = _ := (List.cons.inj q1).1
  obtain ⟨rfl⟩ : c2 = _ := (List.cons.inj q2).1
  obtain ⟨rfl⟩ : c3 = _ := (List.cons.inj q3).1
  rfl

def Iv.vals (x : Iv) : List Value := .bool x.empty :: (x.lo.vals ++ x.hi.vals)

theorem read_iv {fuel : Nat} {cs : List Value} {x : DataW H × List MemPlace} (h : DataW.trod enc Try.prog w base spare held fuel 50 cs = some x) : ∃ v : Iv, cs = v.vals ∧ v.lo.wf ∧ v.hi.wf := by
  obtain ⟨xs, m, rfl, _, hl, hxs, hf⟩ := DataW.trod_struct Try.underlying50 h
  rw [show Try.prog.cellsOf 50 = 9 by kernel_rfl] at hl
  obtain ⟨c0, c1, c2, c3, c4, c5, c6, c7, c8, rfl⟩ : ∃ a b c d e f g i j, cs = [a, b, c, d, e, f, g, i, j] := by
    rcases cs with _ | ⟨a, _ | ⟨b, _ | ⟨c, _ | ⟨d, _ | ⟨e, _ | ⟨f, _ | ⟨g, _ | ⟨i, _ | ⟨j, _ | ⟨k, r⟩⟩⟩⟩⟩⟩⟩⟩⟩⟩ <;> simp at hl
    exact ⟨a, b, c, d, e, f, g, i, j, rfl⟩
  have get : ∀ i, i < 3 → ∃ y, xs[i]? = some y := fun i hi => ⟨_, List.getElem?_eq_getElem (by rw [hxs]; exact hi)⟩
  obtain ⟨y0, e0⟩ := get 0 (by omega)
  obtain ⟨y1, e1⟩ := get 1 (by omega)
  obtain ⟨y2, e2⟩ := get 2 (by omega)
  have z4 : Try.prog.cellsOf 4 = 1 := by kernel_rfl
  have z24 : Try.prog.cellsOf 24 = 4 := by kernel_rfl
  have h0 : DataW.trod enc Try.prog w base spare held m 4 (([c0, c1, c2, c3, c4, c5, c6, c7, c8].drop 0).take (Try.prog.cellsOf 4)) = some y0 := (hf 0 _ rfl).trans e0
  have h1 : DataW.trod enc Try.prog w base spare held m 24 (([c0, c1, c2, c3, c4, c5, c6, c7, c8].drop 1).take (Try.prog.cellsOf 24)) = some y1 := (hf 1 _ rfl).trans e1
  have h2 : DataW.trod enc Try.prog w base spare held m 24 (([c0, c1, c2, c3, c4, c5, c6, c7, c8].drop 5).take (Try.prog.cellsOf 24)) = some y2 := (hf 2 _ rfl).trans e2
  rw [z4] at h0
  rw [z24] at h1 h2
  obtain ⟨b, q0, _⟩ := DataW.trod_bool Try.underlying4 h0
  obtain ⟨lo, q1, w1⟩ := read_num h1
  obtain ⟨hi, q2, w2⟩ := read_num h2
  refine ⟨⟨b, lo, hi⟩, ?_, w1, w2⟩
  show _ = .bool b :: (lo.vals ++ hi.vals)
  rw [← q1, ← q2, show c0 = .bool b from (List.cons.inj q0).1]
  rfl

theorem ro_num (O : Nat → Prop) (w : World) (n : Num) (ys : Array Value) (h : ys.toList = n.vals) : RoV O w n.av (.agg ys) := by
  obtain ⟨l⟩ := ys
  dsimp only at h
  subst h
  refine .agg _ _ rfl (fun j c hj => ?_)
  match j, hj with
  | 0, hj => simp at hj; subst hj; exact .int _ _ _ rfl
  | 1, hj => simp at hj; subst hj; exact .bool _ _ rfl
  | 2, hj => simp at hj; subst hj; exact .int _ _ _ rfl
  | 3, hj => simp at hj; subst hj; exact .int _ _ _ rfl
  | j + 4, hj => simp at hj

theorem ro_iv (O : Nat → Prop) (w : World) (n : Iv) (ys : Array Value) (h : ys.toList = n.vals) : RoV O w n.av (.agg ys) := by
  obtain ⟨l⟩ := ys
  dsimp only at h
  subst h
  refine .agg _ _ rfl (fun j c hj => ?_)
  match j, hj with
  | 0, hj => simp at hj; subst hj; exact .bool _ _ rfl
  | 1, hj => simp at hj; subst hj; exact .int _ _ _ rfl
  | 2, hj => simp at hj; subst hj; exact .bool _ _ rfl
  | 3, hj => simp at hj; subst hj; exact .int _ _ _ rfl
  | 4, hj => simp at hj; subst hj; exact .int _ _ _ rfl
  | 5, hj => simp at hj; subst hj; exact .int _ _ _ rfl
  | 6, hj => simp at hj; subst hj; exact .bool _ _ rfl
  | 7, hj => simp at hj; subst hj; exact .int _ _ _ rfl
  | 8, hj => simp at hj; subst hj; exact .int _ _ _ rfl
  | j + 9, hj => simp at hj

theorem arg_num {r : Reach} {b0 : Nat} {v : Value} {d : DataW H} {ps : List MemPlace} (hval : Value.okWide Try.prog w r b0 24 v) (hd : DataW.Trod enc Try.prog w base spare held 24 v d ps) :
    ∃ n : Num, n.wf ∧ ∀ O w', RoV O w' n.av v := by
  obtain ⟨cs, rfl, _⟩ := okWide_struct Try.underlying24 hval
  obtain ⟨fuel, hf⟩ := hd
  obtain ⟨n, e, hw⟩ := read_num hf
  exact ⟨n, hw, fun O w' => ro_num O w' n cs e⟩
theorem arg_iv {r : Reach} {b0 : Nat} {v : Value} {d : DataW H} {ps : List MemPlace} (hval : Value.okWide Try.prog w r b0 50 v) (hd : DataW.Trod enc Try.prog w base spare held 50 v d ps) :
    ∃ n : Iv, n.lo.wf ∧ n.hi.wf ∧ ∀ O w', RoV O w' n.av v := by
  obtain ⟨cs, rfl, _⟩ := okWide_struct Try.underlying50 hval
  obtain ⟨fuel, hf⟩ := hd
  obtain ⟨n, e, hw⟩ := read_iv hf
  exact ⟨n, hw.1, hw.2, fun O w' => ro_iv O w' n cs e⟩
end
end Go.Proofs.Ytincnfjihffllaa.Ev

/- The least and the greatest of some numbers: plain Lean. -/
namespace Go.Proofs.Ytincnfjihffllaa.Ev
open Go

theorem wi64_succ {i n : Int} (h0 : 0 ≤ i) (h1 : i < n) (h2 : n < 9223372036854775808) : IntKind.i64.wrap (i + 1) = i + 1 := by
  rw [wi64]; omega

def Num.lesser (o n : Num) : Num := if n.cmp o < 0 then n.fair else o
def Num.least (l : List Num) : Num := l.foldl Num.lesser (Num.inf false)
def Num.leastTo (l : List Num) (i : Int) : Num := (l.take i.toNat).foldl Num.lesser (Num.inf false)
theorem Num.leastTo_zero (l : List Num) : Num.leastTo l 0 = Num.inf false := rfl
theorem Num.leastTo_all (l : List Num) : Num.leastTo l l.length = Num.least l := by simp [Num.leastTo, Num.least]
theorem Num.leastTo_succ (l : List Num) {i : Int} (h0 : 0 ≤ i) (h1 : i < l.length) : Num.leastTo l (i + 1) = Num.lesser (Num.leastTo l i) (l.getD i.toNat Num.zero) := by
  unfold Num.leastTo
  have : i.toNat < l.length := by omega
  have e : l.getD i.toNat Num.zero = l[i.toNat] := by simp [List.getD, List.getElem?_eq_getElem this]
  rw [e, show (i + 1).toNat = i.toNat + 1 by omega, List.take_add_one, List.getElem?_eq_getElem this, Option.toList_some, List.foldl_append]
  rfl
def Num.greater (o n : Num) : Num := if 0 < n.cmp o then n.fair else o
def Num.most (l : List Num) : Num := l.foldl Num.greater (Num.inf true)
def Num.mostTo (l : List Num) (i : Int) : Num := (l.take i.toNat).foldl Num.greater (Num.inf true)
theorem Num.mostTo_zero (l : List Num) : Num.mostTo l 0 = Num.inf true := rfl
theorem Num.mostTo_all (l : List Num) : Num.mostTo l l.length = Num.most l := by simp [Num.mostTo, Num.most]
theorem Num.mostTo_succ (l : List Num) {i : Int} (h0 : 0 ≤ i) (h1 : i < l.length) : Num.mostTo l (i + 1) = Num.greater (Num.mostTo l i) (l.getD i.toNat Num.zero) := by
  unfold Num.mostTo
  have : i.toNat < l.length := by omega
  have e : l.getD i.toNat Num.zero = l[i.toNat] := by simp [List.getD, List.getElem?_eq_getElem this]
  rw [e, show (i + 1).toNat = i.toNat + 1 by omega, List.take_add_one, List.getElem?_eq_getElem this, Option.toList_some, List.foldl_append]
  rfl
end Go.Proofs.Ytincnfjihffllaa.Ev

namespace Go.Proofs.Ytincnfjihffllaa.Ev
open Go Go.Proofs
set_option linter.unusedVariables false

theorem c_Least (l : List Num) (n : Int) (hn : n = l.length) (hb : n < 9223372036854775808) : ∃ t, t = Num.least l ∧ CallsA Try.prog 125 [.slc 4 (.s n) (fun i => Num.cells (l.getD i Num.zero))] (Num.av t) := by
  refine ⟨_, rfl, ?_⟩
  generalize hr : Num.least l = r
  obtain ⟨z, hz⟩ : ∃ z, z = Num.zero := ⟨_, rfl⟩
  rw [← hz]
  refine callsA_of hG hm Try.func125 (by kernel_rfl) ?_
  intro E hE lp hl
  cbv
  (apply E_callX hE (c_Inf _); (case hf => rfl); (case hc => (cbv <;> trivial)); (case hle => (repeat' (first | exact u_nil | apply u_cons | apply u2_agg | exact u2_int | exact u1_int | exact u2_bool | exact u1_bool | exact u2_sli | exact u1_sli | exact u2_s0 | exact u1_s0))); intro t ht; cbv)
  refine E_loopW hE hG hm hl (ι := Int × Num) (fun p => ⟨[(9, .int .i64 (.s p.1)), (8, .int .i64 (.s n)), (7, .slc 4 (.s n) (fun i => Num.cells (l.getD i z))), (3, .ptr 1 4 (.l 0) 0), (2, .ptr 0 4 (.l 0) 0)],
      [.rows true 4 [.int .i64 (.l 0), .bool (.l false), .int .u64 (.l 0), .int .i64 (.l 0)] [[.int .i64 (.l 0), .bool (.l false), .int .u64 (.l 0), .int .i64 (.l 0)]],
       .rows true 4 [.int .i64 (.l 0), .bool (.l false), .int .u64 (.l 0), .int .i64 (.l 0)] [Num.cells p.2]]⟩)
    (fun p => (n - p.1).toNat) (fun p => 0 ≤ p.1 ∧ p.1 ≤ n ∧ p.2 = Num.leastTo l p.1) (fun p => rfl) ⟨(0, t), ⟨Int.le_refl 0, (by show (0 : Int) ≤ n; rw [hn]; exact Int.natCast_nonneg _), ht⟩, stLe rfl ?_⟩ ?_
  · repeat' (first | exact t_nil | apply t_cons | exact u2_int | exact u2_ptr | exact u2_slc')
  rintro ⟨i, o⟩ ⟨h1, h2, h3⟩
  dsimp only at h1 h2 h3
  cbv
  repeat' (first
    | (refine E_br hE (fun h => ?_) (fun h => ?_) <;> cbv)
    | (refine E_nm hE (fun v hv => ?_); cbv)
    | (refine E_row hE (cell := Num.cells) (fun t ht => ?_); cbv)
    | (apply E_callX hE (c_Cmp ⟨_, _, _, _⟩ ⟨_, _, _, _⟩); (case hf => rfl); (case hc => (cbv <;> trivial)); (case hle => (repeat' (first | exact u_nil | apply u_cons | apply u2_agg | exact u2_int | exact u1_int | exact u2_bool | exact u1_bool | exact u2_sli | exact u1_sli | exact u2_s0 | exact u1_s0))); intro t ht; cbv)
    | (apply E_callX hE (c_fair ⟨_, _, _, _⟩); (case hf => rfl); (case hc => (cbv <;> trivial)); (case hle => (repeat' (first | exact u_nil | apply u_cons | apply u2_agg | exact u2_int | exact u1_int | exact u2_bool | exact u1_bool | exact u2_sli | exact u1_sli | exact u2_s0 | exact u1_s0))); intro t ht; cbv)
    | fail)
  all_goals (try (first
    | refine ⟨(E.bin .add .i64 i 1, t), ?_, ⟨?_, ?_, ?_⟩, stLeW rfl ⟨rfl, rfl, trivial⟩ ?_⟩
    | refine ⟨(E.bin .add .i64 i 1, o), ?_, ⟨?_, ?_, ?_⟩, stLeW rfl ⟨rfl, rfl, trivial⟩ ?_⟩))
  all_goals (try (refine w_cons ?_ rfl ?_; (repeat' (first | exact w_nil | refine w_cons ?_ rfl ?_ | exact u2_int | exact u2_ptr | exact u2_slc')); done))
  all_goals (subst hE; simp only [realE, cmp_lss, cmp_leq, intBinR, decide_eq_true_eq, decide_eq_false_iff_not, SI.val, SB.val, Num.eta] at *)
  all_goals (try rw [wi64_succ h1 ‹i < n› hb])
  all_goals (try omega)
  all_goals (replace hn : n = (l.length : Int) := hn)
  case hK.refine_2.refine_2 =>
    refine Num.fin (t := o) ?_
    have hi : i = n := by omega
    rw [← hr, h3, hi, hn, Num.leastTo_all]
  all_goals rw [Num.leastTo_succ l h1 (by omega), ← h3, ← hz, ← ‹_ = l.getD i.toNat z›]
  all_goals unfold Num.lesser
  all_goals (first | (rw [if_pos (by omega)]; assumption) | (rw [if_neg (by omega)]))

theorem c_Most (l : List Num) (n : Int) (hn : n = l.length) (hb : n < 9223372036854775808) : ∃ t, t = Num.most l ∧ CallsA Try.prog 126 [.slc 4 (.s n) (fun i => Num.cells (l.getD i Num.zero))] (Num.av t) := by
  refine ⟨_, rfl, ?_⟩
  generalize hr : Num.most l = r
  obtain ⟨z, hz⟩ : ∃ z, z = Num.zero := ⟨_, rfl⟩
  rw [← hz]
  refine callsA_of hG hm Try.func126 (by kernel_rfl) ?_
  intro E hE lp hl
  cbv
  (apply E_callX hE (c_Inf _); (case hf => rfl); (case hc => (cbv <;> trivial)); (case hle => (repeat' (first | exact u_nil | apply u_cons | apply u2_agg | exact u2_int | exact u1_int | exact u2_bool | exact u1_bool | exact u2_sli | exact u1_sli | exact u2_s0 | exact u1_s0))); intro t ht; cbv)
  refine E_loopW hE hG hm hl (ι := Int × Num) (fun p => ⟨[(9, .int .i64 (.s p.1)), (8, .int .i64 (.s n)), (7, .slc 4 (.s n) (fun i => Num.cells (l.getD i z))), (3, .ptr 1 4 (.l 0) 0), (2, .ptr 0 4 (.l 0) 0)],
      [.rows true 4 [.int .i64 (.l 0), .bool (.l false), .int .u64 (.l 0), .int .i64 (.l 0)] [[.int .i64 (.l 0), .bool (.l false), .int .u64 (.l 0), .int .i64 (.l 0)]],
       .rows true 4 [.int .i64 (.l 0), .bool (.l false), .int .u64 (.l 0), .int .i64 (.l 0)] [Num.cells p.2]]⟩)
    (fun p => (n - p.1).toNat) (fun p => 0 ≤ p.1 ∧ p.1 ≤ n ∧ p.2 = Num.mostTo l p.1) (fun p => rfl) ⟨(0, t), ⟨Int.le_refl 0, (by show (0 : Int) ≤ n; rw [hn]; exact Int.natCast_nonneg _), ht⟩, stLe rfl ?_⟩ ?_
  · repeat' (first | exact t_nil | apply t_cons | exact u2_int | exact u2_ptr | exact u2_slc')
  rintro ⟨i, o⟩ ⟨h1, h2, h3⟩
  dsimp only at h1 h2 h3
  cbv
  repeat' (first
    | (refine E_br hE (fun h => ?_) (fun h => ?_) <;> cbv)
    | (refine E_nm hE (fun v hv => ?_); cbv)
    | (refine E_row hE (cell := Num.cells) (fun t ht => ?_); cbv)
    | (apply E_callX hE (c_Cmp ⟨_, _, _, _⟩ ⟨_, _, _, _⟩); (case hf => rfl); (case hc => (cbv <;> trivial)); (case hle => (repeat' (first | exact u_nil | apply u_cons | apply u2_agg | exact u2_int | exact u1_int | exact u2_bool | exact u1_bool | exact u2_sli | exact u1_sli | exact u2_s0 | exact u1_s0))); intro t ht; cbv)
    | (apply E_callX hE (c_fair ⟨_, _, _, _⟩); (case hf => rfl); (case hc => (cbv <;> trivial)); (case hle => (repeat' (first | exact u_nil | apply u_cons | apply u2_agg | exact u2_int | exact u1_int | exact u2_bool | exact u1_bool | exact u2_sli | exact u1_sli | exact u2_s0 | exact u1_s0))); intro t ht; cbv)
    | fail)
  all_goals (try (first
    | refine ⟨(E.bin .add .i64 i 1, t), ?_, ⟨?_, ?_, ?_⟩, stLeW rfl ⟨rfl, rfl, trivial⟩ ?_⟩
    | refine ⟨(E.bin .add .i64 i 1, o), ?_, ⟨?_, ?_, ?_⟩, stLeW rfl ⟨rfl, rfl, trivial⟩ ?_⟩))
  all_goals (try (refine w_cons ?_ rfl ?_; (repeat' (first | exact w_nil | refine w_cons ?_ rfl ?_ | exact u2_int | exact u2_ptr | exact u2_slc')); done))
  all_goals (subst hE; simp only [realE, cmp_lss, cmp_leq, cmp_gtr, intBinR, decide_eq_true_eq, decide_eq_false_iff_not, SI.val, SB.val, Num.eta] at *)
  all_goals (try rw [wi64_succ h1 ‹i < n› hb])
  all_goals (try omega)
  all_goals (replace hn : n = (l.length : Int) := hn)
  case hK.refine_2.refine_2 =>
    refine Num.fin (t := o) ?_
    have hi : i = n := by omega
    rw [← hr, h3, hi, hn, Num.mostTo_all]
  all_goals rw [Num.mostTo_succ l h1 (by omega), ← h3, ← hz, ← ‹_ = l.getD i.toNat z›]
  all_goals unfold Num.greater
  all_goals (first | (rw [if_pos (by omega)]; assumption) | (rw [if_neg (by omega)]))

end Go.Proofs.Ytincnfjihffllaa.Ev

/- Is one of these intervals empty, or none at all? Plain Lean. -/
namespace Go.Proofs.Ytincnfjihffllaa.Ev
open Go

def Iv.cells (x : Iv) : List AV := [.bool (.s x.empty), .int .i64 (.s x.lo.kind), .bool (.s x.lo.neg), .int .u64 (.s x.lo.m), .int .i64 (.s x.lo.e),
  .int .i64 (.s x.hi.kind), .bool (.s x.hi.neg), .int .u64 (.s x.hi.m), .int .i64 (.s x.hi.e)]
def Iv.bad (x : Iv) : Bool := x.empty || !x.may
def Iv.anyBad (l : List Iv) : Bool := l.any Iv.bad
def Iv.badTo (l : List Iv) (i : Int) : Bool := (l.take i.toNat).any Iv.bad
theorem Iv.badTo_zero (l : List Iv) : Iv.badTo l 0 = false := rfl
theorem Iv.badTo_all (l : List Iv) : Iv.badTo l l.length = Iv.anyBad l := by simp [Iv.badTo, Iv.anyBad]
theorem Iv.badTo_succ (l : List Iv) {i : Int} (h0 : 0 ≤ i) (h1 : i < l.length) : Iv.badTo l (i + 1) = (Iv.badTo l i || Iv.bad (l.getD i.toNat Iv.none)) := by
  unfold Iv.badTo
  have : i.toNat < l.length := by omega
  have e : l.getD i.toNat Iv.none = l[i.toNat] := by simp [List.getD, List.getElem?_eq_getElem this]
  rw [e, show (i + 1).toNat = i.toNat + 1 by omega, List.take_add_one, List.getElem?_eq_getElem this, Option.toList_some, List.any_append]
  simp
theorem Iv.anyBad_at (l : List Iv) {i : Int} (h0 : 0 ≤ i) (h1 : i < l.length) (h : Iv.bad (l.getD i.toNat Iv.none) = true) : Iv.anyBad l = true := by
  have : i.toNat < l.length := by omega
  have e : l.getD i.toNat Iv.none = l[i.toNat] := by simp [List.getD, List.getElem?_eq_getElem this]
  unfold Iv.anyBad
  rw [List.any_eq_true]
  exact ⟨l[i.toNat], List.getElem_mem this, by rw [← e]; exact h⟩
end Go.Proofs.Ytincnfjihffllaa.Ev

/- Contracts: the operations on intervals. -/
namespace Go.Proofs.Ytincnfjihffllaa.Ev
open Go Go.Proofs
set_option linter.unusedVariables false
theorem c_none (l : List Iv) (n : Int) (hn : n = l.length) (hb : n < 9223372036854775808) : ∃ t, t = Iv.anyBad l ∧ CallsA Try.prog 104 [.slc 9 (.s n) (fun i => Iv.cells (l.getD i Iv.none))] (.bool (.s t)) := by
  refine ⟨_, rfl, ?_⟩
  generalize hr : Iv.anyBad l = r
  obtain ⟨z, hz⟩ : ∃ z, z = Iv.none := ⟨_, rfl⟩
  rw [← hz]
  refine callsA_of hG hm Try.func104 (by kernel_rfl) ?_
  intro E hE lp hl
  cbv
  refine E_loopW hE hG hm hl (ι := Int) (fun i => ⟨[(7, .int .i64 (.s i)), (6, .int .i64 (.s n)), (5, .slc 9 (.s n) (fun i => Iv.cells (l.getD i z))), (2, .bool (.l false))], []⟩)
    (fun i => (n - i).toNat) (fun i => 0 ≤ i ∧ i ≤ n ∧ Iv.badTo l i = false) (fun p => rfl) ⟨0, ⟨Int.le_refl 0, (by show (0 : Int) ≤ n; rw [hn]; exact Int.natCast_nonneg _), rfl⟩, stLe rfl ?_⟩ ?_
  · repeat' (first | exact t_nil | apply t_cons | exact u2_int | exact u2_ptr | exact u2_slc' | exact (rfl : sle2 (.bool (.l false)) (.bool (.l false))))
  rintro i ⟨h1, h2, h3⟩
  cbv
  repeat' (first
    | (refine E_br hE (fun h => ?_) (fun h => ?_) <;> cbv)
    | (refine E_nm hE (fun v hv => ?_); cbv)
    | (refine E_row hE (cell := Iv.cells) (fun t ht => ?_); cbv)
    | (apply E_callX hE (c_ivMay ⟨_, ⟨_, _, _, _⟩, ⟨_, _, _, _⟩⟩); (case hf => rfl); (case hc => (cbv <;> trivial)); (case hle => (repeat' (first | exact u_nil | apply u_cons | apply u2_agg | exact u2_int | exact u1_int | exact u2_bool | exact u1_bool | exact u2_sli | exact u1_sli | exact u2_s0 | exact u1_s0))); intro t ht; cbv)
    | fail)
  all_goals (try refine ⟨E.bin .add .i64 i 1, ?_, ⟨?_, ?_, ?_⟩, stLeW rfl trivial ?_⟩)
  all_goals (try (refine w_cons ?_ rfl ?_; (repeat' (first | exact w_nil | refine w_cons ?_ rfl ?_ | exact u2_int | exact u2_ptr | exact u2_slc' | exact (rfl : sle2 (.bool (.l false)) (.bool (.l false))))); done))
  all_goals (subst hE; simp only [realE, cmp_lss, cmp_leq, intBinR, decide_eq_true_eq, decide_eq_false_iff_not, SI.val, SB.val, Num.eta, Iv.eta] at *)
  all_goals (try rw [wi64_succ h1 ‹i < n› hb])
  all_goals (try omega)
  all_goals (replace hn : n = (l.length : Int) := hn)
  all_goals subst hz
  case refine_2.refine_2 =>
    have hi : i = (l.length : Int) := by omega
    rw [← hr, ← Iv.badTo_all, ← hi, h3]
  all_goals first
    | (rw [← hr]; refine (Iv.anyBad_at l h1 (by omega) ?_).symm; rw [← ‹_ = l.getD i.toNat Iv.none›]; unfold Iv.bad; simp_all; done)
    | (rw [Iv.badTo_succ l h1 (by omega), h3, ← ‹_ = l.getD i.toNat Iv.none›]; unfold Iv.bad; simp_all; done)

theorem slc4 {a b c d : Num} {z : Num} : sle2 (.slc 4 (.l 4) (fun i => getRow [a.cells, b.cells, c.cells, d.cells] (Int.ofNat i))) (.slc 4 (.s 4) (fun i => Num.cells ([a, b, c, d].getD i z))) := by
  have r : ∀ {x : Num}, sleL sle0 x.cells x.cells := ⟨⟨rfl, rfl⟩, rfl, ⟨rfl, rfl⟩, ⟨rfl, rfl⟩, trivial⟩
  refine ⟨rfl, rfl, fun i hi => ?_⟩
  match i, hi with
  | 0, _ => exact r
  | 1, _ => exact r
  | 2, _ => exact r
  | 3, _ => exact r
  | i + 4, hi => exact absurd hi (by simp [SI.val])
theorem c_corners (a b : Iv) (f : FuncId) (F : Num → Num → Bool → Num) (ok : Num → Prop) (hF : ∀ x y up, ok x → ok y → ∃ t, t = F x y up ∧ CallsA Try.prog f [x.av, y.av, .bool (.s up)] t.av)
    (h1 : ok a.lo) (h2 : ok a.hi) (h3 : ok b.lo) (h4 : ok b.hi) :
    ∃ t, t = Iv.make (Num.least [F a.lo b.lo false, F a.lo b.hi false, F a.hi b.lo false, F a.hi b.hi false]) (Num.most [F a.lo b.lo true, F a.lo b.hi true, F a.hi b.lo true, F a.hi b.hi true]) ∧
      CallsA Try.prog 105 [a.av, b.av, .fn f []] t.av := by
  refine ⟨_, rfl, ?_⟩
  generalize hr : Iv.make (Num.least [F a.lo b.lo false, F a.lo b.hi false, F a.hi b.lo false, F a.hi b.hi false]) (Num.most [F a.lo b.lo true, F a.lo b.hi true, F a.hi b.lo true, F a.hi b.hi true]) = r
  refine callsA_of hG hm Try.func105 (by kernel_rfl) ?_
  intro E hE lp hl
  cbv
  refine E_in hE hG hm Try.func166 (by kernel_rfl) (fun lp2 hl2 => ?_)
  cbv
  (apply E_pcallX hE (hF a.lo b.lo false h1 h3); (case hm => rfl); (case hle => (repeat' (first | exact u_nil | apply u_cons | apply u2_agg | exact u2_int | exact u1_int | exact u2_bool | exact u1_bool | exact u2_sli | exact u1_sli | exact u2_s0 | exact u1_s0))); intro s1 es1; cbv)
  (apply E_pcallX hE (hF a.lo b.hi false h1 h4); (case hm => rfl); (case hle => (repeat' (first | exact u_nil | apply u_cons | apply u2_agg | exact u2_int | exact u1_int | exact u2_bool | exact u1_bool | exact u2_sli | exact u1_sli | exact u2_s0 | exact u1_s0))); intro s2 es2; cbv)
  (apply E_pcallX hE (hF a.hi b.lo false h2 h3); (case hm => rfl); (case hle => (repeat' (first | exact u_nil | apply u_cons | apply u2_agg | exact u2_int | exact u1_int | exact u2_bool | exact u1_bool | exact u2_sli | exact u1_sli | exact u2_s0 | exact u1_s0))); intro s3 es3; cbv)
  (apply E_pcallX hE (hF a.hi b.hi false h2 h4); (case hm => rfl); (case hle => (repeat' (first | exact u_nil | apply u_cons | apply u2_agg | exact u2_int | exact u1_int | exact u2_bool | exact u1_bool | exact u2_sli | exact u1_sli | exact u2_s0 | exact u1_s0))); intro s4 es4; cbv)
  (apply E_callX hE (c_Least [s1, s2, s3, s4] 4 rfl (by decide)); (case hf => rfl); (case hc => (cbv <;> trivial)); (case hle => exact ⟨slc4, trivial⟩); intro lo elo; cbv)
  refine E_in hE hG hm Try.func166 (by kernel_rfl) (fun lp3 hl3 => ?_)
  cbv
  (apply E_pcallX hE (hF a.lo b.lo true h1 h3); (case hm => rfl); (case hle => (repeat' (first | exact u_nil | apply u_cons | apply u2_agg | exact u2_int | exact u1_int | exact u2_bool | exact u1_bool | exact u2_sli | exact u1_sli | exact u2_s0 | exact u1_s0))); intro t1 et1; cbv)
  (apply E_pcallX hE (hF a.lo b.hi true h1 h4); (case hm => rfl); (case hle => (repeat' (first | exact u_nil | apply u_cons | apply u2_agg | exact u2_int | exact u1_int | exact u2_bool | exact u1_bool | exact u2_sli | exact u1_sli | exact u2_s0 | exact u1_s0))); intro t2 et2; cbv)
  (apply E_pcallX hE (hF a.hi b.lo true h2 h3); (case hm => rfl); (case hle => (repeat' (first | exact u_nil | apply u_cons | apply u2_agg | exact u2_int | exact u1_int | exact u2_bool | exact u1_bool | exact u2_sli | exact u1_sli | exact u2_s0 | exact u1_s0))); intro t3 et3; cbv)
  (apply E_pcallX hE (hF a.hi b.hi true h2 h4); (case hm => rfl); (case hle => (repeat' (first | exact u_nil | apply u_cons | apply u2_agg | exact u2_int | exact u1_int | exact u2_bool | exact u1_bool | exact u2_sli | exact u1_sli | exact u2_s0 | exact u1_s0))); intro t4 et4; cbv)
  (apply E_callX hE (c_Most [t1, t2, t3, t4] 4 rfl (by decide)); (case hf => rfl); (case hc => (cbv <;> trivial)); (case hle => exact ⟨slc4, trivial⟩); intro hi ehi; cbv)
  (apply E_callX hE (c_ivMake ⟨_, _, _, _⟩ ⟨_, _, _, _⟩); (case hf => rfl); (case hc => (cbv <;> trivial)); (case hle => (repeat' (first | exact u_nil | apply u_cons | apply u2_agg | exact u2_int | exact u1_int | exact u2_bool | exact u1_bool | exact u2_sli | exact u1_sli | exact u2_s0 | exact u1_s0))); intro t ht; cbv)
  have e : t = r := by
    rw [← hr]
    refine ht.trans ?_
    show Iv.make lo hi = _
    rw [elo, ehi, es1, es2, es3, es4, et1, et2, et3, et4]
  subst e
  exact ⟨rfl, rfl, rfl, rfl, rfl, rfl, rfl, rfl, rfl, trivial⟩
end Go.Proofs.Ytincnfjihffllaa.Ev

/- The value of a number, scaled to a whole number; the order; what rounding does: plain Lean. -/
namespace Go.Proofs.Ytincnfjihffllaa.Ev
open Go

def pw (e : Int) : Int := 2 ^ (e + 8388608).toNat
theorem pw_pos (e : Int) : 0 < pw e := Int.pow_pos (by decide)
theorem pw_add {e f : Int} (h : -8388608 ≤ e) (h2 : 0 ≤ f) : pw (e + f) = pw e * 2 ^ f.toNat := by
  unfold pw; rw [show (e + f + 8388608).toNat = (e + 8388608).toNat + f.toNat by omega, Int.pow_add]
theorem pw_succ {e : Int} (h : -8388608 ≤ e) : pw (e + 1) = pw e * 2 := pw_add h (by decide)
theorem pw_64 {e : Int} (h : -8388608 ≤ e) : pw (e + 64) = pw e * 18446744073709551616 := pw_add h (by decide)
theorem pw_63 {e : Int} (h : -8388608 ≤ e) : pw (e + 63) = pw e * 9223372036854775808 := pw_add h (by decide)
theorem pw_mul {e f : Int} (h : -8388608 ≤ e) (h2 : -8388608 ≤ f) (h3 : -8388608 ≤ e + f) : pw e * pw f = pw 0 * pw (e + f) := by
  unfold pw; rw [← Int.pow_add, ← Int.pow_add, show (e + 8388608).toNat + (f + 8388608).toNat = ((0 : Int) + 8388608).toNat + (e + f + 8388608).toNat by omega]
theorem pw_mono {e f : Int} (h : -8388608 ≤ e) (h2 : e ≤ f) : pw e ≤ pw f := by
  have e1 := pw_add h (show 0 ≤ f - e by omega)
  rw [show e + (f - e) = f by omega] at e1
  rw [e1]
  have p := pw_pos e
  have q : (0 : Int) < 2 ^ (f - e).toNat := Int.pow_pos (by decide)
  have := Int.mul_le_mul_of_nonneg_left (show (1 : Int) ≤ 2 ^ (f - e).toNat by omega) (Int.le_of_lt p)
  omega
theorem pw_lt {e f : Int} (h : -8388608 ≤ e) (h2 : e < f) : pw e * 2 ≤ pw f := by
  rw [← pw_succ h]; exact pw_mono (by omega) (by omega)

def Num.W (n : Num) : Int := if n.kind = 0 then 0 else if n.kind = 1 then n.m * pw n.e else pw 1048640
def Num.val (n : Num) : Int := if n.neg then -n.W else n.W

/-- finite -/
structure Num.Fin (n : Num) : Prop where
  kind : n.kind = 1
  lo : 9223372036854775808 ≤ n.m
  hi : n.m < 18446744073709551616
  elo : -1048576 ≤ n.e
  ehi : n.e ≤ 1048576

theorem Num.may3 {n : Num} (h : n.may = true) (ho : n.ok) : n = Num.zero ∨ n.Fin ∨ n = Num.inf n.neg := by
  rcases Num.may_cases h with h | h | h
  · exact .inl h
  · exact .inr (.inl ⟨h.1, h.2.1, ho.2, h.2.2.1, h.2.2.2⟩)
  · exact .inr (.inr h)

theorem Num.Fin.may {n : Num} (h : n.Fin) : n.may = true := by
  unfold Num.may; rw [if_neg (by rw [h.kind]; decide), if_pos h.kind]
  simp [h.lo, h.elo, h.ehi]
theorem Num.Fin.ok {n : Num} (h : n.Fin) : n.ok := ⟨by have := h.lo; omega, h.hi⟩
theorem Num.Fin.W {n : Num} (h : n.Fin) : n.W = n.m * pw n.e := by
  unfold Num.W; rw [if_neg (by rw [h.kind]; decide), if_pos h.kind]

theorem Num.Fin.lt {n : Num} (h : n.Fin) : 0 < n.W ∧ n.W < pw 1048640 := by
  rw [h.W]
  have p := pw_pos n.e
  have l := h.lo
  have u := h.hi
  have e1 := pw_64 (e := n.e) (by have := h.elo; omega)
  have e2 := pw_mono (e := n.e + 64) (f := 1048640) (by have := h.elo; omega) (by have := h.ehi; omega)
  have e3 : n.m * pw n.e < 18446744073709551616 * pw n.e := Int.mul_lt_mul_of_pos_right u p
  have e4 : 0 < n.m * pw n.e := Int.mul_pos (by omega) p
  omega

theorem Num.zero_W : Num.zero.W = 0 := rfl
theorem Num.inf_W (b : Bool) : (Num.inf b).W = pw 1048640 := rfl
theorem Num.zero_may : Num.zero.may = true := by decide
theorem Num.inf_may (b : Bool) : (Num.inf b).may = true := by cases b <;> decide

/-- the greater exponent makes the greater number -/
theorem lex_lt {m e m' e' : Int} (h1 : 9223372036854775808 ≤ m') (h2 : m < 18446744073709551616) (he : -8388608 ≤ e) (h : e < e') : m * pw e < m' * pw e' := by
  have p := pw_pos e
  have e1 := pw_lt he h
  have e2 : m * pw e < 18446744073709551616 * pw e := Int.mul_lt_mul_of_pos_right h2 p
  have e3 : 9223372036854775808 * pw e' ≤ m' * pw e' := Int.mul_le_mul_of_nonneg_right h1 (by omega)
  omega

theorem Num.farther_iff {a b : Num} (ha : a.may = true) (hb : b.may = true) (oa : a.ok) (ob : b.ok) : a.farther b = true ↔ b.W < a.W := by
  rcases Num.may3 ha oa with h | h | h <;> rcases Num.may3 hb ob with k | k | k
  · rw [h, k]; simp [Num.farther]
  · rw [h]; have := k.lt; simp [Num.farther, k.kind, Num.zero, Num.W]; rw [← k.W]; omega
  · rw [h, k]; have := pw_pos 1048640; simp [Num.farther, Num.zero, Num.inf, Num.W]; omega
  · rw [k]; have := h.lt; simp [Num.farther, h.kind, Num.zero, Num.W]; rw [← h.W]; omega
  · unfold Num.farther
    rw [if_neg (by simp [h.kind, k.kind]), h.W, k.W]
    have := h.lo; have := h.hi; have := h.elo; have := h.ehi
    have := k.lo; have := k.hi; have := k.elo; have := k.ehi
    by_cases he : a.e = b.e
    · rw [if_neg (by simp [he]), he, decide_eq_true_eq]
      have p := pw_pos b.e
      exact (Int.mul_lt_mul_right p).symm
    · rw [if_pos he, decide_eq_true_eq]
      constructor
      · intro g; exact lex_lt h.lo k.hi (by omega) g
      · intro g
        rcases Int.lt_or_le b.e a.e with g' | g'
        · exact g'
        · have := lex_lt k.lo h.hi (by omega) (show a.e < b.e by omega)
          omega
  · rw [k]; have := h.lt; simp [Num.farther, h.kind, Num.inf, Num.W]; rw [← h.W]; omega
  · rw [h, k]; have := pw_pos 1048640; simp [Num.farther, Num.zero, Num.inf, Num.W]; omega
  · rw [h]; have := k.lt; simp [Num.farther, k.kind, Num.inf, Num.W]; rw [← k.W]; omega
  · rw [h, k]; simp [Num.farther, Num.inf, Num.W]

theorem Num.sign_of {n : Num} (h : n.may = true) (o : n.ok) : (n.sign = 0 ∧ n.val = 0 ∧ n.W = 0 ∧ n = Num.zero) ∨ (n.sign = 1 ∧ n.val = n.W ∧ 0 < n.W ∧ n.neg = false ∧ n.kind ≠ 0) ∨ (n.sign = -1 ∧ n.val = -n.W ∧ 0 < n.W ∧ n.neg = true ∧ n.kind ≠ 0) := by
  unfold Num.sign Num.val
  rw [Num.fair_of_may h]
  rcases Num.may3 h o with k | k | k
  · left; rw [k]; simp [Num.zero, Num.W]
  · right
    have := k.lt
    rw [if_neg (by rw [k.kind]; decide)]
    cases hn : n.neg
    · left; simp [k.kind]; omega
    · right; simp [k.kind]; omega
  · right
    have := pw_pos 1048640
    rw [k]
    cases hn : n.neg
    · left; simp [Num.inf, Num.W]; exact this
    · right; simp [Num.inf, Num.W]; exact this

theorem Num.cmp_spec {a b : Num} (oa : a.ok) (ob : b.ok) :
    (a.cmp b = -1 ∧ a.fair.val < b.fair.val) ∨ (a.cmp b = 0 ∧ a.fair.val = b.fair.val) ∨ (a.cmp b = 1 ∧ b.fair.val < a.fair.val) := by
  have ma := a.fair_may
  have mb := b.fair_may
  replace oa := Num.fair_ok oa
  replace ob := Num.fair_ok ob
  unfold Num.cmp
  generalize a.fair = A at *
  generalize b.fair = B at *
  have f1 := Num.farther_iff ma mb oa ob
  have f2 := Num.farther_iff mb ma ob oa
  have w0 : IntKind.i64.wrap (0 - 0) = 0 := by decide
  have w1 : IntKind.i64.wrap (0 - 1) = -1 := by decide
  have w2 : IntKind.i64.wrap (0 - -1) = 1 := by decide
  rcases Num.sign_of ma oa with h | h | h <;> rcases Num.sign_of mb ob with k | k | k <;> rw [h.1, k.1] <;> simp only [f1, f2, w0, w1, w2] <;> repeat' split <;> omega

theorem Num.cmp_le {a b : Num} (oa : a.ok) (ob : b.ok) : a.cmp b ≤ 0 ↔ a.fair.val ≤ b.fair.val := by
  rcases Num.cmp_spec oa ob with h | h | h <;> omega
theorem Num.cmp_lt {a b : Num} (oa : a.ok) (ob : b.ok) : a.cmp b < 0 ↔ a.fair.val < b.fair.val := by
  rcases Num.cmp_spec oa ob with h | h | h <;> omega
theorem Num.cmp_gt {a b : Num} (oa : a.ok) (ob : b.ok) : 0 < a.cmp b ↔ b.fair.val < a.fair.val := by
  rcases Num.cmp_spec oa ob with h | h | h <;> omega

theorem Num.val_inf (b : Bool) : (Num.inf b).val = if b then -pw 1048640 else pw 1048640 := rfl
theorem Num.val_zero : Num.zero.val = 0 := rfl
theorem Num.val_le {n : Num} (h : n.may = true) (o : n.ok) : -pw 1048640 ≤ n.val ∧ n.val ≤ pw 1048640 := by
  have p := pw_pos 1048640
  rcases Num.may3 h o with k | k | k
  · rw [k, Num.val_zero]; omega
  · have := k.lt; unfold Num.val; split <;> omega
  · rw [k, Num.val_inf]; split <;> omega

theorem Num.val_inj {a b : Num} (ha : a.may = true) (hb : b.may = true) (oa : a.ok) (ob : b.ok) (h : a.val = b.val) : a = b := by
  have f1 := Num.farther_iff ha hb oa ob
  have f2 := Num.farther_iff hb ha ob oa
  have key : a.neg = b.neg ∧ a.W = b.W := by
    rcases Num.sign_of ha oa with h | h | h <;> rcases Num.sign_of hb ob with k | k | k <;> first | (exfalso; omega) | (refine ⟨?_, by omega⟩; first | rw [h.2.2.2, k.2.2.2] | rw [h.2.2.2.1, k.2.2.2.1])
  rw [key.2] at f1 f2
  have g1 : a.farther b = false := by
    cases hh : a.farther b
    · rfl
    · have := f1.1 hh; omega
  have g2 : b.farther a = false := by
    cases hh : b.farther a
    · rfl
    · have := f2.1 hh; omega
  unfold Num.farther at g1 g2
  by_cases hk : a.kind = b.kind
  · rw [if_neg (by simp [hk])] at g1 g2
    by_cases he : a.e = b.e
    · rw [if_neg (by simp [he]), decide_eq_false_iff_not] at g1 g2
      exact (Num.eq_iff a b).2 ⟨hk, key.1, by omega, he⟩
    · rw [if_pos he, decide_eq_false_iff_not] at g1
      rw [if_pos (fun h => he h.symm), decide_eq_false_iff_not] at g2
      omega
  · rw [if_pos hk, decide_eq_false_iff_not] at g1
    rw [if_pos (fun h => hk h.symm), decide_eq_false_iff_not] at g2
    omega

theorem Num.ne_inf {n : Num} (h : n.may = true) (o : n.ok) : (n ≠ Num.inf false ↔ n.val < pw 1048640) ∧ (n ≠ Num.inf true ↔ -pw 1048640 < n.val) := by
  have b := Num.val_le h o
  constructor
  · constructor
    · intro g
      rcases Int.lt_or_le n.val (pw 1048640) with k | k
      · exact k
      · exact absurd (Num.val_inj h (Num.inf_may _) o (Num.inf_ok _) (by rw [Num.val_inf]; simp; omega)) g
    · rintro g rfl
      rw [Num.val_inf] at g; simp at g
  · constructor
    · intro g
      rcases Int.lt_or_le (-pw 1048640) n.val with k | k
      · exact k
      · exact absurd (Num.val_inj h (Num.inf_may _) o (Num.inf_ok _) (by rw [Num.val_inf]; simp; omega)) g
    · rintro g rfl
      rw [Num.val_inf] at g; simp at g

/-- finite, or nought: its value is no infinity's -/
theorem Num.fin_val {n : Num} (h : n.may = true) (o : n.ok) : n.kind ≠ 2 ↔ (-pw 1048640 < n.val ∧ n.val < pw 1048640) := by
  have p := pw_pos 1048640
  rcases Num.may3 h o with k | k | k
  · rw [k, Num.val_zero]; simp [Num.zero]; omega
  · have := k.lt; unfold Num.val; simp [k.kind]; split <;> omega
  · rw [k, Num.val_inf]; simp [Num.inf]; split <;> omega

/-! the opposite, and what is made of two ends -/
theorem Num.opp_may (n : Num) : n.opp.may = true := by
  have h := n.fair_may
  unfold Num.opp
  unfold Num.may at h ⊢
  dsimp only
  generalize n.fair = A at *
  split
  · rename_i h0; rw [if_pos h0] at h
    simp only [decide_eq_true_eq] at h ⊢
    rw [h]; rfl
  · rename_i h0; rw [if_neg h0] at h
    exact h
theorem Num.opp_ok {n : Num} (h : n.ok) : n.opp.ok := Num.fair_ok h
theorem Num.opp_opp (n : Num) : n.opp.opp = n.fair := by
  have e := Num.fair_of_may n.opp_may
  rw [Num.eq_iff]
  show n.opp.fair.kind = _ ∧ (decide (n.opp.fair.kind ≠ 0) && !n.opp.fair.neg) = _ ∧ n.opp.fair.m = _ ∧ n.opp.fair.e = _
  rw [e]
  refine ⟨rfl, ?_, rfl, rfl⟩
  show (decide (n.fair.kind ≠ 0) && !(decide (n.fair.kind ≠ 0) && !n.fair.neg)) = n.fair.neg
  rcases Num.may_cases n.fair_may with h | h | h
  · rw [h]; rfl
  · simp [h.1]
  · rw [h]; cases n.fair.neg <;> rfl
theorem Num.opp_val {n : Num} : n.opp.val = -n.fair.val := by
  unfold Num.opp Num.val
  dsimp only
  by_cases h : n.fair.kind = 0
  · have e : n.fair = Num.zero := by
      rcases Num.may_cases n.fair_may with k | k | k
      · exact k
      · omega
      · rw [k] at h; simp [Num.inf] at h
    rw [e]; rfl
  · have e : (decide (n.fair.kind ≠ 0) && !n.fair.neg) = !n.fair.neg := by simp [h]
    rw [e]
    have e2 : (Num.mk n.fair.kind (!n.fair.neg) n.fair.m n.fair.e).W = n.fair.W := rfl
    rw [e2]
    cases n.fair.neg <;> simp

/-- an interval that may be, and is not empty -/
structure Iv.Real (x : Iv) : Prop where
  some : x.empty = false
  lom : x.lo.may = true
  him : x.hi.may = true
  loo : x.lo.ok
  hio : x.hi.ok
  le : x.lo.val ≤ x.hi.val
  lt : x.lo.val < pw 1048640
  gt : -pw 1048640 < x.hi.val

theorem Iv.Real.may {x : Iv} (h : x.Real) : x.may = true := by
  unfold Iv.may
  rw [if_neg (by simp [h.some]), h.lom, h.him]
  have e1 := (Num.cmp_le h.loo h.hio).2 (by rw [Num.fair_of_may h.lom, Num.fair_of_may h.him]; exact h.le)
  have e2 := (Num.ne_inf h.lom h.loo).1.2 h.lt
  have e3 := (Num.ne_inf h.him h.hio).2.2 h.gt
  simp [e1, e2, e3]
theorem Iv.Real.fair {x : Iv} (h : x.Real) : x.fair = x := by unfold Iv.fair; rw [if_pos h.may]
theorem Iv.Real.good {x : Iv} (h : x.Real) : x.bad = false := by simp [Iv.bad, h.some, h.may]
theorem Iv.real_of {x : Iv} (h : x.may = true) (hs : x.empty = false) (o1 : x.lo.ok) (o2 : x.hi.ok) : x.Real := by
  unfold Iv.may at h
  rw [if_neg (by simp [hs])] at h
  simp only [Bool.and_eq_true, decide_eq_true_eq] at h
  obtain ⟨⟨⟨⟨h1, h2⟩, h3⟩, h4⟩, h5⟩ := h
  have e1 := (Num.cmp_le o1 o2).1 h3
  rw [Num.fair_of_may h1, Num.fair_of_may h2] at e1
  exact ⟨hs, h1, h2, o1, o2, e1, (Num.ne_inf h1 o1).1.1 h4, (Num.ne_inf h2 o2).2.1 h5⟩
theorem Iv.real_of_good {x : Iv} (h : x.bad = false) (o1 : x.lo.ok) (o2 : x.hi.ok) : x.Real := by
  unfold Iv.bad at h
  simp only [Bool.or_eq_false_iff, Bool.not_eq_false'] at h
  exact Iv.real_of h.2 h.1 o1 o2
theorem Iv.empty_may {x : Iv} (h : x.may = true) (hs : x.empty = true) : x = Iv.none := by
  unfold Iv.may at h
  rw [if_pos hs] at h
  simpa using h

theorem Iv.make_eq (lo hi : Num) : Iv.make lo hi = Iv.fair ⟨false, lo.fair, hi.fair⟩ := by unfold Iv.make; rw [Num.opp_opp, Num.opp_opp]
theorem Iv.make_real {lo hi : Num} (h : (Iv.mk false lo.fair hi.fair).Real) : Iv.make lo hi = ⟨false, lo.fair, hi.fair⟩ := by rw [Iv.make_eq, h.fair]
/-- what is made of two ends is none, or just these -/
theorem Iv.make_cases {lo hi : Num} (o1 : lo.ok) (o2 : hi.ok) : (Iv.make lo hi = Iv.none ∧ ¬ (Iv.mk false lo.fair hi.fair).Real) ∨ (Iv.make lo hi = ⟨false, lo.fair, hi.fair⟩ ∧ (Iv.mk false lo.fair hi.fair).Real) := by
  by_cases h : (Iv.mk false lo.fair hi.fair).Real
  · exact .inr ⟨Iv.make_real h, h⟩
  · refine .inl ⟨?_, h⟩
    rw [Iv.make_eq]
    unfold Iv.fair
    split
    · rename_i k
      exact absurd (Iv.real_of k rfl (Num.fair_ok o1) (Num.fair_ok o2)) h
    · rfl

/-! the least and the greatest -/
theorem Num.least_go (l : List Num) : ∀ (o : Num), o.may = true → o.ok → (∀ x ∈ l, x.ok) →
    (l.foldl Num.lesser o).may = true ∧ (l.foldl Num.lesser o).ok ∧ (l.foldl Num.lesser o).val ≤ o.val ∧ (∀ x ∈ l, (l.foldl Num.lesser o).val ≤ x.fair.val) ∧ (l.foldl Num.lesser o = o ∨ ∃ x ∈ l, l.foldl Num.lesser o = x.fair) := by
  induction l with
  | nil => intro o m k _; exact ⟨m, k, Int.le_refl _, by simp, .inl rfl⟩
  | cons a l ih =>
    intro o m k hl
    have ha := hl a (List.mem_cons_self ..)
    have hs := Num.cmp_lt ha k
    rw [Num.fair_of_may m] at hs
    have key : (Num.lesser o a).may = true ∧ (Num.lesser o a).ok ∧ (Num.lesser o a).val ≤ o.val ∧ (Num.lesser o a).val ≤ a.fair.val ∧ (Num.lesser o a = o ∨ Num.lesser o a = a.fair) := by
      unfold Num.lesser
      split
      · exact ⟨a.fair_may, Num.fair_ok ha, by omega, Int.le_refl _, .inr rfl⟩
      · exact ⟨m, k, Int.le_refl _, by omega, .inl rfl⟩
    obtain ⟨k1, k2, k3, k4, k5⟩ := key
    obtain ⟨i1, i2, i3, i4, i5⟩ := ih _ k1 k2 (fun x hx => hl x (List.mem_cons_of_mem _ hx))
    rw [List.foldl_cons]
    refine ⟨i1, i2, by omega, ?_, ?_⟩
    · intro x hx
      rcases List.mem_cons.1 hx with rfl | hx
      · omega
      · exact i4 x hx
    · rcases i5 with i5 | ⟨x, hx, i5⟩
      · rcases k5 with k5 | k5
        · exact .inl (by rw [i5, k5])
        · exact .inr ⟨a, List.mem_cons_self .., by rw [i5, k5]⟩
      · exact .inr ⟨x, List.mem_cons_of_mem _ hx, i5⟩
theorem Num.least_spec (l : List Num) (hl : ∀ x ∈ l, x.ok) : (Num.least l).may = true ∧ (Num.least l).ok ∧ (∀ x ∈ l, (Num.least l).val ≤ x.fair.val) ∧ (Num.least l = Num.inf false ∨ ∃ x ∈ l, Num.least l = x.fair) := by
  obtain ⟨h1, h2, _, h4, h5⟩ := Num.least_go l (Num.inf false) (Num.inf_may _) (Num.inf_ok _) hl
  exact ⟨h1, h2, h4, h5⟩
theorem Num.most_go (l : List Num) : ∀ (o : Num), o.may = true → o.ok → (∀ x ∈ l, x.ok) →
    (l.foldl Num.greater o).may = true ∧ (l.foldl Num.greater o).ok ∧ o.val ≤ (l.foldl Num.greater o).val ∧ (∀ x ∈ l, x.fair.val ≤ (l.foldl Num.greater o).val) ∧ (l.foldl Num.greater o = o ∨ ∃ x ∈ l, l.foldl Num.greater o = x.fair) := by
  induction l with
  | nil => intro o m k _; exact ⟨m, k, Int.le_refl _, by simp, .inl rfl⟩
  | cons a l ih =>
    intro o m k hl
    have ha := hl a (List.mem_cons_self ..)
    have hs := Num.cmp_gt ha k
    rw [Num.fair_of_may m] at hs
    have key : (Num.greater o a).may = true ∧ (Num.greater o a).ok ∧ o.val ≤ (Num.greater o a).val ∧ a.fair.val ≤ (Num.greater o a).val ∧ (Num.greater o a = o ∨ Num.greater o a = a.fair) := by
      unfold Num.greater
      split
      · exact ⟨a.fair_may, Num.fair_ok ha, by omega, Int.le_refl _, .inr rfl⟩
      · exact ⟨m, k, Int.le_refl _, by omega, .inl rfl⟩
    obtain ⟨k1, k2, k3, k4, k5⟩ := key
    obtain ⟨i1, i2, i3, i4, i5⟩ := ih _ k1 k2 (fun x hx => hl x (List.mem_cons_of_mem _ hx))
    rw [List.foldl_cons]
    refine ⟨i1, i2, by omega, ?_, ?_⟩
    · intro x hx
      rcases List.mem_cons.1 hx with rfl | hx
      · omega
      · exact i4 x hx
    · rcases i5 with i5 | ⟨x, hx, i5⟩
      · rcases k5 with k5 | k5
        · exact .inl (by rw [i5, k5])
        · exact .inr ⟨a, List.mem_cons_self .., by rw [i5, k5]⟩
      · exact .inr ⟨x, List.mem_cons_of_mem _ hx, i5⟩
theorem Num.most_spec (l : List Num) (hl : ∀ x ∈ l, x.ok) : (Num.most l).may = true ∧ (Num.most l).ok ∧ (∀ x ∈ l, x.fair.val ≤ (Num.most l).val) ∧ (Num.most l = Num.inf true ∨ ∃ x ∈ l, Num.most l = x.fair) := by
  obtain ⟨h1, h2, _, h4, h5⟩ := Num.most_go l (Num.inf true) (Num.inf_may _) (Num.inf_ok _) hl
  exact ⟨h1, h2, h4, h5⟩

/-! rounding -/
/-- r is a magnitude's q * 2^e, to nought or away -/
structure Rnd (r : Num) (neg away : Bool) (q q' e : Int) : Prop where
  may : r.may = true
  ok : r.ok
  neg : r.kind = 0 ∨ r.neg = neg
  down : away = false → r.kind ≠ 2 ∧ r.W ≤ q * pw e
  up : away = true → r.kind ≠ 0 ∧ (r.kind = 2 ∨ q' * pw e ≤ r.W)

theorem bound_rnd {neg away : Bool} {m e : Int} (hm : 9223372036854775808 ≤ m) (hm' : m < 18446744073709551616) (he : -4194304 ≤ e) (he' : e ≤ 4194304) :
    Rnd (Num.bound neg m e away) neg away m m e := by
  unfold Num.bound
  by_cases h1 : 1048576 < e
  · rw [if_pos h1]
    cases away
    · rw [if_neg (by decide)]
      refine ⟨by cases neg <;> decide, by constructor <;> simp [Num.huge], .inr rfl, fun _ => ⟨by simp [Num.huge], ?_⟩, by simp⟩
      show 18446744073709551615 * pw 1048576 ≤ _
      have := lex_lt (m := 18446744073709551615) hm (by decide) (by decide) h1
      omega
    · rw [if_pos rfl]
      exact ⟨Num.inf_may _, Num.inf_ok _, .inr rfl, by simp, fun _ => ⟨by simp [Num.inf], .inl rfl⟩⟩
  · rw [if_neg h1]
    by_cases h2 : e < -1048576
    · rw [if_pos h2]
      cases away
      · rw [if_neg (by decide)]
        refine ⟨Num.zero_may, Num.zero_ok, .inl rfl, fun _ => ⟨by simp [Num.zero], ?_⟩, by simp⟩
        rw [Num.zero_W]; exact Int.mul_nonneg (by omega) (Int.le_of_lt (pw_pos _))
      · rw [if_pos rfl]
        refine ⟨by cases neg <;> decide, by constructor <;> simp [Num.tiny, Num.top], .inr rfl, by simp, fun _ => ⟨by simp [Num.tiny], .inr ?_⟩⟩
        show _ ≤ 9223372036854775808 * pw (-1048576)
        have := lex_lt (m' := 9223372036854775808) (by decide) hm' (by omega) h2
        omega
    · rw [if_neg h2]
      have f : (Num.mk 1 neg m e).Fin := ⟨rfl, hm, hm', by show -1048576 ≤ e; omega, by show e ≤ 1048576; omega⟩
      exact ⟨f.may, f.ok, .inr rfl, fun _ => ⟨by simp, by rw [f.W]; exact Int.le_refl _⟩, fun _ => ⟨by simp, .inr (by rw [f.W]; exact Int.le_refl _)⟩⟩

theorem grow_rnd {neg cut away : Bool} {m e : Int} (hm : 9223372036854775808 ≤ m) (hm' : m < 18446744073709551616) (he : -4194303 ≤ e) (he' : e ≤ 4194303) :
    Rnd (Num.grow neg m e cut away) neg away m (if cut then m + 1 else m) e := by
  unfold Num.grow
  by_cases hc : (cut && away) = true
  · rw [if_pos hc]
    simp only [Bool.and_eq_true] at hc
    obtain ⟨h1, h2⟩ := hc
    subst h1; subst h2
    rw [if_pos rfl]
    by_cases h0 : IntKind.u64.wrap (m + 1) = 0
    · rw [if_pos h0]
      have em : m + 1 = 18446744073709551616 := by rw [wu64] at h0; omega
      have ee : IntKind.i64.wrap (e + 1) = e + 1 := by rw [wi64]; omega
      rw [ee, em]
      have b := bound_rnd (neg := neg) (away := true) (m := Num.top) (e := e + 1) (by decide) (by decide) (by omega) (by omega)
      have e2 : Num.top * pw (e + 1) = 18446744073709551616 * pw e := by
        rw [pw_succ (by omega)]; show 9223372036854775808 * (pw e * 2) = _; omega
      exact ⟨b.may, b.ok, b.neg, by simp, fun h => ⟨(b.up h).1, by rw [← e2]; exact (b.up h).2⟩⟩
    · rw [if_neg h0]
      have em : IntKind.u64.wrap (m + 1) = m + 1 := by rw [wu64] at h0 ⊢; omega
      have hlt : m + 1 < 18446744073709551616 := by rw [wu64] at h0; omega
      rw [em]
      have b := bound_rnd (neg := neg) (away := true) (m := m + 1) (e := e) (by omega) hlt (by omega) (by omega)
      exact ⟨b.may, b.ok, b.neg, by simp, b.up⟩
  · rw [if_neg hc]
    have b := bound_rnd (neg := neg) (away := away) hm hm' (e := e) (by omega) (by omega)
    refine ⟨b.may, b.ok, b.neg, b.down, ?_⟩
    intro ha
    subst ha
    simp only [Bool.and_true, Bool.not_eq_true] at hc
    rw [if_neg (by simp [hc])]
    exact b.up rfl

/-- what a rounded one's value is to the exact one, t / c -/
structure Side (r : Num) (up : Bool) (t c : Int) : Prop where
  may : r.may = true
  ok : r.ok
  down : up = false → r ≠ Num.inf false ∧ (r = Num.inf true ∨ r.val * c ≤ t)
  up : up = true → r ≠ Num.inf true ∧ (r = Num.inf false ∨ t ≤ r.val * c)

theorem Num.inf_of {r : Num} (h : r.may = true) (o : r.ok) (hk : r.kind = 2) : r = Num.inf r.neg := by
  rcases Num.may3 h o with k | k | k
  · rw [k] at hk; simp [Num.zero] at hk
  · have := k.kind; omega
  · exact k

theorem Rnd.side {r : Num} {neg up : Bool} {q q' e T c : Int} (R : Rnd r neg (up != neg) q q' e) (h1 : q * pw e * c ≤ T) (h2 : T ≤ q' * pw e * c) (hT : 0 ≤ T) (hc : 0 ≤ c) : Side r up (if neg then -T else T) c := by
  have hv : r.val * c = if r.neg then -(r.W * c) else r.W * c := by
    unfold Num.val; cases r.neg <;> simp [Int.neg_mul]
  have down : (up != neg) = false → r.kind ≠ 2 ∧ r.W * c ≤ T := fun h => ⟨(R.down h).1, Int.le_trans (Int.mul_le_mul_of_nonneg_right (R.down h).2 hc) h1⟩
  have upw : (up != neg) = true → r.kind ≠ 0 ∧ (r.kind = 2 ∨ T ≤ r.W * c) := by
    intro h
    refine ⟨(R.up h).1, ?_⟩
    rcases (R.up h).2 with k | k
    · exact .inl k
    · exact .inr (Int.le_trans h2 (Int.mul_le_mul_of_nonneg_right k hc))
  have w0 : r.kind = 0 → r.W = 0 := fun h => by unfold Num.W; rw [if_pos h]
  have n0 : ∀ b, r.kind ≠ 2 → r ≠ Num.inf b := fun b h g => h (by rw [g]; rfl)
  refine ⟨R.may, R.ok, ?_, ?_⟩
  · intro hu
    subst hu
    cases neg
    · obtain ⟨d1, d2⟩ := down rfl
      refine ⟨n0 _ d1, .inr ?_⟩
      rw [hv]
      rcases R.neg with h | h
      · rw [w0 h]; simp; exact hT
      · rw [h]; simpa using d2
    · obtain ⟨d1, d2⟩ := upw rfl
      have hn : r.neg = true := by rcases R.neg with h | h <;> simp_all
      refine ⟨fun g => by rw [g] at hn; simp [Num.inf] at hn, ?_⟩
      rcases d2 with d2 | d2
      · left; rw [Num.inf_of R.may R.ok d2, hn]
      · right; rw [hv, hn]; simp; exact d2
  · intro hu
    subst hu
    cases neg
    · obtain ⟨d1, d2⟩ := upw rfl
      have hn : r.neg = false := by rcases R.neg with h | h <;> simp_all
      refine ⟨fun g => by rw [g] at hn; simp [Num.inf] at hn, ?_⟩
      rcases d2 with d2 | d2
      · left; rw [Num.inf_of R.may R.ok d2, hn]
      · right; rw [hv, hn]; simpa using d2
    · obtain ⟨d1, d2⟩ := down rfl
      refine ⟨n0 _ d1, .inr ?_⟩
      rw [hv]
      rcases R.neg with h | h
      · rw [w0 h]; simp; exact hT
      · rw [h]; simpa using d2

theorem Num.Fin.val_mul {a b : Num} : a.val * b.val = if (a.neg != b.neg) then -(a.W * b.W) else a.W * b.W := by
  unfold Num.val
  cases a.neg <;> cases b.neg <;> simp [Int.neg_mul, Int.mul_neg]

/-- the product, rounded -/
theorem mulF_side {a b : Num} (ha : a.Fin) (hb : b.Fin) (up : Bool) : Side (Num.mulF a b up) up (a.val * b.val) (pw 0) := by
  rw [Num.Fin.val_mul]
  have := ha.lo; have := ha.hi; have := ha.elo; have := ha.ehi
  have := hb.lo; have := hb.hi; have := hb.elo; have := hb.ehi
  have m1 : 9223372036854775808 * 9223372036854775808 ≤ a.m * b.m := Int.mul_le_mul ha.lo hb.lo (by decide) (by omega)
  have m2 : a.m * b.m ≤ 18446744073709551615 * 18446744073709551615 := Int.mul_le_mul (by omega) (by omega) (by omega) (by decide)
  have eW : a.W * b.W = a.m * b.m * pw (a.e + b.e) * pw 0 := by
    rw [ha.W, hb.W]
    have e := pw_mul (e := a.e) (f := b.e) (by omega) (by omega) (by omega)
    have e1 : a.m * pw a.e * (b.m * pw b.e) = a.m * b.m * (pw a.e * pw b.e) := by grind
    rw [e1, e]; grind
  have p := pw_pos (a.e + b.e)
  have p0 := pw_pos 0
  have hT : 0 ≤ a.W * b.W := Int.mul_nonneg (Int.le_of_lt ha.lt.1) (Int.le_of_lt hb.lt.1)
  unfold Num.mulF
  rw [eW] at hT ⊢
  generalize a.m * b.m = p' at *
  split
  · rename_i h
    have R := grow_rnd (neg := a.neg != b.neg) (cut := decide (p' % 9223372036854775808 ≠ 0)) (away := up != (a.neg != b.neg)) (m := p' / 9223372036854775808) (e := a.e + b.e + 63) (by omega) (by omega) (by omega) (by omega)
    refine R.side ?_ ?_ hT (Int.le_of_lt p0)
    · refine Int.mul_le_mul_of_nonneg_right ?_ (Int.le_of_lt p0)
      rw [pw_63 (by omega)]
      have : p' / 9223372036854775808 * (pw (a.e + b.e) * 9223372036854775808) = p' / 9223372036854775808 * 9223372036854775808 * pw (a.e + b.e) := by grind
      rw [this]
      exact Int.mul_le_mul_of_nonneg_right (by omega) (by omega)
    · refine Int.mul_le_mul_of_nonneg_right ?_ (Int.le_of_lt p0)
      rw [pw_63 (by omega)]
      have : ∀ q : Int, q * (pw (a.e + b.e) * 9223372036854775808) = q * 9223372036854775808 * pw (a.e + b.e) := fun q => by grind
      rw [this]
      refine Int.mul_le_mul_of_nonneg_right ?_ (by omega)
      split
      · omega
      · rename_i h; simp only [decide_eq_true_eq] at h; omega
  · rename_i h
    have R := grow_rnd (neg := a.neg != b.neg) (cut := decide (p' % 18446744073709551616 ≠ 0)) (away := up != (a.neg != b.neg)) (m := p' / 18446744073709551616) (e := a.e + b.e + 64) (by omega) (by omega) (by omega) (by omega)
    refine R.side ?_ ?_ hT (Int.le_of_lt p0)
    · refine Int.mul_le_mul_of_nonneg_right ?_ (Int.le_of_lt p0)
      rw [pw_64 (by omega)]
      have : p' / 18446744073709551616 * (pw (a.e + b.e) * 18446744073709551616) = p' / 18446744073709551616 * 18446744073709551616 * pw (a.e + b.e) := by grind
      rw [this]
      exact Int.mul_le_mul_of_nonneg_right (by omega) (by omega)
    · refine Int.mul_le_mul_of_nonneg_right ?_ (Int.le_of_lt p0)
      rw [pw_64 (by omega)]
      have : ∀ q : Int, q * (pw (a.e + b.e) * 18446744073709551616) = q * 18446744073709551616 * pw (a.e + b.e) := fun q => by grind
      rw [this]
      refine Int.mul_le_mul_of_nonneg_right ?_ (by omega)
      split
      · omega
      · rename_i h; simp only [decide_eq_true_eq] at h; omega
end Go.Proofs.Ytincnfjihffllaa.Ev

/- The quotient of two numbers; products and quotients of intervals hold what they ought to: plain Lean. -/
namespace Go.Proofs.Ytincnfjihffllaa.Ev
open Go

def Num.divF (a b : Num) (up : Bool) : Num :=
  if b.m ≤ a.m then Num.grow (a.neg != b.neg) (a.m * 9223372036854775808 / b.m) (a.e - b.e - 63) (decide (a.m * 9223372036854775808 % b.m ≠ 0)) (up != (a.neg != b.neg))
  else Num.grow (a.neg != b.neg) (a.m * 18446744073709551616 / b.m) (a.e - b.e - 64) (decide (a.m * 18446744073709551616 % b.m ≠ 0)) (up != (a.neg != b.neg))
def Num.div (a b : Num) (up : Bool) : Num :=
  if b.fair.kind = 0 then Num.inf (!up) else if a.fair.kind = 0 ∨ b.fair.kind = 2 then Num.zero else if a.fair.kind = 2 then Num.inf (a.fair.neg != b.fair.neg) else Num.divF a.fair b.fair up

def Iv.corners (F : Num → Num → Bool → Num) (a b : Iv) : Iv :=
  Iv.make (Num.least [F a.lo b.lo false, F a.lo b.hi false, F a.hi b.lo false, F a.hi b.hi false]) (Num.most [F a.lo b.lo true, F a.lo b.hi true, F a.hi b.lo true, F a.hi b.hi true])
def Iv.mul (a b : Iv) : Iv := if Iv.anyBad [a, b] then Iv.none else Iv.corners Num.mul a b

def Iv.half (near fin : Num) : Iv :=
  if near.sign = fin.sign then Iv.make (Num.div near fin false) (Num.inf false) else Iv.make (Num.inf true) (Num.div near fin true)
def Iv.div (a b : Iv) : Iv :=
  if Iv.anyBad [a, b] ∨ (b.lo.sign = 0 ∧ b.hi.sign = 0) then Iv.none
  else if 0 < b.lo.sign ∨ b.hi.sign < 0 then Iv.corners Num.div a b
  else if (b.lo.sign < 0 ∧ 0 < b.hi.sign) ∨ Iv.has a Num.zero then Iv.all
  else Iv.half (if a.lo.sign < 0 then a.hi else a.lo) (if b.hi.sign = 0 then b.lo else b.hi)

theorem divF_side {a b : Num} (ha : a.Fin) (hb : b.Fin) (up : Bool) : Side (Num.divF a b up) up (if (a.neg != b.neg) then -(a.W * pw 0) else a.W * pw 0) b.W := by
  have := ha.lo; have := ha.hi; have := ha.elo; have := ha.ehi
  have := hb.lo; have := hb.hi; have := hb.elo; have := hb.ehi
  have p0 := pw_pos 0
  have hT : 0 ≤ a.W * pw 0 := Int.mul_nonneg (Int.le_of_lt ha.lt.1) (Int.le_of_lt p0)
  have hb0 : 0 < b.m := by omega
  unfold Num.divF
  split
  · rename_i h
    have e1 := Int.mul_ediv_add_emod (a.m * 9223372036854775808) b.m
    have e2 := Int.emod_nonneg (a.m * 9223372036854775808) (show b.m ≠ 0 by omega)
    have e3 := Int.emod_lt_of_pos (a.m * 9223372036854775808) hb0
    generalize hq : a.m * 9223372036854775808 / b.m = q at *
    generalize hr : a.m * 9223372036854775808 % b.m = r at *
    have q1 : 9223372036854775808 ≤ q := by
      rcases Int.lt_or_le q 9223372036854775808 with g | g
      · exfalso
        have : b.m * q ≤ b.m * 9223372036854775807 := Int.mul_le_mul_of_nonneg_left (by omega) (by omega)
        omega
      · exact g
    have q2 : q < 18446744073709551616 := by
      rcases Int.lt_or_le q 18446744073709551616 with g | g
      · exact g
      · exfalso
        have : b.m * 18446744073709551616 ≤ b.m * q := Int.mul_le_mul_of_nonneg_left g (by omega)
        omega
    have R := grow_rnd (neg := a.neg != b.neg) (cut := decide (r ≠ 0)) (away := up != (a.neg != b.neg)) (m := q) (e := a.e - b.e - 63) q1 q2 (by omega) (by omega)
    have E : ∀ k : Int, k * pw (a.e - b.e - 63) * b.W = (b.m * k) * (pw (a.e - 63) * pw 0) := by
      intro k
      rw [hb.W]
      have e := pw_mul (e := b.e) (f := a.e - b.e - 63) (by omega) (by omega) (by omega)
      rw [show b.e + (a.e - b.e - 63) = a.e - 63 by omega] at e
      have e' : k * pw (a.e - b.e - 63) * (b.m * pw b.e) = b.m * k * (pw b.e * pw (a.e - b.e - 63)) := by grind
      rw [e', e]; grind
    have ET : a.W * pw 0 = (a.m * 9223372036854775808) * (pw (a.e - 63) * pw 0) := by
      rw [ha.W]
      have e := pw_63 (e := a.e - 63) (by omega)
      rw [show a.e - 63 + 63 = a.e by omega] at e
      rw [e]; grind
    have pp : 0 ≤ pw (a.e - 63) * pw 0 := Int.le_of_lt (Int.mul_pos (pw_pos _) p0)
    refine R.side ?_ ?_ hT (Int.le_of_lt hb.lt.1)
    · rw [E, ET]; exact Int.mul_le_mul_of_nonneg_right (by omega) pp
    · rw [E, ET]
      refine Int.mul_le_mul_of_nonneg_right ?_ pp
      split
      · have : b.m * (q + 1) = b.m * q + b.m := by grind
        omega
      · rename_i h; simp only [decide_eq_true_eq] at h; omega
  · rename_i h
    have e1 := Int.mul_ediv_add_emod (a.m * 18446744073709551616) b.m
    have e2 := Int.emod_nonneg (a.m * 18446744073709551616) (show b.m ≠ 0 by omega)
    have e3 := Int.emod_lt_of_pos (a.m * 18446744073709551616) hb0
    generalize hq : a.m * 18446744073709551616 / b.m = q at *
    generalize hr : a.m * 18446744073709551616 % b.m = r at *
    have q1 : 9223372036854775808 ≤ q := by
      rcases Int.lt_or_le q 9223372036854775808 with g | g
      · exfalso
        have : b.m * q ≤ b.m * 9223372036854775807 := Int.mul_le_mul_of_nonneg_left (by omega) (by omega)
        omega
      · exact g
    have q2 : q < 18446744073709551616 := by
      rcases Int.lt_or_le q 18446744073709551616 with g | g
      · exact g
      · exfalso
        have : b.m * 18446744073709551616 ≤ b.m * q := Int.mul_le_mul_of_nonneg_left g (by omega)
        omega
    have R := grow_rnd (neg := a.neg != b.neg) (cut := decide (r ≠ 0)) (away := up != (a.neg != b.neg)) (m := q) (e := a.e - b.e - 64) q1 q2 (by omega) (by omega)
    have E : ∀ k : Int, k * pw (a.e - b.e - 64) * b.W = (b.m * k) * (pw (a.e - 64) * pw 0) := by
      intro k
      rw [hb.W]
      have e := pw_mul (e := b.e) (f := a.e - b.e - 64) (by omega) (by omega) (by omega)
      rw [show b.e + (a.e - b.e - 64) = a.e - 64 by omega] at e
      have e' : k * pw (a.e - b.e - 64) * (b.m * pw b.e) = b.m * k * (pw b.e * pw (a.e - b.e - 64)) := by grind
      rw [e', e]; grind
    have ET : a.W * pw 0 = (a.m * 18446744073709551616) * (pw (a.e - 64) * pw 0) := by
      rw [ha.W]
      have e := pw_64 (e := a.e - 64) (by omega)
      rw [show a.e - 64 + 64 = a.e by omega] at e
      rw [e]; grind
    have pp : 0 ≤ pw (a.e - 64) * pw 0 := Int.le_of_lt (Int.mul_pos (pw_pos _) p0)
    refine R.side ?_ ?_ hT (Int.le_of_lt hb.lt.1)
    · rw [E, ET]; exact Int.mul_le_mul_of_nonneg_right (by omega) pp
    · rw [E, ET]
      refine Int.mul_le_mul_of_nonneg_right ?_ pp
      split
      · have : b.m * (q + 1) = b.m * q + b.m := by grind
        omega
      · rename_i h; simp only [decide_eq_true_eq] at h; omega

theorem zero_side (up : Bool) (c : Int) : Side Num.zero up 0 c :=
  ⟨Num.zero_may, Num.zero_ok, fun _ => ⟨by decide, .inr (by rw [Num.val_zero]; simp)⟩, fun _ => ⟨by decide, .inr (by rw [Num.val_zero]; simp)⟩⟩

/-- the product of two that are finite -/
theorem mul_side {a b : Num} (ma : a.may = true) (mb : b.may = true) (oa : a.ok) (ob : b.ok) (ka : a.kind ≠ 2) (kb : b.kind ≠ 2) (up : Bool) : Side (Num.mul a b up) up (a.val * b.val) (pw 0) := by
  unfold Num.mul
  rw [Num.fair_of_may ma, Num.fair_of_may mb]
  rcases Num.may3 ma oa with h | h | h
  · rw [if_pos (.inl (by rw [h]; rfl)), h, Num.val_zero, Int.zero_mul]; exact zero_side _ _
  · rcases Num.may3 mb ob with k | k | k
    · rw [if_pos (.inr (by rw [k]; rfl)), k, Num.val_zero, Int.mul_zero]; exact zero_side _ _
    · rw [if_neg (by rw [h.kind, k.kind]; decide), if_neg (by rw [h.kind, k.kind]; decide)]
      exact mulF_side h k up
    · rw [k] at kb; exact absurd rfl kb
  · rw [h] at ka; exact absurd rfl ka

theorem div_core {a b : Num} (ma : a.may = true) (mb : b.may = true) (oa : a.ok) (ob : b.ok) (hb : b.val ≠ 0) (up : Bool) :
    (b.kind = 2 ∧ Num.div a b up = Num.zero) ∨ (b.Fin ∧ a.kind = 2 ∧ Num.div a b up = Num.inf (a.neg != b.neg)) ∨
      (b.Fin ∧ a.kind ≠ 2 ∧ Side (Num.div a b up) up (if b.neg then -(a.val * pw 0) else a.val * pw 0) b.W) := by
  unfold Num.div
  rw [Num.fair_of_may ma, Num.fair_of_may mb]
  rcases Num.may3 mb ob with k | k | k
  · rw [k] at hb; exact absurd rfl hb
  · right
    rw [if_neg (by rw [k.kind]; decide)]
    rcases Num.may3 ma oa with h | h | h
    · right
      refine ⟨k, by rw [h]; decide, ?_⟩
      rw [if_pos (.inl (by rw [h]; rfl)), h, Num.val_zero]
      have : (if b.neg = true then -(0 * pw 0) else 0 * pw 0) = 0 := by split <;> simp
      rw [this]; exact zero_side _ _
    · right
      refine ⟨k, by rw [h.kind]; decide, ?_⟩
      rw [if_neg (by rw [h.kind, k.kind]; decide), if_neg (by rw [h.kind]; decide)]
      have e : (if b.neg = true then -(a.val * pw 0) else a.val * pw 0) = if (a.neg != b.neg) then -(a.W * pw 0) else a.W * pw 0 := by
        unfold Num.val; cases a.neg <;> cases b.neg <;> simp [Int.neg_mul]
      rw [e]
      exact divF_side h k up
    · left
      have ha : a.kind = 2 := by rw [h]; rfl
      refine ⟨k, ha, ?_⟩
      rw [if_neg (by rw [ha, k.kind]; decide), if_pos ha]
  · left
    have hk : b.kind = 2 := by rw [k]; rfl
    exact ⟨hk, by rw [if_neg (by rw [hk]; decide), if_pos (.inr hk)]⟩

theorem div_may {a b : Num} (ma : a.may = true) (mb : b.may = true) (oa : a.ok) (ob : b.ok) (hb : b.val ≠ 0) (up : Bool) : (Num.div a b up).may = true ∧ (Num.div a b up).ok := by
  rcases div_core ma mb oa ob hb up with h | h | h
  · rw [h.2]; exact ⟨Num.zero_may, Num.zero_ok⟩
  · rw [h.2.2]; exact ⟨Num.inf_may _, Num.inf_ok _⟩
  · exact ⟨h.2.2.may, h.2.2.ok⟩

/-- the quotient to below is not above v, which is v * w / w -/
theorem div_dn {a b : Num} {v w : Int} (ma : a.may = true) (mb : b.may = true) (oa : a.ok) (ob : b.ok) (hb : b.val ≠ 0) (hw : 0 < w) (hw' : w < pw 1048640) (hv : -pw 1048640 ≤ v)
    (hA : (a.kind = 2 ∧ a.neg ≠ b.neg) ∨ (a.kind ≠ 2 ∧ (if b.neg then -(a.val * pw 0) else a.val * pw 0) ≤ v * w))
    (h : (0 ≤ v ∧ w ≤ b.W) ∨ (v ≤ 0 ∧ b.W ≤ w)) : (Num.div a b false).val ≤ v := by
  rcases div_core ma mb oa ob hb false with ⟨k1, k2⟩ | ⟨k1, k2, k3⟩ | ⟨k1, k2, k3⟩
  · rw [k2, Num.val_zero]
    rcases h with h | h
    · exact h.1
    · have : b.W = pw 1048640 := by unfold Num.W; rw [k1]; rfl
      omega
  · rcases hA with hA | hA
    · rw [k3, Num.val_inf]
      have : (a.neg != b.neg) = true := by simpa using hA.2
      rw [this]; simpa using hv
    · exact absurd k2 hA.1
  · rcases hA with hA | hA
    · exact absurd hA.1 k2
    · rcases (k3.down rfl).2 with g | g
      · rw [g, Num.val_inf]; simpa using hv
      · have e1 : v * w ≤ v * b.W := by
          rcases h with h | h
          · exact Int.mul_le_mul_of_nonneg_left h.2 h.1
          · have := Int.mul_le_mul_of_nonneg_left h.2 (show 0 ≤ -v by omega)
            rw [Int.neg_mul, Int.neg_mul] at this; omega
        have := Int.le_trans g (Int.le_trans hA.2 e1)
        exact Int.le_of_mul_le_mul_right this k1.lt.1

theorem div_up {a b : Num} {v w : Int} (ma : a.may = true) (mb : b.may = true) (oa : a.ok) (ob : b.ok) (hb : b.val ≠ 0) (hw : 0 < w) (hw' : w < pw 1048640) (hv : v ≤ pw 1048640)
    (hA : (a.kind = 2 ∧ a.neg = b.neg) ∨ (a.kind ≠ 2 ∧ v * w ≤ (if b.neg then -(a.val * pw 0) else a.val * pw 0)))
    (h : (0 ≤ v ∧ b.W ≤ w) ∨ (v ≤ 0 ∧ w ≤ b.W)) : v ≤ (Num.div a b true).val := by
  rcases div_core ma mb oa ob hb true with ⟨k1, k2⟩ | ⟨k1, k2, k3⟩ | ⟨k1, k2, k3⟩
  · rw [k2, Num.val_zero]
    rcases h with h | h
    · have : b.W = pw 1048640 := by unfold Num.W; rw [k1]; rfl
      omega
    · exact h.1
  · rcases hA with hA | hA
    · rw [k3, Num.val_inf, hA.2]; simpa using hv
    · exact absurd k2 hA.1
  · rcases hA with hA | hA
    · exact absurd hA.1 k2
    · rcases (k3.up rfl).2 with g | g
      · rw [g, Num.val_inf]; simpa using hv
      · have e1 : v * b.W ≤ v * w := by
          rcases h with h | h
          · exact Int.mul_le_mul_of_nonneg_left h.2 h.1
          · have := Int.mul_le_mul_of_nonneg_left h.2 (show 0 ≤ -v by omega)
            rw [Int.neg_mul, Int.neg_mul] at this; omega
        have := Int.le_trans e1 (Int.le_trans hA.2 g)
        exact Int.le_of_mul_le_mul_right this k1.lt.1

/-- v is between what four corners make, if it is not below one to below and not above one to above -/
theorem corners_has {F : Num → Num → Bool → Num} {a b : Iv} {v : Int} (hF : ∀ x ∈ [a.lo, a.hi], ∀ y ∈ [b.lo, b.hi], ∀ up, (F x y up).may = true ∧ (F x y up).ok) (h1 : -pw 1048640 < v) (h2 : v < pw 1048640)
    (hd : ∃ x ∈ [a.lo, a.hi], ∃ y ∈ [b.lo, b.hi], (F x y false).val ≤ v) (hu : ∃ x ∈ [a.lo, a.hi], ∃ y ∈ [b.lo, b.hi], v ≤ (F x y true).val) :
    (Iv.corners F a b).Real ∧ (Iv.corners F a b).lo.val ≤ v ∧ v ≤ (Iv.corners F a b).hi.val := by
  have all : ∀ up, ∀ x ∈ [F a.lo b.lo up, F a.lo b.hi up, F a.hi b.lo up, F a.hi b.hi up], x.may = true ∧ x.ok := by
    intro up x hx
    simp only [List.mem_cons, List.not_mem_nil, or_false] at hx
    rcases hx with rfl | rfl | rfl | rfl <;> exact hF _ (by simp) _ (by simp) up
  have inl : ∀ up, ∀ x ∈ [a.lo, a.hi], ∀ y ∈ [b.lo, b.hi], F x y up ∈ [F a.lo b.lo up, F a.lo b.hi up, F a.hi b.lo up, F a.hi b.hi up] := by
    intro up x hx y hy
    simp only [List.mem_cons, List.not_mem_nil, or_false] at hx hy ⊢
    rcases hx with rfl | rfl <;> rcases hy with rfl | rfl <;> simp
  obtain ⟨l1, l2, l3, _⟩ := Num.least_spec _ (fun x hx => (all false x hx).2)
  obtain ⟨m1, m2, m3, _⟩ := Num.most_spec _ (fun x hx => (all true x hx).2)
  unfold Iv.corners
  obtain ⟨x, hx, y, hy, hd⟩ := hd
  obtain ⟨x', hx', y', hy', hu⟩ := hu
  have d := l3 _ (inl false x hx y hy)
  rw [Num.fair_of_may (hF x hx y hy false).1] at d
  have u := m3 _ (inl true x' hx' y' hy')
  rw [Num.fair_of_may (hF x' hx' y' hy' true).1] at u
  generalize Num.least _ = L at *
  generalize Num.most _ = M at *
  have R : (Iv.mk false L.fair M.fair).Real := by
    rw [Num.fair_of_may l1, Num.fair_of_may m1]
    exact ⟨rfl, l1, m1, l2, m2, by show L.val ≤ M.val; omega, by show L.val < _; omega, by show _ < M.val; omega⟩
  rw [Iv.make_real R]
  refine ⟨R, ?_, ?_⟩
  · show L.fair.val ≤ v; rw [Num.fair_of_may l1]; omega
  · show v ≤ M.fair.val; rw [Num.fair_of_may m1]; omega

theorem Iv.anyBad2 {a b : Iv} (ha : a.Real) (hb : b.Real) : Iv.anyBad [a, b] = false := by
  simp [Iv.anyBad, ha.good, hb.good]

theorem Iv.has_iff {x : Iv} {n : Num} (hn : n.ok) (o1 : x.lo.ok) (o2 : x.hi.ok) :
    Iv.has x n = true ↔ (n.fair.kind ≠ 2 ∧ x.Real ∧ x.lo.val ≤ n.fair.val ∧ n.fair.val ≤ x.hi.val) := by
  have mn := n.fair_may
  have on := Num.fair_ok hn
  have fv := Num.fin_val mn on
  unfold Iv.has Iv.point
  rcases Iv.make_cases hn hn with ⟨e, h⟩ | ⟨e, h⟩
  · rw [e]
    constructor
    · intro g; simp [Iv.none] at g
    · rintro ⟨k, _⟩
      have k' := fv.1 k
      exact absurd ⟨rfl, mn, mn, on, on, Int.le_refl _, k'.2, k'.1⟩ h
  · rw [e]
    have k : n.fair.kind ≠ 2 := fv.2 ⟨h.gt, h.lt⟩
    unfold Iv.within
    rw [h.fair]
    by_cases hx : x.Real
    · rw [hx.fair]
      simp only [hx.some, Bool.not_false, Bool.true_and, Bool.false_or, Bool.and_eq_true, decide_eq_true_eq]
      rw [Num.cmp_le hx.loo on, Num.cmp_le on hx.hio, Num.fair_of_may hx.lom, Num.fair_of_may hx.him, Num.fair_fair]
      exact ⟨fun g => ⟨k, hx, g⟩, fun g => g.2.2⟩
    · constructor
      · intro g
        exfalso
        apply hx
        have hm : x.may = true := by
          cases hh : x.may
          · rw [show x.fair = Iv.none by unfold Iv.fair; rw [if_neg (by simp [hh])]] at g
            simp [Iv.none] at g
          · rfl
        have he : x.empty = false := by
          cases hh : x.empty
          · rfl
          · rw [show x.fair = Iv.none by rw [Iv.empty_may hm hh]; rfl] at g
            simp [Iv.none] at g
        exact Iv.real_of hm he o1 o2
      · exact fun g => absurd g.2.1 hx

theorem Num.val_pos {n : Num} (m : n.may = true) (o : n.ok) : (0 < n.val → n.neg = false ∧ n.W = n.val ∧ n.sign = 1) ∧ (n.val < 0 → n.neg = true ∧ n.W = -n.val ∧ n.sign = -1) ∧ (n.val = 0 → n.sign = 0 ∧ n = Num.zero) := by
  rcases Num.sign_of m o with h | h | h
  · refine ⟨fun g => by omega, fun g => by omega, fun _ => ⟨h.1, h.2.2.2⟩⟩
  · refine ⟨fun g => ⟨h.2.2.2.1, by omega, h.1⟩, fun g => by omega, fun g => by omega⟩
  · refine ⟨fun g => by omega, fun g => ⟨h.2.2.2.1, by omega, h.1⟩, fun g => by omega⟩

theorem Num.inf_val {n : Num} (m : n.may = true) (o : n.ok) (k : n.kind = 2) : (n.neg = true ∧ n.val = -pw 1048640) ∨ (n.neg = false ∧ n.val = pw 1048640) := by
  have e := Num.inf_of m o k
  cases hn : n.neg
  · right; rw [e, hn]; exact ⟨rfl, rfl⟩
  · left; rw [e, hn]; exact ⟨rfl, rfl⟩

/-- what may be below, and above, an exact number -/
def Num.below (n : Num) (x : Int) : Prop := n = Num.inf true ∨ (n.kind ≠ 2 ∧ n.val * pw 0 ≤ x)
def Num.above (n : Num) (x : Int) : Prop := n = Num.inf false ∨ (n.kind ≠ 2 ∧ x ≤ n.val * pw 0)

theorem Num.below_neg {n : Num} {x : Int} (h : n.below x) (g : n.kind = 2) : n.neg = true := by
  rcases h with h | h
  · rw [h]; rfl
  · exact absurd g h.1
theorem Num.above_pos {n : Num} {x : Int} (h : n.above x) (g : n.kind = 2) : n.neg = false := by
  rcases h with h | h
  · rw [h]; rfl
  · exact absurd g h.1
theorem Num.below_le {n : Num} {x : Int} (h : n.below x) (g : n.kind ≠ 2) : n.val * pw 0 ≤ x := by
  rcases h with h | h
  · rw [h] at g; exact absurd rfl g
  · exact h.2
theorem Num.above_le {n : Num} {x : Int} (h : n.above x) (g : n.kind ≠ 2) : x ≤ n.val * pw 0 := by
  rcases h with h | h
  · rw [h] at g; exact absurd rfl g
  · exact h.2

theorem Iv.div_has {a b : Iv} {v w : Int} (ha : a.Real) (hb : b.Real) (hw : w ≠ 0) (b1 : b.lo.val ≤ w) (b2 : w ≤ b.hi.val) (w1 : -pw 1048640 < w) (w2 : w < pw 1048640)
    (v1 : -pw 1048640 < v) (v2 : v < pw 1048640) (a1 : a.lo.below (v * w)) (a2 : a.hi.above (v * w)) :
    (Iv.div a b).Real ∧ (Iv.div a b).lo.val ≤ v ∧ v ≤ (Iv.div a b).hi.val := by
  have pl := Num.val_pos hb.lom hb.loo
  have ph := Num.val_pos hb.him hb.hio
  have ql := Num.val_pos ha.lom ha.loo
  have qh := Num.val_pos ha.him ha.hio
  have P := pw_pos 1048640
  have kl := hb.lt
  have kh := hb.gt
  have em : (-v) * (-w) = v * w := by rw [Int.neg_mul_neg]
  have em2 : v * (-w) = -(v * w) := by rw [Int.mul_neg]
  unfold Iv.div
  rw [Iv.anyBad2 ha hb]
  rw [if_neg (by
    rintro (h | ⟨h, h'⟩)
    · cases h
    · have e1 : b.lo.val = 0 := by
        rcases Int.lt_trichotomy b.lo.val 0 with g | g | g
        · have := (pl.2.1 g).2.2; omega
        · exact g
        · have := (pl.1 g).2.2; omega
      have e2 : b.hi.val = 0 := by
        rcases Int.lt_trichotomy b.hi.val 0 with g | g | g
        · have := (ph.2.1 g).2.2; omega
        · exact g
        · have := (ph.1 g).2.2; omega
      omega)]
  by_cases c1 : 0 < b.lo.val
  · rw [if_pos (.inl (by rw [(pl.1 c1).2.2]; decide))]
    have c2 : 0 < b.hi.val := by omega
    have hw0 : 0 < w := by omega
    obtain ⟨l1, l2, l3⟩ := pl.1 c1
    obtain ⟨h1, h2, h3⟩ := ph.1 c2
    refine corners_has ?_ v1 v2 ?_ ?_
    · intro x hx y hy up
      simp only [List.mem_cons, List.not_mem_nil, or_false] at hx hy
      rcases hx with rfl | rfl <;> rcases hy with rfl | rfl <;> first | exact div_may ha.lom hb.lom ha.loo hb.loo (by omega) up | exact div_may ha.lom hb.him ha.loo hb.hio (by omega) up | exact div_may ha.him hb.lom ha.hio hb.loo (by omega) up | exact div_may ha.him hb.him ha.hio hb.hio (by omega) up
    · have hA : ∀ y : Num, y.neg = false → (a.lo.kind = 2 ∧ a.lo.neg ≠ y.neg) ∨ (a.lo.kind ≠ 2 ∧ (if y.neg then -(a.lo.val * pw 0) else a.lo.val * pw 0) ≤ v * w) := by
        intro y hy
        by_cases g : a.lo.kind = 2
        · exact .inl ⟨g, by rw [Num.below_neg a1 g, hy]; decide⟩
        · exact .inr ⟨g, by rw [hy]; exact Num.below_le a1 g⟩
      by_cases hv : 0 ≤ v
      · exact ⟨a.lo, by simp, b.hi, by simp, div_dn ha.lom hb.him ha.loo hb.hio (by omega) hw0 w2 (by omega) (hA _ h1) (.inl ⟨hv, by omega⟩)⟩
      · exact ⟨a.lo, by simp, b.lo, by simp, div_dn ha.lom hb.lom ha.loo hb.loo (by omega) hw0 w2 (by omega) (hA _ l1) (.inr ⟨by omega, by omega⟩)⟩
    · have hA : ∀ y : Num, y.neg = false → (a.hi.kind = 2 ∧ a.hi.neg = y.neg) ∨ (a.hi.kind ≠ 2 ∧ v * w ≤ (if y.neg then -(a.hi.val * pw 0) else a.hi.val * pw 0)) := by
        intro y hy
        by_cases g : a.hi.kind = 2
        · exact .inl ⟨g, by rw [Num.above_pos a2 g, hy]⟩
        · exact .inr ⟨g, by rw [hy]; exact Num.above_le a2 g⟩
      by_cases hv : 0 ≤ v
      · exact ⟨a.hi, by simp, b.lo, by simp, div_up ha.him hb.lom ha.hio hb.loo (by omega) hw0 w2 (by omega) (hA _ l1) (.inl ⟨hv, by omega⟩)⟩
      · exact ⟨a.hi, by simp, b.hi, by simp, div_up ha.him hb.him ha.hio hb.hio (by omega) hw0 w2 (by omega) (hA _ h1) (.inr ⟨by omega, by omega⟩)⟩
  by_cases c2 : b.hi.val < 0
  · rw [if_pos (.inr (by rw [(ph.2.1 c2).2.2]; decide))]
    have c3 : b.lo.val < 0 := by omega
    have hw0 : 0 < -w := by omega
    obtain ⟨l1, l2, l3⟩ := pl.2.1 c3
    obtain ⟨h1, h2, h3⟩ := ph.2.1 c2
    refine corners_has ?_ v1 v2 ?_ ?_
    · intro x hx y hy up
      simp only [List.mem_cons, List.not_mem_nil, or_false] at hx hy
      rcases hx with rfl | rfl <;> rcases hy with rfl | rfl <;> first | exact div_may ha.lom hb.lom ha.loo hb.loo (by omega) up | exact div_may ha.lom hb.him ha.loo hb.hio (by omega) up | exact div_may ha.him hb.lom ha.hio hb.loo (by omega) up | exact div_may ha.him hb.him ha.hio hb.hio (by omega) up
    · have hA : ∀ y : Num, y.neg = true → (a.hi.kind = 2 ∧ a.hi.neg ≠ y.neg) ∨ (a.hi.kind ≠ 2 ∧ (if y.neg then -(a.hi.val * pw 0) else a.hi.val * pw 0) ≤ v * (-w)) := by
        intro y hy
        by_cases g : a.hi.kind = 2
        · exact .inl ⟨g, by rw [Num.above_pos a2 g, hy]; decide⟩
        · exact .inr ⟨g, by rw [hy, em2]; have := Num.above_le a2 g; simp; omega⟩
      by_cases hv : 0 ≤ v
      · exact ⟨a.hi, by simp, b.lo, by simp, div_dn ha.him hb.lom ha.hio hb.loo (by omega) hw0 (by omega) (by omega) (hA _ l1) (.inl ⟨hv, by omega⟩)⟩
      · exact ⟨a.hi, by simp, b.hi, by simp, div_dn ha.him hb.him ha.hio hb.hio (by omega) hw0 (by omega) (by omega) (hA _ h1) (.inr ⟨by omega, by omega⟩)⟩
    · have hA : ∀ y : Num, y.neg = true → (a.lo.kind = 2 ∧ a.lo.neg = y.neg) ∨ (a.lo.kind ≠ 2 ∧ v * (-w) ≤ (if y.neg then -(a.lo.val * pw 0) else a.lo.val * pw 0)) := by
        intro y hy
        by_cases g : a.lo.kind = 2
        · exact .inl ⟨g, by rw [Num.below_neg a1 g, hy]⟩
        · exact .inr ⟨g, by rw [hy, em2]; have := Num.below_le a1 g; simp; omega⟩
      by_cases hv : 0 ≤ v
      · exact ⟨a.lo, by simp, b.hi, by simp, div_up ha.lom hb.him ha.loo hb.hio (by omega) hw0 (by omega) (by omega) (hA _ h1) (.inl ⟨hv, by omega⟩)⟩
      · exact ⟨a.lo, by simp, b.lo, by simp, div_up ha.lom hb.lom ha.loo hb.loo (by omega) hw0 (by omega) (by omega) (hA _ l1) (.inr ⟨by omega, by omega⟩)⟩
  have s1 : ¬ (0 < b.lo.sign ∨ b.hi.sign < 0) := by
    rintro (h | h)
    · rcases Int.lt_trichotomy b.lo.val 0 with g | g | g
      · have := (pl.2.1 g).2.2; omega
      · have := (pl.2.2 g).1; omega
      · exact c1 g
    · rcases Int.lt_trichotomy b.hi.val 0 with g | g | g
      · exact c2 g
      · have := (ph.2.2 g).1; omega
      · have := (ph.1 g).2.2; omega
  rw [if_neg s1]
  by_cases c3 : (b.lo.sign < 0 ∧ 0 < b.hi.sign) ∨ Iv.has a Num.zero = true
  · rw [if_pos c3]
    refine ⟨⟨rfl, Num.inf_may _, Num.inf_may _, Num.inf_ok _, Num.inf_ok _, ?_, ?_, ?_⟩, ?_, ?_⟩ <;> simp only [Iv.all, Num.val_inf] <;> simp <;> omega
  rw [if_neg c3]
  have c4 : ¬ (b.lo.sign < 0 ∧ 0 < b.hi.sign) := fun h => c3 (.inl h)
  have c5 : ¬ (a.lo.val ≤ 0 ∧ 0 ≤ a.hi.val) := fun h => c3 (.inr ((Iv.has_iff Num.zero_ok ha.loo ha.hio).2 ⟨by decide, ha, h.1, h.2⟩))
  have c6 : ¬ (b.lo.val < 0 ∧ 0 < b.hi.val) := fun h => c4 ⟨by rw [(pl.2.1 h.1).2.2]; decide, by rw [(ph.1 h.2).2.2]; decide⟩
  -- the nearest end of the dividend, the farthest one of the divisor
  have near : ∃ n, (if a.lo.sign < 0 then a.hi else a.lo) = n ∧ n.may = true ∧ n.ok ∧ n.kind ≠ 2 ∧ ((0 < n.val ∧ n.val * pw 0 ≤ v * w) ∨ (n.val < 0 ∧ v * w ≤ n.val * pw 0)) := by
    have := ha.lt; have := ha.gt; have := ha.le
    by_cases g : 0 < a.lo.val
    · have k := (Num.fin_val ha.lom ha.loo).2 ⟨by omega, by omega⟩
      exact ⟨a.lo, by rw [if_neg (by rw [(ql.1 g).2.2]; decide)], ha.lom, ha.loo, k, .inl ⟨g, Num.below_le a1 k⟩⟩
    · have g' : a.hi.val < 0 := by omega
      have k := (Num.fin_val ha.him ha.hio).2 ⟨by omega, by omega⟩
      exact ⟨a.hi, by rw [if_pos (by rw [(ql.2.1 (by omega)).2.2]; decide)], ha.him, ha.hio, k, .inr ⟨g', Num.above_le a2 k⟩⟩
  have far : ∃ f, (if b.hi.sign = 0 then b.lo else b.hi) = f ∧ f.may = true ∧ f.ok ∧ ((0 < f.val ∧ w ≤ f.val ∧ 0 < w) ∨ (f.val < 0 ∧ f.val ≤ w ∧ w < 0)) := by
    by_cases g : b.hi.val = 0
    · exact ⟨b.lo, by rw [if_pos (ph.2.2 g).1], hb.lom, hb.loo, .inr ⟨by omega, by omega, by omega⟩⟩
    · have g' : 0 < b.hi.val := by omega
      exact ⟨b.hi, by rw [if_neg (by rw [(ph.1 g').2.2]; decide)], hb.him, hb.hio, .inl ⟨by omega, by omega, by omega⟩⟩
  obtain ⟨n, en, nm, no, nk, n1⟩ := near
  obtain ⟨f, ef, fm, fo, f1⟩ := far
  rw [en, ef]
  have p0 := pw_pos 0
  have pn := Num.val_pos nm no
  have pf := Num.val_pos fm fo
  have vs : (0 < v * w → (0 < w → 0 < v) ∧ (w < 0 → v < 0)) ∧ (v * w < 0 → (0 < w → v < 0) ∧ (w < 0 → 0 < v)) := by
    refine ⟨fun h => ⟨fun g => ?_, fun g => ?_⟩, fun h => ⟨fun g => ?_, fun g => ?_⟩⟩
    · rcases Int.lt_or_le 0 v with k | k
      · exact k
      · have := Int.mul_nonneg (show 0 ≤ -v by omega) (show 0 ≤ w by omega); rw [Int.neg_mul] at this; omega
    · rcases Int.lt_or_le v 0 with k | k
      · exact k
      · have := Int.mul_nonneg k (show 0 ≤ -w by omega); rw [Int.mul_neg] at this; omega
    · rcases Int.lt_or_le v 0 with k | k
      · exact k
      · have := Int.mul_nonneg k (show 0 ≤ w by omega); omega
    · rcases Int.lt_or_le 0 v with k | k
      · exact k
      · have := Int.mul_nonneg (show 0 ≤ -v by omega) (show 0 ≤ -w by omega); rw [em] at this; omega
  have xs : (0 < n.val → 0 < v * w) ∧ (n.val < 0 → v * w < 0) := by
    constructor
    · intro g
      have := Int.mul_pos g p0
      rcases n1 with h | h <;> omega
    · intro g
      have := Int.mul_neg_of_neg_of_pos g p0
      rcases n1 with h | h <;> omega
  have fin : ∀ r : Num, r.may = true → r.ok → r.val ≤ v → (Iv.make r (Num.inf false)).Real ∧ (Iv.make r (Num.inf false)).lo.val ≤ v ∧ v ≤ (Iv.make r (Num.inf false)).hi.val := by
    intro r m o h
    have R : (Iv.mk false r.fair (Num.inf false).fair).Real := by
      rw [Num.fair_of_may m, Num.fair_of_may (Num.inf_may _)]
      refine ⟨rfl, m, Num.inf_may _, o, Num.inf_ok _, ?_, ?_, ?_⟩ <;> (try simp only [Num.val_inf]) <;> (try simp) <;> omega
    rw [Iv.make_real R]
    refine ⟨R, by show r.fair.val ≤ v; rw [Num.fair_of_may m]; exact h, ?_⟩
    show v ≤ (Num.inf false).fair.val
    rw [Num.fair_of_may (Num.inf_may _)]; show v ≤ pw 1048640; omega
  have fin' : ∀ r : Num, r.may = true → r.ok → v ≤ r.val → (Iv.make (Num.inf true) r).Real ∧ (Iv.make (Num.inf true) r).lo.val ≤ v ∧ v ≤ (Iv.make (Num.inf true) r).hi.val := by
    intro r m o h
    have R : (Iv.mk false (Num.inf true).fair r.fair).Real := by
      rw [Num.fair_of_may m, Num.fair_of_may (Num.inf_may _)]
      refine ⟨rfl, Num.inf_may _, m, Num.inf_ok _, o, ?_, ?_, ?_⟩ <;> (try simp only [Num.val_inf]) <;> (try simp) <;> omega
    rw [Iv.make_real R]
    refine ⟨R, ?_, by show v ≤ r.fair.val; rw [Num.fair_of_may m]; exact h⟩
    show (Num.inf true).fair.val ≤ v
    rw [Num.fair_of_may (Num.inf_may _)]; show -pw 1048640 ≤ v; omega
  unfold Iv.half
  rcases n1 with ⟨g1, g2⟩ | ⟨g1, g2⟩ <;> rcases f1 with ⟨k1, k2, k3⟩ | ⟨k1, k2, k3⟩
  · obtain ⟨t1, t2, t3⟩ := pn.1 g1
    obtain ⟨u1, u2, u3⟩ := pf.1 k1
    rw [if_pos (by omega)]
    have m := div_may nm fm no fo (show f.val ≠ 0 by omega) false
    have vp := (vs.1 (xs.1 g1)).1 k3
    exact fin _ m.1 m.2 (div_dn nm fm no fo (by omega) k3 w2 (by omega) (.inr ⟨nk, by rw [u1]; exact g2⟩) (.inl ⟨by omega, by omega⟩))
  · obtain ⟨t1, t2, t3⟩ := pn.1 g1
    obtain ⟨u1, u2, u3⟩ := pf.2.1 k1
    rw [if_neg (by omega)]
    have m := div_may nm fm no fo (show f.val ≠ 0 by omega) true
    have vp := (vs.1 (xs.1 g1)).2 k3
    exact fin' _ m.1 m.2 (div_up (w := -w) nm fm no fo (by omega) (by omega) (by omega) (by omega) (.inr ⟨nk, by rw [u1, em2]; simp; omega⟩) (.inr ⟨by omega, by omega⟩))
  · obtain ⟨t1, t2, t3⟩ := pn.2.1 g1
    obtain ⟨u1, u2, u3⟩ := pf.1 k1
    rw [if_neg (by omega)]
    have m := div_may nm fm no fo (show f.val ≠ 0 by omega) true
    have vp := (vs.2 (xs.2 g1)).1 k3
    exact fin' _ m.1 m.2 (div_up nm fm no fo (by omega) k3 w2 (by omega) (.inr ⟨nk, by rw [u1]; exact g2⟩) (.inr ⟨by omega, by omega⟩))
  · obtain ⟨t1, t2, t3⟩ := pn.2.1 g1
    obtain ⟨u1, u2, u3⟩ := pf.2.1 k1
    rw [if_pos (by omega)]
    have m := div_may nm fm no fo (show f.val ≠ 0 by omega) false
    have vp := (vs.2 (xs.2 g1)).2 k3
    exact fin _ m.1 m.2 (div_dn (w := -w) nm fm no fo (by omega) (by omega) (by omega) (by omega) (.inr ⟨nk, by rw [u1, em2]; simp; omega⟩) (.inl ⟨by omega, by omega⟩))

theorem Iv.point_real {n : Num} (m : n.may = true) (o : n.ok) (k : n.kind ≠ 2) : Iv.point n = ⟨false, n, n⟩ ∧ (Iv.mk false n n).Real := by
  have k' := (Num.fin_val m o).1 k
  have R : (Iv.mk false n n).Real := ⟨rfl, m, m, o, o, Int.le_refl _, k'.2, k'.1⟩
  refine ⟨?_, R⟩
  unfold Iv.point
  rw [Iv.make_real (by rw [Num.fair_of_may m]; exact R), Num.fair_of_may m]

theorem Iv.mul_points {y z : Num} (my : y.may = true) (mz : z.may = true) (oy : y.ok) (oz : z.ok) (ky : y.kind ≠ 2) (kz : z.kind ≠ 2) :
    (Iv.mul (Iv.point y) (Iv.point z)).Real ∧ (Iv.mul (Iv.point y) (Iv.point z)).lo.below (y.val * z.val) ∧ (Iv.mul (Iv.point y) (Iv.point z)).hi.above (y.val * z.val) := by
  obtain ⟨ey, ry⟩ := Iv.point_real my oy ky
  obtain ⟨ez, rz⟩ := Iv.point_real mz oz kz
  rw [ey, ez]
  unfold Iv.mul
  rw [Iv.anyBad2 ry rz, if_neg (by decide)]
  unfold Iv.corners
  dsimp only
  have d := mul_side my mz oy oz ky kz false
  have u := mul_side my mz oy oz ky kz true
  generalize Num.mul y z false = p at *
  generalize Num.mul y z true = q at *
  obtain ⟨d1, d2⟩ := d.down rfl
  obtain ⟨u1, u2⟩ := u.up rfl
  have p0 := pw_pos 0
  have P := pw_pos 1048640
  obtain ⟨l1, l2, l3, l4⟩ := Num.least_spec [p, p, p, p] (by simp [d.ok])
  obtain ⟨m1, m2, m3, m4⟩ := Num.most_spec [q, q, q, q] (by simp [u.ok])
  have dv := (Num.ne_inf d.may d.ok).1.1 d1
  have uv := (Num.ne_inf u.may u.ok).2.1 u1
  have el : Num.least [p, p, p, p] = p := by
    have a := l3 p (by simp)
    rw [Num.fair_of_may d.may] at a
    rcases l4 with l4 | ⟨x, hx, l4⟩
    · rw [l4, Num.val_inf] at a; simp at a; omega
    · have : x = p := by simpa using hx
      rw [l4, this, Num.fair_of_may d.may]
  have em : Num.most [q, q, q, q] = q := by
    have a := m3 q (by simp)
    rw [Num.fair_of_may u.may] at a
    rcases m4 with m4 | ⟨x, hx, m4⟩
    · rw [m4, Num.val_inf] at a; simp at a; omega
    · have : x = q := by simpa using hx
      rw [m4, this, Num.fair_of_may u.may]
  rw [el, em]
  have pk : p = Num.inf true ∨ (p.kind ≠ 2 ∧ p.val * pw 0 ≤ y.val * z.val) := by
    rcases d2 with h | h
    · exact .inl h
    · by_cases hk : p.kind = 2
      · rcases Num.inf_val d.may d.ok hk with g | g
        · exact .inl (by rw [Num.inf_of d.may d.ok hk, g.1])
        · exact absurd (by rw [Num.inf_of d.may d.ok hk, g.1]) d1
      · exact .inr ⟨hk, h⟩
  have qk : q = Num.inf false ∨ (q.kind ≠ 2 ∧ y.val * z.val ≤ q.val * pw 0) := by
    rcases u2 with h | h
    · exact .inl h
    · by_cases hk : q.kind = 2
      · rcases Num.inf_val u.may u.ok hk with g | g
        · exact absurd (by rw [Num.inf_of u.may u.ok hk, g.1]) u1
        · exact .inl (by rw [Num.inf_of u.may u.ok hk, g.1])
      · exact .inr ⟨hk, h⟩
  have le : p.val ≤ q.val := by
    rcases pk with h | h
    · rw [h, Num.val_inf]; have := Num.val_le u.may u.ok; simp; omega
    · rcases qk with k | k
      · rw [k, Num.val_inf]; have := Num.val_le d.may d.ok; simp; omega
      · exact Int.le_of_mul_le_mul_right (Int.le_trans h.2 k.2) p0
  have R : (Iv.mk false p.fair q.fair).Real := by
    rw [Num.fair_of_may d.may, Num.fair_of_may u.may]
    exact ⟨rfl, d.may, u.may, d.ok, u.ok, le, dv, uv⟩
  rw [Iv.make_real R]
  refine ⟨R, ?_, ?_⟩
  · show p.fair.below _; rw [Num.fair_of_may d.may]; exact pk
  · show q.fair.above _; rw [Num.fair_of_may u.may]; exact qk

/-- a number times a divisor, divided by it, is within the quotient -/
theorem quotients {b : Iv} {y z : Num} (oy : y.ok) (oz : z.ok) (o1 : b.lo.ok) (o2 : b.hi.ok) (h1 : Iv.has b y = true) (h2 : y.sign ≠ 0) (h3 : z.kind ≠ 2) (h4 : z.may = true) :
    Iv.has (Iv.div (Iv.mul (Iv.point y) (Iv.point z)) b) z = true := by
  obtain ⟨k, R, l, u⟩ := (Iv.has_iff oy o1 o2).1 h1
  have my : y.may = true := by
    cases hh : y.may
    · exfalso; apply h2
      have e : y.fair = Num.zero := by unfold Num.fair; rw [if_neg (by simp [hh])]
      unfold Num.sign; rw [e]; rfl
    · rfl
  rw [Num.fair_of_may my] at k l u
  obtain ⟨r1, r2, r3⟩ := Iv.mul_points my h4 oy oz k h3
  have vy := (Num.fin_val my oy).1 k
  have vz := (Num.fin_val h4 oz).1 h3
  have hy : y.val ≠ 0 := fun g => h2 ((Num.val_pos my oy).2.2 g).1
  rw [Int.mul_comm] at r2 r3
  obtain ⟨q1, q2, q3⟩ := Iv.div_has r1 R hy l u vy.1 vy.2 vz.1 vz.2 r2 r3
  exact (Iv.has_iff oz q1.loo q1.hio).2 ⟨by rw [Num.fair_of_may h4]; exact h3, q1, by rw [Num.fair_of_may h4]; exact q2, by rw [Num.fair_of_may h4]; exact q3⟩
end Go.Proofs.Ytincnfjihffllaa.Ev

/- Contracts: the product of intervals. -/
namespace Go.Proofs.Ytincnfjihffllaa.Ev
open Go Go.Proofs
set_option linter.unusedVariables false

theorem iv_cells_self {x : Iv} : sleL sle0 x.cells x.cells :=
  ⟨rfl, ⟨rfl, rfl⟩, rfl, ⟨rfl, rfl⟩, ⟨rfl, rfl⟩, ⟨rfl, rfl⟩, rfl, ⟨rfl, rfl⟩, ⟨rfl, rfl⟩, trivial⟩
theorem slcO2 {P : Program} {E : Env} (hE : E = realE P) {a b z : Iv} {d : List AV} : sle2 (.slc 9 (.l 2) (E.rfun [a.cells, b.cells] 0 d)) (.slc 9 (.s 2) (fun i => Iv.cells ([a, b].getD i z))) := by
  subst hE
  refine ⟨rfl, rfl, fun i hi => ?_⟩
  match i, hi with
  | 0, _ => exact iv_cells_self
  | 1, _ => exact iv_cells_self
  | i + 2, hi => exact absurd hi (by simp [SI.val])

theorem c_opMul (a b : Iv) (h1 : a.lo.ok) (h2 : a.hi.ok) (h3 : b.lo.ok) (h4 : b.hi.ok) : ∃ t, t = Iv.mul a b ∧ CallsA Try.prog 37 [a.av, b.av] t.av := by
  refine ⟨_, rfl, ?_⟩
  generalize hr : Iv.mul a b = r
  refine callsA_of hG hm Try.func37 (by kernel_rfl) ?_
  intro E hE lp hl
  cbv
  (apply E_callX hE (c_none [a, b] 2 rfl (by decide)); (case hf => rfl); (case hc => (cbv <;> trivial)); (case hle => exact ⟨slcO2 hE, trivial⟩); intro t ht; cbv)
  refine E_br hE (fun h => ?_) (fun h => ?_) <;> cbv
  · (apply E_callX hE c_ivNone; (case hf => rfl); (case hc => (cbv <;> trivial)); (case hle => exact trivial); intro t' ht'; cbv)
    have e : t' = r := by
      rw [← hr, ht']; unfold Iv.mul; rw [if_pos (by rw [← ht]; exact h)]
    subst e
    exact ⟨rfl, rfl, rfl, rfl, rfl, rfl, rfl, rfl, rfl, trivial⟩
  · (apply E_callX hE (c_corners a b 106 Num.mul Num.ok (fun x y up hx hy => c_arMul x y up hx hy) h1 h2 h3 h4); (case hf => rfl); (case hc => (cbv <;> trivial)); (case hle => (repeat' (first | exact u_nil | apply u_cons | apply u2_agg | exact u2_int | exact u1_int | exact u2_bool | exact u1_bool | exact u2_sli | exact u1_sli | exact u2_s0 | exact u1_s0 | exact u2_fn))); intro t' ht'; cbv)
    have e : t' = r := by
      rw [← hr, ht']; unfold Iv.mul; rw [if_neg (by rw [← ht, h]; simp)]; rfl
    subst e
    exact ⟨rfl, rfl, rfl, rfl, rfl, rfl, rfl, rfl, rfl, trivial⟩
end Go.Proofs.Ytincnfjihffllaa.Ev

/- Division of two words by one: plain Lean. -/
namespace Go.Proofs.Ytincnfjihffllaa.Ev
open Go

/-- a digit of the quotient, told too great at first: what holds of it -/
structure Dig (y u un q r : Int) : Prop where
  lt : u * 4294967296 + un < (q + 1) * y
  rest : r = u - q * (y / 4294967296)
  pos : 0 ≤ r
  small : r < 4294967296
  top : q ≤ 4294967297
  nn : 0 ≤ q

section
variable {y u un q r : Int}

theorem dig_start (h1 : 9223372036854775808 ≤ y) (h2 : y < 18446744073709551616) (hu : 0 ≤ u) (hu' : u < y) (hn : 0 ≤ un) (hn' : un < 4294967296) :
    Dig y u un (u / (y / 4294967296)) (u - u / (y / 4294967296) * (y / 4294967296)) := by
  generalize hy : y / 4294967296 = a
  have ha : 2147483648 ≤ a ∧ a < 4294967296 := by omega
  have e1 := Int.mul_ediv_add_emod u a
  have e2 := Int.emod_nonneg u (show a ≠ 0 by omega)
  have e3 := Int.emod_lt_of_pos u (show 0 < a by omega)
  have hq0 : 0 ≤ u / a := Int.ediv_nonneg hu (by omega)
  generalize u / a = q at *
  have e4 : q * a = u - u % a := by rw [Int.mul_comm]; omega
  refine ⟨?_, by rw [hy], by omega, by omega, ?_, hq0⟩
  · have e5 : (q + 1) * (a * 4294967296) ≤ (q + 1) * y := Int.mul_le_mul_of_nonneg_left (by omega) (by omega)
    have e6 : (q + 1) * (a * 4294967296) = (q * a + a) * 4294967296 := by grind
    omega
  · rcases Int.lt_or_le 4294967297 q with h | h
    · exfalso
      have e5 : 4294967298 * a ≤ q * a := Int.mul_le_mul_of_nonneg_right (by omega) (by omega)
      omega
    · exact h

/-- it is too great: one less -/
theorem dig_less (h1 : 9223372036854775808 ≤ y) (h2 : y < 18446744073709551616) (hu : 0 ≤ u) (hu' : u < y) (hn : 0 ≤ un) (hn' : un < 4294967296) (D : Dig y u un q r)
    (hc : 4294967296 ≤ q ∨ r * 4294967296 + un < q * (y % 4294967296)) : u * 4294967296 + un < (q - 1 + 1) * y ∧ r + y / 4294967296 = u - (q - 1) * (y / 4294967296) ∧ 1 ≤ q := by
  obtain ⟨d1, d2, d3, d4, d5, d6⟩ := D
  have hy : y = (y / 4294967296) * 4294967296 + y % 4294967296 := by omega
  generalize ha : y / 4294967296 = a at *
  generalize hb : y % 4294967296 = b at *
  have e1 : (q - 1 + 1) * y = q * a * 4294967296 + q * b := by rw [hy]; grind
  have e2 : (q - 1) * a = q * a - a := by grind
  have hq1 : 1 ≤ q := by
    rcases hc with hc | hc
    · omega
    · rcases Int.lt_or_le 0 q with h | h
      · omega
      · have : q = 0 := by omega
        subst this
        omega
  refine ⟨?_, by omega, hq1⟩
  rcases hc with hc | hc
  · have e3 : 4294967296 * y ≤ q * y := Int.mul_le_mul_of_nonneg_right hc (by omega)
    have e4 : (q - 1 + 1) * y = q * y := by grind
    omega
  · omega

/-- it is right -/
theorem dig_right (h1 : 9223372036854775808 ≤ y) (h2 : y < 18446744073709551616) (hr : r = u - q * (y / 4294967296)) (hc : q * (y % 4294967296) ≤ r * 4294967296 + un) : q * y ≤ u * 4294967296 + un := by
  have hy : y = (y / 4294967296) * 4294967296 + y % 4294967296 := by omega
  generalize ha : y / 4294967296 = a at *
  generalize hb : y % 4294967296 = b at *
  have e1 : q * y = q * a * 4294967296 + q * b := by rw [hy]; grind
  omega

theorem dig_break (h2 : y < 18446744073709551616) (hn : 0 ≤ un) (hq : q ≤ 4294967296) (hq0 : 0 ≤ q) (hr : 4294967296 ≤ r) : q * (y % 4294967296) ≤ r * 4294967296 + un := by
  have : q * (y % 4294967296) ≤ 4294967296 * (y % 4294967296) := Int.mul_le_mul_of_nonneg_right hq (by omega)
  omega

theorem blen_top {y : Int} (h1 : 9223372036854775808 ≤ y) (h2 : y < 18446744073709551616) : blen y = 64 := by
  have := (blen_iff (x := y) (by omega) 63).2 ⟨by simpa using h1, by simpa using h2⟩
  omega

theorem shl0 (x : Int) (h0 : 0 ≤ x) (h1 : x < 18446744073709551616) : IntKind.u64.wrap (x * 2 ^ min (Int.toNat 0) IntKind.u64.bits) = x := by
  rw [show (2 : Int) ^ min (Int.toNat 0) IntKind.u64.bits = 1 by decide, wu64]; omega
theorem shr64 (x : Int) (h0 : 0 ≤ x) (h1 : x < 18446744073709551616) : x.fdiv (2 ^ min (Int.toNat 64) IntKind.u64.bits) = 0 := by
  rw [show (2 : Int) ^ min (Int.toNat 64) IntKind.u64.bits = 18446744073709551616 by decide, shr_lit (by omega)]; omega
theorem or_0 (x : Int) (h0 : 0 ≤ x) (h1 : x < 18446744073709551616) : IntKind.u64.wrap ((BitVec.ofInt IntKind.u64.bits x ||| BitVec.ofInt IntKind.u64.bits 0).toNat : Int) = x := by
  show IntKind.u64.wrap ((BitVec.ofInt 64 x ||| BitVec.ofInt 64 0).toNat : Int) = x
  have e : BitVec.ofInt 64 x ||| BitVec.ofInt 64 0 = BitVec.ofInt 64 x := by
    rw [show BitVec.ofInt 64 0 = 0#64 by rfl]
    exact BitVec.or_zero
  rw [e, ofInt_toNat, wu64]; omega

/-- what the round sees: its words do not wrap -/
theorem dig_words (h1 : 9223372036854775808 ≤ y) (h2 : y < 18446744073709551616) (hn : 0 ≤ un) (hn' : un < 4294967296) (D : Dig y u un q r) :
    (q < 4294967296 → IntKind.u64.wrap (q * (y % 4294967296)) = q * (y % 4294967296)) ∧ IntKind.u64.wrap (IntKind.u64.wrap (4294967296 * r) + un) = r * 4294967296 + un ∧ IntKind.u64.wrap (r + y / 4294967296) = r + y / 4294967296 := by
  obtain ⟨d1, d2, d3, d4, d5, d6⟩ := D
  refine ⟨fun hq => ?_, ?_, ?_⟩
  · have e1 := Int.mul_nonneg d6 (show (0 : Int) ≤ y % 4294967296 by omega)
    have e2 : q * (y % 4294967296) ≤ 4294967295 * (y % 4294967296) := Int.mul_le_mul_of_nonneg_right (by omega) (by omega)
    rw [wu64]
    generalize q * (y % 4294967296) = p at *
    omega
  · rw [wu64, wu64]; omega
  · rw [wu64]; omega

/-- the digit, and what is left -/
structure Right (y u un q : Int) : Prop where
  le : q * y ≤ u * 4294967296 + un
  lt : u * 4294967296 + un < (q + 1) * y
  nn : 0 ≤ q
  small : q < 4294967296

theorem right_of (h1 : 9223372036854775808 ≤ y) (hu' : u < y) (hn' : un < 4294967296) (h3 : q * y ≤ u * 4294967296 + un) (h4 : u * 4294967296 + un < (q + 1) * y) (h5 : 0 ≤ q) : Right y u un q := by
  refine ⟨h3, h4, h5, ?_⟩
  rcases Int.lt_or_le q 4294967296 with h | h
  · exact h
  · exfalso
    have : 4294967296 * y ≤ q * y := Int.mul_le_mul_of_nonneg_right h (by omega)
    omega

theorem right_left (R : Right y u un q) : 0 ≤ u * 4294967296 + un - q * y ∧ u * 4294967296 + un - q * y < y := by
  have := R.lt
  have := R.le
  have e : (q + 1) * y = q * y + y := by grind
  omega

theorem right_wrap (h2 : y < 18446744073709551616) (R : Right y u un q) : IntKind.u64.wrap (IntKind.u64.wrap (IntKind.u64.wrap (u * 4294967296) + un) - IntKind.u64.wrap (q * y)) = u * 4294967296 + un - q * y := by
  have := right_left R
  rw [wu64, wu64, wu64, wu64]
  generalize q * y = p at *
  omega

theorem two_digits {u' un' q' : Int} (h0 : 0 < y) (hu : u' = u * 4294967296 + un - q * y) (R : Right y u un q) (R' : Right y u' un' q') :
    (u * 18446744073709551616 + (un * 4294967296 + un')) / y = q * 4294967296 + q' ∧ (u * 18446744073709551616 + (un * 4294967296 + un')) % y = u' * 4294967296 + un' - q' * y := by
  have l := right_left R'
  have e : u * 18446744073709551616 + (un * 4294967296 + un') = (u' * 4294967296 + un' - q' * y) + (q * 4294967296 + q') * y := by
    rw [hu]; grind
  rw [e]
  constructor
  · rw [Int.add_mul_ediv_right _ _ (by omega), Int.ediv_eq_zero_of_lt l.1 l.2]; omega
  · rw [Int.add_mul_emod_self_right, Int.emod_eq_of_lt l.1 l.2]
end
end Go.Proofs.Ytincnfjihffllaa.Ev
