/- Functions: contracts out of the evaluator's run. -/
import Derived.Test.YtincnfjihffllaaEv18
import Derived.Laws.Sem
namespace Go.Proofs.Ytincnfjihffllaa.Ev
open Go Go.RowKit
set_option linter.unusedVariables false
set_option linter.unusedSimpArgs false

/-! ### less is told -/
def sleL (p : AV → AV → Prop) : List AV → List AV → Prop
  | [], [] => True
  | x :: r, y :: s => p x y ∧ sleL p r s
  | _, _ => False
def sle0 : AV → AV → Prop
  | .int k a, .int k' b => k = k' ∧ a.val = b.val
  | .bool a, .bool b => a.val = b.val
  | .sli k l, .sli k' l' => k = k' ∧ l = l'
  | .s0, .sli k l => l = []
  | .s0, .slc sz n f => n.val = 0
  | .str a, .str b => a = b
  | .slc sz n f, .sli k l => n.val = 0 ∧ l = []
  | _, .un => True
  | x, y => x = y
def sle1 : AV → AV → Prop
  | .slc sz n f, .slc sz' n' f' => sz = sz' ∧ n.val = n'.val ∧ ∀ i, i < n.val.toNat → sleL sle0 (f i) (f' i)
  | x, y => sle0 x y
def sle2 : AV → AV → Prop
  | .agg cs, .agg cs' => sleL sle1 cs cs'
  | x, y => sle1 x y
def sle : AV → AV → Prop
  | .tup cs, .tup cs' => sleL sle2 cs cs'
  | x, y => sle2 x y

def RoLe (x y : AV) : Prop := ∀ (O : Nat → Prop) (w : World) (v : Value), RoV O w x v → RoV O w y v

theorem sleL_spec {p : AV → AV → Prop} : ∀ {l m : List AV}, sleL p l m → l.length = m.length ∧ ∀ (j : Nat) (c : AV), m[j]? = some c → ∃ d, l[j]? = some d ∧ p d c
  | [], [], _ => ⟨rfl, fun j c hj => by simp at hj⟩
  | x :: r, y :: s, h => by
    obtain ⟨h1, h2⟩ := sleL_spec h.2
    refine ⟨by simp [h1], fun j c hj => ?_⟩
    cases j with
    | zero => simp at hj; subst hj; exact ⟨x, rfl, h.1⟩
    | succ j => simpa using h2 j c (by simpa using hj)
  | [], _ :: _, h => h.elim
  | _ :: _, [], h => h.elim

theorem sle0_sound {x y : AV} (h : sle0 x y) : RoLe x y := by
  intro O w v hv
  unfold sle0 at h
  split at h
  · obtain ⟨rfl, h⟩ := h
    cases hv with
    | int _ _ n hn => exact .int _ _ _ (h ▸ hn)
  · cases hv with
    | bool _ b hb => exact .bool _ _ (h ▸ hb)
  · obtain ⟨rfl, rfl⟩ := h; exact hv
  · subst h; cases hv with
    | s0 A => exact .sliN _ A 0
  · cases hv with
    | s0 A => exact .slcN _ _ _ A 0 h
  · subst h; exact hv
  · obtain ⟨h, rfl⟩ := h
    cases hv with
    | slc _ _ _ a cap Y hs ho h0 hp hl hc hr =>
      rw [h]
      exact .sliN _ _ _
    | slcN _ _ _ A cap h => exact .sliN _ _ _
  · exact .un _
  · subst h; exact hv

theorem sle1_sound {x y : AV} (h : sle1 x y) : RoLe x y := by
  unfold sle1 at h
  split at h
  · rename_i sz n f sz' n' f'
    obtain ⟨rfl, h1, h2⟩ := h
    intro O w v hv
    cases hv with
    | slc _ _ _ a cap Y hs ho h0 hp hl hc hr =>
      rw [h1]
      refine .slc _ n' f' a cap Y hs ho (by omega) (by omega) (fun i hi => ?_) (fun i j c hi hj => ?_) (fun i j c hi hj => ?_)
      · rw [← (sleL_spec (h2 i (by omega))).1]; exact hl i (by omega)
      · obtain ⟨d, hd, _⟩ := (sleL_spec (h2 i (by omega))).2 j c hj
        exact hc i j d (by omega) hd
      · obtain ⟨d, hd, hs⟩ := (sleL_spec (h2 i (by omega))).2 j c hj
        exact sle0_sound hs _ _ _ (hr i j d (by omega) hd)
    | slcN _ _ _ A cap h => exact .slcN _ _ _ _ _ (by omega)
  · exact sle0_sound h

theorem sle2_sound {x y : AV} (h : sle2 x y) : RoLe x y := by
  unfold sle2 at h
  split at h
  · intro O w v hv
    obtain ⟨h1, h2⟩ := sleL_spec h
    cases hv with
    | agg _ ys hl hh =>
      refine .agg _ _ (by omega) (fun j c hj => ?_)
      obtain ⟨d, hd, hs⟩ := h2 j c hj
      exact sle1_sound hs _ _ _ (hh j d hd)
  · exact sle1_sound h

theorem sle_sound {x y : AV} (h : sle x y) : RoLe x y := by
  unfold sle at h
  split at h
  · intro O w v hv
    obtain ⟨h1, h2⟩ := sleL_spec h
    cases hv with
    | tup _ ys hl hh =>
      refine .tup _ _ (by omega) (fun j c hj => ?_)
      obtain ⟨d, hd, hs⟩ := h2 j c hj
      exact sle2_sound hs _ _ _ (hh j d hd)
  · exact sle2_sound h

/-! ### functions -/
/-- What is asked of a function's text. -/
def fnOK (fn : Func) (n : Nat) : Bool :=
  !(fn.name == "runtime.NumGoroutine") && Nat.ble n fn.ntmps && match fn.body with
    | some c => codeOK fn.ntmps c
    | none => false

/-- The end of a call: what it gives, handed on. -/
def finish (E : Env) (h : List Blk) (v : AV) (K : AV → Prop) : Prop :=
  match v with
  | .tup vs => cleanA h vs ∧ match frzA E h vs with
    | some (ys, _) => K (.tup ys)
    | none => False
  | v => clean h v ∧ match frz E h v with
    | some (y, _) => K y
    | none => False

section
variable {P : Program} {G : Nat → TI} {base : Nat} {O0 : Nat → Prop} {μ : Nat → Nat} {hp : List Blk} {w w' : World}

theorem params_look : ∀ (n : Nat) (l : List AV) (t : Nat), lookT (params n l) t = if n ≤ t then (l[t - n]?).getD .un else .un
  | n, [], t => by simp [params, lookT]
  | n, a :: r, t => by
    simp only [params, lookT]
    cases hb : Nat.beq n t with
    | true =>
      have := Nat.eq_of_beq_eq_true hb
      subst this
      simp
    | false =>
      have hne : n ≠ t := by intro e; rw [e, Nat.beq_refl] at hb; cases hb
      rw [cond_false, params_look (n + 1) r t]
      by_cases h1 : n + 1 ≤ t
      · rw [if_pos h1, if_pos (by omega), show t - n = (t - (n + 1)) + 1 by omega]
        simp
      · rw [if_neg h1]
        rw [if_neg (by omega)]

/-- one result -/
def resOne (tmps : Array Value) : ResultVar → Sem Value
  | .tmp t => pure (tmps.getD t undef)
  | .cell a t => do loadVar t (← asAddr (tmps.getD a undef))

theorem evRes_sound (hG : GOK P G) (H : HR base O0 μ hp w) {tt : List (Nat × AV)} {a : Act} (hT : TR (mkX base O0 μ hp w) tt a) : ∀ (l : List ResultVar) (K : List AV → Prop), evRes (realE P) G ⟨tt, hp⟩ l K →
    ∃ vs ys, K vs ∧ (l.mapM (resOne a.tmps)).run P w = .ok ys w ∧ vs.length = ys.length ∧ ∀ (j : Nat) (c : AV), vs[j]? = some c → RelV (mkX base O0 μ hp w) c (ys.getD j undef)
  | [], K, h => ⟨[], [], h, rfl, rfl, fun j c hj => by simp at hj⟩
  | .tmp t :: r, K, h => by
    obtain ⟨vs, ys, h1, h2, h3, h4⟩ := evRes_sound hG H hT r _ h
    refine ⟨_, a.tmps.getD t undef :: ys, h1, ?_, by simp [h3], fun j c hj => ?_⟩
    · simp only [List.mapM_cons, resOne, Sem.run_bind, Sem.run_pure, Result.andThen_ok, h2]
    · cases j with
      | zero => simp at hj; subst hj; exact hT t
      | succ j => simpa using h4 j c (by simpa using hj)
  | .cell p t :: r, K, h => by
    simp only [evRes] at h
    obtain ⟨v, hv, val, hrun, hrel⟩ := load_sound hG H (hT p) h
    obtain ⟨vs, ys, h1, h2, h3, h4⟩ := evRes_sound hG H hT r _ hv
    refine ⟨_, val :: ys, h1, ?_, by simp [h3], fun j c hj => ?_⟩
    · have : (resOne a.tmps (.cell p t)).run P w = .ok val w := by
        simp only [Instr.loadAt, Sem.run_bind] at hrun
        simp only [resOne, Sem.run_bind]
        generalize a.tmps.getD p undef = pv at hrun ⊢
        cases pv with
        | pointer o => cases o with
          | some ad => exact hrun
          | none => cases hrun
        | _ => cases hrun
      simp only [List.mapM_cons, Sem.run_bind, this, Sem.run_pure, Result.andThen_ok, h2]
    · cases j with
      | zero => simp at hj; subst hj; exact hrel
      | succ j => simpa using h4 j c (by simpa using hj)

theorem evF_sound (hG : GOK P G) (hm : P.follows .mixedOrders = true) {f : FuncId} {fn : Func} (hf : P.funcs[f]? = some fn) {args : List AV} (ho : fnOK fn args.length = true)
    {lp : Code → St → (Ex → St → Prop) → Prop} (hlp : ∀ b s K, codeOK fn.ntmps b = true → lp b s K → lpR P fn.ntmps b s K) {h : List Blk} {K : AV → List Blk → Prop}
    (hv : evF (realE P) G lp fn args h K) : CallsH P f args h K := by
  unfold fnOK at ho
  simp only [Bool.and_eq_true, Bool.not_eq_true'] at ho
  obtain ⟨⟨hname, hn⟩, hc⟩ := ho
  have hn' := Nat.le_of_ble_eq_true hn
  unfold evF at hv
  cases hb : fn.body with
  | none => rw [hb] at hc; cases hc
  | some c =>
    rw [hb] at hc hv
    dsimp only at hc hv
    refine ⟨⟨fn, hf, hname, by rw [hb]; rfl⟩, fun base O0 μ w vals H hl hr => ?_⟩
    let I : X := mkX base O0 μ h w
    have R : SR base O0 I fn.ntmps ⟨params 0 args, h⟩ μ { tmps := vals ++ Array.replicate (fn.ntmps - vals.size) undef, defers := [] } w := by
      refine ⟨by simp; omega, rfl, H, fun t => ?_, Ext.refl _, Below.refl _ _⟩
      rw [params_look, if_pos (Nat.zero_le t), Nat.sub_zero]
      by_cases ht : t < args.length
      · rw [List.getElem?_eq_getElem ht]
        have := hr t args[t] (List.getElem?_eq_getElem ht)
        simp only [Option.getD_some]
        rw [getD_append, if_pos (by omega)]
        exact this
      · rw [List.getElem?_eq_none (by omega)]
        exact RoV.un _
    have hwp := ev_sound hG hm hlp c _ _ _ _ _ hc R hv
    refine calls_of_wp hf hb (wp_mono hwp ?_)
    have fin : ∀ s μ' a w', SR base O0 I fn.ntmps s μ' a w' → evRes (realE P) G s fn.results.toList (retOf K s.h) →
        a.defers = [] ∧ ∃ v, (results fn a.tmps).run P w' = .ok v w' ∧ ∃ val r h' μ', Ending.returned v = .returned val ∧ K r h' ∧ RelV (mkX base O0 μ' h' w') r val ∧ HR base O0 μ' h' w' ∧
          Ext (mkX base O0 μ h w) (mkX base O0 μ' h' w') ∧ Below base w w' := by
      intro s μ' a w' R' hres
      refine ⟨R'.defers, ?_⟩
      obtain ⟨vs, ys, h1, h2, h3, h4⟩ := evRes_sound hG R'.hr R'.tmps fn.results.toList _ hres
      have hrun : (results fn a.tmps).run P w' = .ok (if h : ys.toArray.size = 1 then ys.toArray[0] else .tuple ys.toArray) w' := by
        have e : results fn a.tmps = (do
            let vs ← (List.toArray <$> fn.results.toList.mapM (resOne a.tmps) : Sem (Array Value))
            pure (if h : vs.size = 1 then vs[0] else .tuple vs)) := by
          unfold results
          rw [← Array.mapM_eq_mapM_toList]
          congr 2
        rw [e]
        simp only [Sem.run_bind, map_eq_pure_bind, h2, Sem.run_pure, Result.andThen_ok]
      refine ⟨_, hrun, (if h : ys.toArray.size = 1 then ys.toArray[0] else .tuple ys.toArray), ?_⟩
      have tup : retOf K s.h vs = (bif allB AV.noTup vs then K (.tup vs) s.h else False) → ∃ r h' μ', Ending.returned (.tuple ys.toArray) = .returned (.tuple ys.toArray) ∧ K r h' ∧ RelV (mkX base O0 μ' h' w') r (.tuple ys.toArray) ∧ HR base O0 μ' h' w' ∧
          Ext (mkX base O0 μ h w) (mkX base O0 μ' h' w') ∧ Below base w w' := by
        intro e1
        rw [e1] at h1
        cases hall : allB AV.noTup vs with
        | false => rw [hall] at h1; exact h1.elim
        | true =>
          rw [hall, cond_true] at h1
          refine ⟨.tup vs, s.h, μ', rfl, h1, ⟨ys.toArray, rfl, by simpa using h3, fun j c hj => ?_⟩, R'.hr, R'.ext, R'.below⟩
          have hr := h4 j c hj
          rw [allB_eq, List.all_eq_true] at hall
          have hnt := hall c (List.mem_of_getElem? hj)
          have e2 : ys.toArray.getD j undef = ys.getD j undef := by simp [Array.getD_eq_getD_getElem?, List.getD]
          rw [e2]
          cases c <;> first | exact hr | (exact absurd hnt (by simp [AV.noTup]))
      match vs, ys, h3, h4, h1, tup with
      | [v], [y], _, h4, h1, _ => exact ⟨v, s.h, μ', rfl, h1, by simpa using h4 0 v rfl, R'.hr, R'.ext, R'.below⟩
      | [], [], _, h4, h1, tup => exact tup rfl
      | v :: v' :: vs, y :: y' :: ys, h3, h4, h1, tup =>
        have : ¬ (y :: y' :: ys).toArray.size = 1 := by simp
        rw [dif_neg this]
        exact tup rfl
    intro e a w' hq
    cases e with
    | normal => obtain ⟨s, μ', R', h'⟩ := hq; exact fin s μ' a w' R' h'
    | ret => obtain ⟨s, μ', R', h'⟩ := hq; exact fin s μ' a w' R' h'
    | exit i => obtain ⟨s, μ', R', h'⟩ := hq; exact h'.elim
    | goto i => obtain ⟨s, μ', R', h'⟩ := hq; exact h'.elim
    | panic ch => exact hq.elim
    | outgrown => exact hq.elim
end
end Go.Proofs.Ytincnfjihffllaa.Ev
