/- The evaluator's operations do what the model's do: one behind the other. -/
import Derived.Test.YtincnfjihffllaaEv13
namespace Go.Proofs.Ytincnfjihffllaa.Ev
open Go Go.RowKit
set_option linter.unusedVariables false
set_option linter.unusedSimpArgs false

section
variable {P : Program} {G : Nat → TI} {base : Nat} {O0 : Nat → Prop} {μ : Nat → Nat} {hp : List Blk} {w w' : World}

/-- the temporaries stand for these -/
def TR (x : X) (tt : List (Nat × AV)) (a : Act) : Prop := ∀ t, RelV x (lookT tt t) (a.tmps.getD t undef)

theorem ofConst_rel {x : X} (v : Value) : RelV x (ofConst v) v := by
  unfold ofConst
  split
  · rename_i ys
    refine ⟨ys, rfl, by simp, fun j c hj => ?_⟩
    rw [List.getElem?_map, Option.map_eq_some_iff] at hj
    obtain ⟨y, h1, rfl⟩ := hj
    have : ys.getD j undef = y := by
      rw [Array.getD_eq_getD_getElem?]
      simp at h1
      simp [h1]
    rw [this]
    exact ofLeaf_rel y
  · exact relV_of_leaf (ofLeaf_rel v)

theorem opd_rel {x : X} {tt : List (Nat × AV)} {a : Act} (h : TR x tt a) (y : Operand) : RelV x (opd tt y) (a.eval y) := by
  cases y with
  | tmp t => exact h t
  | const v => exact ofConst_rel v
  | global g => exact RoV.un _
  | func f => exact ⟨#[], rfl, rfl, fun j c hj => by simp at hj⟩

/-- what is asked behind an operation -/
def nextR (base : Nat) (O0 : Nat → Prop) (μ : Nat → Nat) (hp : List Blk) (w : World) (K : AV → List Blk → Prop) (a : Act) (o : Oper) (a' : Act) (w' : World) : Prop :=
  ∃ val, a' = a.put o.dst val ∧ Res base O0 μ hp w K val w'

theorem wp_value {o : Oper} {a : Act} {next : Act → World → Prop} {Q : Exit → Act → World → Prop} {v : Value} (h : (execOp a.eval o).run P w = .ok (.value v) w') (hn : next (a.put o.dst v) w') : o.wp P a w next Q := by
  unfold Oper.wp
  rw [h]
  exact hn

theorem run_v {s : Sem Value} {val : Value} (h : s.run P w = .ok val w') : (do pure (.value (← s)) : Sem Next).run P w = .ok (.value val) w' := by
  simp only [Sem.run_bind, h, Result.andThen_ok, Sem.run_pure]

theorem evOp_sound (hG : GOK P G) (H : HR base O0 μ hp w) {o : Oper} {a : Act} {tt : List (Nat × AV)} (hr : ∀ y, RelV (mkX base O0 μ hp w) (opd tt y) (a.eval y)) {K : AV → List Blk → Prop}
    (h : evOp (realE P) G ⟨tt, hp⟩ o.op K) {Q : Exit → Act → World → Prop} : o.wp P a w (nextR base O0 μ hp w K a o) Q := by
  have pure_case : evPure (realE P) G hp (opd tt) o.op (fun v => K v hp) → o.wp P a w (nextR base O0 μ hp w K a o) Q := by
    intro h
    obtain ⟨v, hK, hout⟩ := evPure_sound hG H (ev := a.eval) (fun y _ => hr y) h
    rcases hout with ⟨val, w', h1, h2, h3⟩ | ⟨f, args, h1, h2⟩
    · exact wp_value h1 ⟨val, rfl, v, hp, μ, hK, h3, H.grow h2, Ext.grow H.all h2, h2.mono H.all⟩
    · unfold Oper.wp
      rw [h1]
      refine h2.mono ?_
      rintro e w' ⟨val, rfl, hb, hv⟩
      exact ⟨val, rfl, v, hp, μ, hK, hv, H.grow hb, Ext.grow H.all hb, hb.mono H.all⟩
  obtain ⟨dst, op, ty, pos, after, guard⟩ := o
  dsimp only at h pure_case
  cases op <;> try exact pure_case h
  case alloc t =>
    obtain ⟨val, w', h1, h2⟩ := alloc_sound hG H h
    exact wp_value (run_v h1) ⟨val, rfl, h2⟩
  case box t y =>
    obtain ⟨val, w', h1, h2⟩ := box_sound hG H (hr y) h
    exact wp_value (run_v h1) ⟨val, rfl, h2⟩
  case buildSlice t n parts =>
    obtain ⟨val, w', h1, h2⟩ := buildSlice_sound (ev := a.eval) hG H (fun i y _ => hr y) h
    exact wp_value (run_v h1) ⟨val, rfl, h2⟩
  case makeSlice t x y =>
    obtain ⟨val, w', h1, h2⟩ := makeSlice_sound hG H (hr x) (hr y) h
    exact wp_value (run_v h1) ⟨val, rfl, h2⟩
  case store t p y =>
    obtain ⟨w', h', h1, h2, h3, h4, h5⟩ := store_sound hG H (hr p) (hr y) h
    unfold Oper.wp
    have : (execOp a.eval ⟨dst, .store t p y, ty, pos, after, guard⟩).run P w = .ok .skip w' := by
      simp only [execOp, Sem.run_bind, h1, Result.andThen_ok, Sem.run_pure]
    rw [this]
    exact ⟨undef, rfl, .un, h', μ, h2, RoV.un _, h3, h4, h5⟩
  case call c =>
    obtain ⟨callee, args, ts⟩ := c
    cases callee with
    | value f =>
      dsimp only [evOp] at h
      split at h
      · rename_i g caps hf
        obtain ⟨hfok, hc⟩ := h
        have hvf := hr f
        rw [hf] at hvf
        obtain ⟨ys, e1, hl, hy⟩ := fn_inv hvf
        obtain ⟨a1, a2⟩ := args_rel (ev := a.eval) (args := args) (ρ := opd tt) (fun y _ => hr y) hl hy (fun c v => relV_of_leaf)
        unfold Oper.wp
        have := call_value (P := P) (args := args) (ts := ts) (ty := ty) e1 hfok w
        rw [show (execOp a.eval ⟨dst, .call ⟨.value f, args, ts⟩, ty, pos, after, guard⟩) = (do let d ← resolve a.eval ⟨.value f, args, ts⟩ ty; invoke d.target d.args : Sem Next) from rfl, this]
        refine (hc base O0 μ w _ H a1 a2).mono ?_
        rintro e w' ⟨val, r, h', μ', rfl, hK, hv, hH, hX, hB⟩
        exact ⟨val, rfl, r, h', μ', hK, hv, hH, hX, hB⟩
      · exact h.elim
    | invoke recv name => exact h.elim
    | builtin b =>
      cases b <;> try exact pure_case h
      dsimp only [evOp] at h
      split at h
      · rename_i x y t t2 rest hargs hts
        have hargs' := ofList_eq hargs
        subst hargs'
        obtain ⟨val, w', h1, h2⟩ := append_sound hG H hts (ty := ty) (hr x) (hr y) h
        refine wp_value (v := val) (w' := w') ?_ ⟨val, rfl, h2⟩
        show ((resolve a.eval ⟨.builtin .append, [x, y].toArray, ts⟩ ty >>= fun d => invoke d.target d.args : Sem Next)).run P w = _
        rw [Sem.run_bind]
        have e : (#[x, y] : Array Operand).map a.eval = #[a.eval x, a.eval y] := by simp
        simp only [resolve, Sem.run_pure, Result.andThen_ok, invoke, builtin, e]
        exact run_v h1
      · exact h.elim

/-- the state -/
structure SR (base : Nat) (O0 : Nat → Prop) (I : X) (nt : Nat) (s : St) (μ : Nat → Nat) (a : Act) (w : World) : Prop where
  size : a.tmps.size = nt
  defers : a.defers = []
  hr : HR base O0 μ s.h w
  tmps : TR (mkX base O0 μ s.h w) s.t a
  ext : Ext I (mkX base O0 μ s.h w)
  below : Below base I.w w

theorem TR.put {x : X} {tt : List (Nat × AV)} {a : Act} (h : TR x tt a) {dst : Option Nat} {v : AV} {val : Value} (hv : RelV x v val) (hd : ∀ d, dst = some d → d < a.tmps.size) : TR x (putT tt dst v) (a.put dst val) := by
  intro t
  cases dst with
  | none => exact h t
  | some d =>
    simp only [putT, lookT, Act.put]
    cases hb : Nat.beq d t with
    | true =>
      have := Nat.eq_of_beq_eq_true hb
      subst this
      rw [cond_true]
      have := hd d rfl
      simpa [Array.getD_eq_getD_getElem?, this] using hv
    | false =>
      rw [cond_false]
      have hne : d ≠ t := by intro e; rw [e, Nat.beq_refl] at hb; cases hb
      have := h t
      simpa [Array.getD_eq_getD_getElem?, Array.getElem?_setIfInBounds_ne hne] using this

theorem put_size (a : Act) (dst : Option Nat) (v : Value) : (a.put dst v).tmps.size = a.tmps.size := by
  cases dst <;> simp [Act.put]
theorem put_defers (a : Act) (dst : Option Nat) (v : Value) : (a.put dst v).defers = a.defers := by
  cases dst <;> rfl

/-- what may be told of a temporary besides -/
theorem TR.refine {x : X} {tt : List (Nat × AV)} {a : Act} (h : TR x tt a) {d : Nat} {v : AV} (hv : RelV x v (a.tmps.getD d undef)) : TR x (putT tt (some d) v) a := by
  intro t
  simp only [putT, lookT]
  cases hb : Nat.beq d t with
  | true => rw [cond_true, ← Nat.eq_of_beq_eq_true hb]; exact hv
  | false => exact h t

theorem rel_undef {x : X} : RelV x (.tup []) undef := ⟨#[], rfl, rfl, fun j c hj => by simp at hj⟩

theorem yielded_tup {x : X} {ops : Array Oper} {tmps : Array Value} {j d : Nat} (hd : (ops[j]?).bind (·.dst) = some d) {vs : List AV} (hv : RelV x (.tup vs) (tmps.getD d undef)) : yielded ops tmps j = none := by
  obtain ⟨ys, e, _⟩ := hv
  unfold yielded
  rw [hd]
  simp only [Option.bind_some]
  cases h : tmps[d]? with
  | none => rfl
  | some v =>
    rw [Array.getD_eq_getD_getElem?, h] at e
    simp only [Option.getD_some] at e
    subst e
    rfl

theorem guarded_sound {x : X} {ops : Array Oper} {o : Oper} {s : St} {a : Act} {go skip : St → Prop} (hT : TR x s.t a) (h : guarded (realE P) ops.toList o s go skip) :
    (Region.wanted o (yielded ops a.tmps) = true ∧ ∃ t', TR x t' a ∧ go ⟨t', s.h⟩) ∨ (Region.wanted o (yielded ops a.tmps) = false ∧ ∃ t', TR x t' a ∧ skip ⟨t', s.h⟩) := by
  unfold guarded at h
  split at h
  · rename_i hg
    exact .inl ⟨by simp [Region.wanted, hg], s.t, hT, h⟩
  · rename_i j want hg
    split at h
    · exact h.elim
    · rename_i d hd
      rw [nthO_eq] at hd
      have hd' : (ops[j]?).bind (·.dst) = some d := by simpa using hd
      have yv : ∀ b : SB, lookT s.t d = .bool b → yielded ops a.tmps j = some b.val := by
        intro b hb
        have hv := hT d
        rw [hb] at hv
        have hv' := hv.bool_inv
        have hdl : d < a.tmps.size := by
          rcases Nat.lt_or_ge d a.tmps.size with h1 | h1
          · exact h1
          · rw [Array.getD_eq_getD_getElem?, Array.getElem?_eq_none h1] at hv'
            cases hv'
        have : a.tmps[d]? = some (.bool b.val) := by
          rw [some_of_getD hdl, hv']
        simp only [yielded, hd', Option.bind_some, this]
      split at h
      · rename_i b hb
        have hy := yv _ hb
        have hw : Region.wanted o (yielded ops a.tmps) = (b == want) := by
          simp only [Region.wanted, hg, hy, SB.val]
          cases b <;> cases want <;> rfl
        cases hbw : b == want with
        | true => rw [hbw] at h; exact .inl ⟨by rw [hw, hbw], s.t, hT, h⟩
        | false => rw [hbw] at h; exact .inr ⟨by rw [hw, hbw], s.t, hT, h⟩
      · rename_i b hb
        have hy := yv _ hb
        have hv := hT d
        rw [hb] at hv
        have hv' := hv.bool_inv
        have hw : Region.wanted o (yielded ops a.tmps) = (b == want) := by
          simp only [Region.wanted, hg, hy, SB.val]
          cases b <;> cases want <;> rfl
        cases b with
        | true =>
          have h1 := h.1 rfl
          have hT' : TR x (putT s.t (some d) (.bool (.l true))) a := hT.refine (by rw [hv']; exact rel_bool _ _ rfl)
          cases want with
          | true => exact .inl ⟨hw, _, hT', h1⟩
          | false => exact .inr ⟨hw, _, hT', h1⟩
        | false =>
          have h1 := h.2 rfl
          have hT' : TR x (putT s.t (some d) (.bool (.l false))) a := hT.refine (by rw [hv']; exact rel_bool _ _ rfl)
          cases want with
          | true => exact .inr ⟨hw, _, hT', h1⟩
          | false => exact .inl ⟨hw, _, hT', h1⟩
      · rename_i vs hb
        have hv := hT d
        rw [hb] at hv
        have hy := yielded_tup hd' hv
        exact .inr ⟨by simp only [Region.wanted, hg, hy]; rfl, s.t, hT, h⟩
      · exact h.elim

theorem TR.mono {x x' : X} (e : Ext x x') {tt : List (Nat × AV)} {a : Act} (h : TR x tt a) : TR x' tt a := fun t => (h t).mono e

theorem evOps_sound (hG : GOK P G) {I : X} {nt : Nat} {ops : Array Oper} {K : St → Prop} {Q : Exit → Act → World → Prop} (hQ : ∀ s μ a w, SR base O0 I nt s μ a w → K s → Q .normal a w) :
    ∀ (l : List Oper) (s : St) (μ : Nat → Nat) (a : Act) (w : World), (∀ o ∈ l, ∀ d, o.dst = some d → d < nt) → SR base O0 I nt s μ a w → evOps (realE P) G ops.toList l K s → wpList P ops Q l a w
  | [], s, μ, a, w, _, R, h => hQ s μ a w R h
  | o :: l, s, μ, a, w, hd, R, h => by
    simp only [evOps] at h
    have hdo := hd o (by simp)
    unfold wpList
    rcases guarded_sound R.tmps h with ⟨hw, t', hT', h1⟩ | ⟨hw, t', hT', h1⟩
    · rw [if_pos hw]
      refine .inl (Oper.wp_mono ?_ (evOp_sound hG R.hr (tt := t') (opd_rel hT') h1))
      rintro a' w' ⟨val, rfl, v, h', μ', hK, hv, hH, hX, hB⟩
      refine evOps_sound hG hQ l _ μ' _ w' (fun o ho => hd o (by simp [ho])) ⟨by rw [put_size]; exact R.size, by rw [put_defers]; exact R.defers, hH, ?_, R.ext.trans hX, R.below.trans hB⟩ hK
      exact (hT'.mono hX).put hv (fun d e => by rw [R.size]; exact hdo d e)
    · rw [if_neg (by rw [hw]; simp)]
      exact evOps_sound hG hQ l ⟨putT t' o.dst (.tup []), s.h⟩ μ _ w (fun o ho => hd o (by simp [ho])) ⟨by rw [put_size]; exact R.size, by rw [put_defers]; exact R.defers, R.hr, hT'.put (v := .tup []) (val := undef) rel_undef (fun d e => by rw [R.size]; exact hdo d e), R.ext, R.below⟩ h1
end
end Go.Proofs.Ytincnfjihffllaa.Ev
