/- Operations whose order the tape picks: what one of them yields hangs on no order. -/
import Derived.Test.YtincnfjihffllaaEv14
namespace Go.Proofs.Ytincnfjihffllaa.Ev
open Go Go.RowKit
set_option linter.unusedVariables false
set_option linter.unusedSimpArgs false

section
variable {P : Program} {G : Nat → TI} {base : Nat} {O0 : Nat → Prop} {μ : Nat → Nat} {hp : List Blk} {w w' : World}

/-- what is asked is asked of one value -/
def Picks (f : (AV → Prop) → Prop) : Prop := ∀ K, f K → ∃ v, K v ∧ f (fun v' => v' = v)

theorem picks_ret (v : AV) : Picks (fun K => K v) := fun K h => ⟨v, h, rfl⟩
theorem picks_false : Picks (fun _ => False) := fun K h => h.elim
theorem picks_brB {b : SB} {f g : (AV → Prop) → Prop} (hf : Picks f) (hg : Picks g) : Picks (fun K => brB (realE P) b (fun _ => f K) (fun _ => g K)) := by
  intro K h
  rcases brB_real h with ⟨h1, h2⟩ | ⟨h1, h2⟩
  · obtain ⟨v, q1, q2⟩ := hf K h2
    refine ⟨v, q1, ?_⟩
    cases b with
    | l b => cases b <;> simp_all [brB, SB.val]
    | s b => simp only [SB.val] at h1; subst h1; exact ⟨fun _ => q2, fun h => (by cases h)⟩
  · obtain ⟨v, q1, q2⟩ := hg K h2
    refine ⟨v, q1, ?_⟩
    cases b with
    | l b => cases b <;> simp_all [brB, SB.val]
    | s b => simp only [SB.val] at h1; subst h1; exact ⟨fun h => (by cases h), fun _ => q2⟩
theorem picks_siLe {a b : SI} {f : (AV → Prop) → Prop} (hf : Picks f) : Picks (fun K => siLe (realE P) a b (fun _ => f K)) := picks_brB hf picks_false
theorem picks_siLt {a b : SI} {f : (AV → Prop) → Prop} (hf : Picks f) : Picks (fun K => siLt (realE P) a b (fun _ => f K)) := picks_brB hf picks_false
theorem picks_cond {b : Bool} {f g : (AV → Prop) → Prop} (hf : Picks f) (hg : Picks g) : Picks (fun K => bif b then f K else g K) := by
  cases b
  · exact hg
  · exact hf
theorem picks_brAV {c : AV} {f g : (AV → Prop) → Prop} (hf : Picks f) (hg : Picks g) : Picks (fun K => brAV (realE P) c (fun _ => f K) (fun _ => g K)) := by
  cases c <;> first | exact picks_brB hf hg | exact picks_false

theorem picks_asVal {agg : Bool} {n : Nat} {cs : List AV} : Picks (fun K => asVal agg n cs K) := by
  unfold asVal
  refine picks_cond (picks_cond (picks_ret _) ?_) picks_false
  split
  · exact picks_ret _
  · exact picks_false
theorem picks_load {t : Nat} {p : AV} : Picks (fun K => load (realE P) G hp t p K) := by
  unfold load
  split
  · exact picks_false
  · unfold loadAs
    split
    · exact picks_asVal
    · split
      · exact picks_cond (picks_ret _) picks_false
      · exact picks_asVal
      · exact picks_false
    · exact picks_false
theorem picks_binOp {ti : TI} {op : BinOp} {x y : AV} : Picks (fun K => binOp (realE P) ti op x y K) := by
  unfold binOp
  split
  · split
    · exact picks_brB picks_false (picks_ret _)
    · exact picks_brB picks_false (picks_ret _)
    · exact picks_cond (picks_brB picks_false (picks_ret _)) picks_false
    · exact picks_cond (picks_brB picks_false (picks_ret _)) picks_false
    all_goals exact picks_cond (picks_ret _) picks_false
  · split
    · exact picks_ret _
    · exact picks_ret _
    · exact picks_false
  · split
    · refine picks_cond ?_ picks_false
      split
      · exact picks_ret _
      · exact picks_ret _
      · exact picks_false
    · exact picks_false
  · split
    · exact picks_ret _
    · exact picks_ret _
    · exact picks_false
  · exact picks_false
theorem picks_unOp {op : UnOp} {x : AV} : Picks (fun K => unOp (realE P) op x K) := by
  unfold unOp
  split
  · exact picks_ret _
  · exact picks_ret _
  · exact picks_ret _
  · exact picks_false
theorem picks_cutTo {x : AV} {lo hi : SI} : Picks (fun K => cutTo (realE P) x lo hi K) := by
  unfold cutTo
  split
  · exact picks_ret _
  · split
    · exact picks_ret _
    · exact picks_ret _
  · exact picks_ret _
  · exact picks_false
theorem picks_slice {t : Nat} {x : AV} {ρ : Operand → AV} {lo hi mx : Option Operand} : Picks (fun K => evSlice (realE P) G t x ρ lo hi mx K) := by
  unfold evSlice
  refine picks_cond ?_ picks_false
  split
  · exact picks_false
  · split
    · split
      · exact picks_siLe (picks_siLe (picks_siLe picks_cutTo))
      · split
        · split
          · exact picks_false
          · exact picks_ret _
        · exact picks_false
    · exact picks_false
theorem picks_idxSl {t : Nat} {n : SI} {x : AV} : Picks (fun K => idxSl (realE P) G t n x K) := by
  unfold idxSl
  refine picks_cond ?_ picks_false
  split
  · exact picks_siLe (picks_siLt (picks_ret _))
  · refine picks_siLe (picks_siLt ?_)
    split
    · exact picks_ret _
    · exact picks_ret _
  · exact picks_siLe (picks_siLt (picks_ret _))
  · exact picks_false
theorem picks_indexAddr {t : Nat} {x i : AV} : Picks (fun K => evIndexAddr (realE P) G hp t x i K) := by
  cases i <;> try exact picks_false
  cases x <;> dsimp only [evIndexAddr] <;> try exact picks_idxSl
  split
  · split
    · exact picks_false
    · split
      · refine picks_cond (picks_cond ?_ (picks_ret _)) picks_false
        split
        · exact picks_cond (picks_ret _) picks_false
        · exact picks_false
      · exact picks_false
  · exact picks_false
theorem picks_builtin {b : Builtin} {xs : List AV} {ts : List Nat} : Picks (fun K => evBuiltin (realE P) G b xs ts K) := by
  unfold evBuiltin
  split
  · split
    · exact picks_cond (picks_ret _) picks_false
    · exact picks_false
  · refine picks_cond ?_ picks_false
    unfold maxI
    exact picks_brB (picks_ret _) (picks_ret _)
  · refine picks_cond ?_ picks_false
    unfold minI
    exact picks_brB (picks_ret _) (picks_ret _)
  · exact picks_false
theorem picks_fieldAddr {ti : TI} {f : Nat} {a : AV} : Picks (fun K => evFieldAddr ti f a K) := by
  unfold evFieldAddr
  split
  · split
    · exact picks_cond (picks_ret _) picks_false
    · exact picks_false
  · split
    · exact picks_cond (picks_ret _) picks_false
    · exact picks_false
  · exact picks_false
theorem picks_field {ti : TI} {f : Nat} {a : AV} : Picks (fun K => evField ti f a K) := by
  unfold evField
  split
  · split
    · exact picks_cond picks_asVal picks_false
    · exact picks_false
  · exact picks_false

theorem picks_pure {ρ : Operand → AV} {op : Op} : Picks (fun K => evPure (realE P) G hp ρ op K) := by
  cases op <;> try exact picks_false
  case move y => exact picks_ret _
  case assign y =>
    dsimp only [evPure]
    split
    · exact picks_ret _
    · exact picks_ret _
  case pick c a b => exact picks_brAV (picks_ret _) (picks_ret _)
  case build t parts =>
    dsimp only [evPure]
    split
    · refine picks_cond ?_ picks_false
      split
      · exact picks_ret _
      · exact picks_false
    · exact picks_false
  case buildSlice t n parts =>
    dsimp only [evPure]
    split
    · generalize G _ = ge
      obtain ⟨k, sz, by2, z2, fl2⟩ := ge
      dsimp only
      split
      · refine picks_cond ?_ picks_false
        cases k with
        | int kk =>
          dsimp only
          split
          · exact picks_ret _
          · exact picks_false
        | oth => exact picks_false
        | _ => exact picks_cond (picks_ret _) picks_false
      · exact picks_false
    · exact picks_false
  case load t a => exact picks_load
  case binOp op t a b t2 => exact picks_binOp
  case unOp op t a => exact picks_unOp
  case convert src dst a =>
    dsimp only [evPure]
    split
    · exact picks_ret _
    · exact picks_false
  case makeFunc fn first caps =>
    dsimp only [evPure]
    split
    · exact picks_cond (picks_ret _) picks_false
    · exact picks_false
  case slice t a lo hi mx => exact picks_slice
  case fieldAddr t a f => exact picks_fieldAddr
  case field t a f => exact picks_field
  case indexAddr t a i => exact picks_indexAddr
  case index t a i =>
    dsimp only [evPure]
    split
    · exact picks_siLe (picks_siLt (picks_ret _))
    · exact picks_false
  case nilCheck a =>
    dsimp only [evPure]
    split
    · exact picks_ret _
    · exact picks_ret _
    · exact picks_false
  case extract a i =>
    dsimp only [evPure]
    split
    · split
      · exact picks_ret _
      · exact picks_false
    · exact picks_false
  case call c =>
    obtain ⟨callee, args, ts⟩ := c
    cases callee with
    | value f =>
      dsimp only [evPure]
      split
      · rintro K ⟨r, hK, h1, h2⟩
        exact ⟨r, hK, r, rfl, h1, h2⟩
      · exact picks_false
    | invoke recv name => exact picks_false
    | builtin b => exact picks_builtin

/-! ### a region whose order the tape picks -/
/-- two tellings of one temporary -/
def Alike (t t' : List (Nat × AV)) (u : Nat) : Prop := ∀ (x : X) (v : Value), RelV x (lookT t u) v ↔ RelV x (lookT t' u) v

theorem lookT_put_ne {t : List (Nat × AV)} {d : Option Nat} {v : AV} {u : Nat} (h : d ≠ some u) : lookT (putT t d v) u = lookT t u := by
  cases d with
  | none => rfl
  | some d =>
    simp only [putT, lookT]
    cases hb : Nat.beq d u with
    | true => exact absurd (by rw [Nat.eq_of_beq_eq_true hb]) h
    | false => rfl
theorem lookT_put_eq {t : List (Nat × AV)} {d : Nat} {v : AV} : lookT (putT t (some d) v) d = v := by
  simp only [putT, lookT, Nat.beq_refl, cond_true]

theorem alike_refine {t : List (Nat × AV)} {d : Nat} {b : Bool} (h : lookT t d = .bool (.s b)) (u : Nat) : Alike t (putT t (some d) (.bool (.l b))) u := by
  intro x v
  by_cases hu : d = u
  · subst hu
    rw [lookT_put_eq, h]
    constructor
    · intro h1; rw [h1.bool_inv]; exact rel_bool _ _ rfl
    · intro h1; rw [h1.bool_inv]; exact rel_bool _ _ rfl
  · rw [lookT_put_ne (by intro e; injection e with e; exact hu e)]

/-- the tale of the operations ahead of the stores -/
inductive Path (P : Program) (G : Nat → TI) (hp : List Blk) (ops : Array Oper) : List Oper → List (Nat × AV) → List (Nat × AV) → Prop
  | nil (t : List (Nat × AV)) : Path P G hp ops [] t t
  | go (o : Oper) (r : List Oper) (t t1 t2 : List (Nat × AV)) (v : AV) (hA : ∀ u, Alike t t1 u) (hW : ∀ (x : X) (a : Act), (∀ u, u ∈ o.looksAt ops → RelV x (lookT t1 u) (a.tmps.getD u undef)) → Region.wanted o (yielded ops a.tmps) = true)
      (hv : evPure (realE P) G hp (opd t1) o.op (fun v' => v' = v)) (hr : Path P G hp ops r (putT t1 o.dst v) t2) : Path P G hp ops (o :: r) t t2
  | skip (o : Oper) (r : List Oper) (t t1 t2 : List (Nat × AV)) (hA : ∀ u, Alike t t1 u) (hW : ∀ (x : X) (a : Act), (∀ u, u ∈ o.looksAt ops → RelV x (lookT t1 u) (a.tmps.getD u undef)) → Region.wanted o (yielded ops a.tmps) = false)
      (hr : Path P G hp ops r (putT t1 o.dst (.tup [])) t2) : Path P G hp ops (o :: r) t t2

theorem wanted_of {ops : Array Oper} {o : Oper} {j d : Nat} {want : Bool} (hg : o.guard = some (j, want)) (hd : (ops[j]?).bind (·.dst) = some d) {t : List (Nat × AV)} {b : SB} (hb : lookT t d = .bool b) :
    ∀ (x : X) (a : Act), (∀ u, u ∈ o.looksAt ops → RelV x (lookT t u) (a.tmps.getD u undef)) → Region.wanted o (yielded ops a.tmps) = (b.val == want) := by
  intro x a h
  have hv := h d (by simp [Oper.looksAt, hg, hd])
  rw [hb] at hv
  have hv' := hv.bool_inv
  have hdl : d < a.tmps.size := by
    rcases Nat.lt_or_ge d a.tmps.size with h1 | h1
    · exact h1
    · rw [Array.getD_eq_getD_getElem?, Array.getElem?_eq_none h1] at hv'
      cases hv'
  have h2 : a.tmps[d]? = some (.bool b.val) := by
    rw [some_of_getD hdl, hv']
  simp only [Region.wanted, hg, yielded, hd, Option.bind_some, h2]
  cases b.val <;> cases want <;> rfl

theorem path_of_head {ops : Array Oper} : ∀ (l : List Oper) (K : St → Prop) (t : List (Nat × AV)), evHead (realE P) G ops.toList l K ⟨t, hp⟩ → ∃ t2, Path P G hp ops l t t2 ∧ K ⟨t2, hp⟩
  | [], K, t, h => ⟨t, .nil t, h⟩
  | o :: r, K, t, h => by
    simp only [evHead, guarded] at h
    have goes : ∀ t1, (∀ u, Alike t t1 u) → (∀ (x : X) (a : Act), (∀ u, u ∈ o.looksAt ops → RelV x (lookT t1 u) (a.tmps.getD u undef)) → Region.wanted o (yielded ops a.tmps) = true) →
        evPure (realE P) G hp (opd t1) o.op (fun v => evHead (realE P) G ops.toList r K ⟨putT t1 o.dst v, hp⟩) → ∃ t2, Path P G hp ops (o :: r) t t2 ∧ K ⟨t2, hp⟩ := by
      intro t1 hA hW h
      obtain ⟨v, h1, h2⟩ := picks_pure _ h
      obtain ⟨t2, p1, p2⟩ := path_of_head r K _ h1
      exact ⟨t2, .go o r t t1 t2 v hA hW h2 p1, p2⟩
    have skips : ∀ t1, (∀ u, Alike t t1 u) → (∀ (x : X) (a : Act), (∀ u, u ∈ o.looksAt ops → RelV x (lookT t1 u) (a.tmps.getD u undef)) → Region.wanted o (yielded ops a.tmps) = false) →
        evHead (realE P) G ops.toList r K ⟨putT t1 o.dst (.tup []), hp⟩ → ∃ t2, Path P G hp ops (o :: r) t t2 ∧ K ⟨t2, hp⟩ := by
      intro t1 hA hW h
      obtain ⟨t2, p1, p2⟩ := path_of_head r K _ h
      exact ⟨t2, .skip o r t t1 t2 hA hW p1, p2⟩
    split at h
    · rename_i hg
      exact goes t (fun u x v => Iff.rfl) (fun x a _ => by simp [Region.wanted, hg]) h
    · rename_i j want hg
      split at h
      · exact h.elim
      · rename_i d hd
        rw [nthO_eq] at hd
        have hd' : (ops[j]?).bind (·.dst) = some d := by simpa using hd
        split at h
        · rename_i b hb
          have hW := wanted_of hg hd' hb
          cases hbw : b == want with
          | true => rw [hbw] at h; exact goes t (fun u x v => Iff.rfl) (fun x a h1 => by rw [hW x a h1]; exact hbw) h
          | false => rw [hbw] at h; exact skips t (fun u x v => Iff.rfl) (fun x a h1 => by rw [hW x a h1]; exact hbw) h
        · rename_i b hb
          have hA := alike_refine hb
          have hb2 : lookT (putT t (some d) (.bool (.l b))) d = .bool (.l b) := lookT_put_eq
          have hW := wanted_of hg hd' hb2
          cases b with
          | true =>
            have h1 := h.1 rfl
            cases want with
            | true => exact goes _ hA (fun x a h2 => hW x a h2) h1
            | false => exact skips _ hA (fun x a h2 => hW x a h2) h1
          | false =>
            have h1 := h.2 rfl
            cases want with
            | true => exact skips _ hA (fun x a h2 => hW x a h2) h1
            | false => exact goes _ hA (fun x a h2 => hW x a h2) h1
        · rename_i vs hb
          refine skips t (fun u x v => Iff.rfl) (fun x a h1 => ?_) h
          have hv := h1 d (by simp [Oper.looksAt, hg, hd'])
          rw [hb] at hv
          have hy := yielded_tup hd' hv
          simp only [Region.wanted, hg, hy]
          rfl
        · exact h.elim

theorem path_alike {ops : Array Oper} {l : List Oper} {t t2 : List (Nat × AV)} (h : Path P G hp ops l t t2) : ∀ u, (∀ o ∈ l, o.dst ≠ some u) → Alike t t2 u := by
  induction h with
  | nil t => intro u _ x v; exact Iff.rfl
  | go o r t t1 t2 v hA hW hv hr ih =>
    intro u hu x val
    have h1 := hA u x val
    have h2 := ih u (fun o ho => hu o (by simp [ho])) x val
    rw [lookT_put_ne (hu o (by simp))] at h2
    exact h1.trans h2
  | skip o r t t1 t2 hA hW hr ih =>
    intro u hu x val
    have h1 := hA u x val
    have h2 := ih u (fun o ho => hu o (by simp [ho])) x val
    rw [lookT_put_ne (hu o (by simp))] at h2
    exact h1.trans h2
end
end Go.Proofs.Ytincnfjihffllaa.Ev
