/- The call's own memory: it grows, it is written, it is handed on. -/
import Derived.Test.YtincnfjihffllaaEv7
namespace Go.Proofs.Ytincnfjihffllaa.Ev
open Go Go.RowKit
set_option linter.unusedVariables false
set_option linter.unusedSimpArgs false

section
variable {P : Program} {G : Nat → TI} {base : Nat} {O0 : Nat → Prop} {μ : Nat → Nat} {hp : List Blk} {w w' : World}

theorem HR.lt (H : HR base O0 μ hp w) {b : Nat} (h : dimB hp b ≠ none) : μ b < w.heap.size := by
  unfold dimB at h
  cases hb : hp[b]? with
  | none => rw [hb] at h; simp [Blk.dim] at h
  | some x =>
    have := H.blk b x hb
    rw [hb] at h
    cases x with
    | dead => simp [Blk.dim] at h
    | ints wr k l => obtain ⟨c, e, h1, _⟩ := this; exact (Array.getElem?_eq_some_iff.1 h1).1
    | rows wr sz d l => obtain ⟨_, c, e, h1, _⟩ := this; exact (Array.getElem?_eq_some_iff.1 h1).1
theorem dim_of_wr {b : Nat} (h : wrB hp b = true) : dimB hp b ≠ none := by
  unfold wrB at h
  unfold dimB
  cases hb : (hp[b]?).getD .dead with
  | dead => rw [hb] at h; simp [Blk.wr] at h
  | ints wr k l => simp [Blk.dim]
  | rows wr sz d l => simp [Blk.dim]

theorem okO_lt (hb : base ≤ w.heap.size) {n : Nat} (h : okO base O0 μ hp w n) : n < w.heap.size := by
  rcases h with ⟨h, _⟩ | ⟨_, h, _⟩ <;> omega

theorem cell_lt {w : World} {a : Addr} {v : Value} (h : w.cell? a = some v) : a.block < w.heap.size := by
  unfold World.cell? at h
  split at h
  · rename_i h1; exact (Array.getElem?_eq_some_iff.1 h1).1
  · cases h
theorem shape_lt {w : World} {r : Nat} {s : TypeId × Nat} (h : w.shape? r = some s) : r < w.heap.size := by
  unfold World.shape? at h
  split at h
  · rename_i h1; exact (Array.getElem?_eq_some_iff.1 h1).1
  · cases h
theorem shape_of_block {w w' : World} {r : Nat} (h : w'.heap[r]? = w.heap[r]?) : w'.shape? r = w.shape? r := by
  unfold World.shape?; rw [h]

/-- What was there is as it was; there may be more. -/
theorem Ext.grow (hb : base ≤ w.heap.size) (g : Below w.heap.size w w') : Ext (mkX base O0 μ hp w) (mkX base O0 μ hp w') := by
  refine ⟨fun n hn => ?_, fun _ _ => rfl, Nat.le_refl _, fun _ _ _ h => h, fun a v ho hc => ?_, fun r s hs => ?_⟩
  · rcases hn with h | ⟨h1, h2, h3⟩
    · exact .inl h
    · exact .inr ⟨h1, Nat.lt_of_lt_of_le h2 g.size, h3⟩
  · exact (g.cell (cell_lt hc)).trans hc
  · exact (shape_of_block (g.block r (shape_lt hs))).trans hs

theorem BlkR.mono {x x' : X} (e : Ext x x') {g : Nat} (hg : x'.w.heap[g]? = x.w.heap[g]?) {b : Blk} (h : BlkR x g b) : BlkR x' g b := by
  cases b with
  | dead => trivial
  | ints wr k l => obtain ⟨c, e1, h1, h2⟩ := h; exact ⟨c, e1, hg.trans h1, h2⟩
  | rows wr sz d l =>
    obtain ⟨h0, c, e1, h1, h2⟩ := h
    exact ⟨h0, c, e1, hg.trans h1, fun i r hi => ⟨(h2 i r hi).1, fun j a hj => by obtain ⟨y, q1, q2⟩ := (h2 i r hi).2 j a hj; exact ⟨y, q1, q2.mono e⟩⟩⟩

theorem HR.grow (H : HR base O0 μ hp w) (g : Below w.heap.size w w') : HR base O0 μ hp w' := by
  have e := Ext.grow (O0 := O0) (μ := μ) (hp := hp) H.all g
  refine ⟨Nat.le_trans H.all g.size, fun b x hb => ?_, H.low, H.inj⟩
  cases x with
  | dead => trivial
  | ints wr k l => exact (H.blk b _ hb).mono e (g.block _ (H.lt (by simp [dimB, hb, Blk.dim])))
  | rows wr sz d l => exact (H.blk b _ hb).mono e (g.block _ (H.lt (by simp [dimB, hb, Blk.dim])))

/-- a new block, of the call's own -/
def μnew (μ : Nat → Nat) (n g : Nat) (b : Nat) : Nat := if b = n then g else μ b

def pushW (w : World) (o : Obj) : World := { w with heap := w.heap.push o }
theorem below_push (w : World) (o : Obj) : Below w.heap.size w (pushW w o) :=
  ⟨rfl, rfl, rfl, by simp [pushW], fun k hk => by simp only [pushW, Array.getElem?_push]; rw [if_neg (by omega)]⟩

theorem dimB_app {b : Nat} {x : Blk} : dimB (hp ++ [x]) b = if b < hp.length then dimB hp b else if b = hp.length then x.dim else none := by
  unfold dimB
  rw [List.getElem?_append]
  split
  · rfl
  · split
    · subst_vars; simp
    · rw [List.getElem?_eq_none (by simp; omega)]; rfl
theorem wrB_app {b : Nat} {x : Blk} : wrB (hp ++ [x]) b = if b < hp.length then wrB hp b else if b = hp.length then x.wr else false := by
  unfold wrB
  rw [List.getElem?_append]
  split
  · rfl
  · split
    · subst_vars; simp
    · rw [List.getElem?_eq_none (by simp; omega)]; rfl
theorem dimB_lt {b : Nat} (h : dimB hp b ≠ none) : b < hp.length := by
  rcases Nat.lt_or_ge b hp.length with h1 | h1
  · exact h1
  · exfalso; apply h; unfold dimB; rw [List.getElem?_eq_none h1]; rfl

theorem Ext.alloc (H : HR base O0 μ hp w) (o : Obj) (x : Blk) : Ext (mkX base O0 μ hp w) (mkX base O0 (μnew μ hp.length w.heap.size) (hp ++ [x]) (pushW w o)) := by
  have g := below_push w o
  refine ⟨fun n hn => ?_, fun b hb => ?_, by simp [mkX], fun b hb n h => ?_, fun a v ho hc => ?_, fun r s hs => ?_⟩
  · rcases hn with h | ⟨h1, h2, h3⟩
    · exact .inl h
    · refine .inr ⟨h1, Nat.lt_of_lt_of_le h2 g.size, fun b hb => ?_⟩
      rw [wrB_app] at hb
      split at hb
      · rename_i hl
        simp only [mkX, μnew, if_neg (by omega : ¬ b = hp.length)]
        exact h3 b hb
      · split at hb
        · rename_i he
          simp only [mkX, μnew, if_pos he]
          omega
        · cases hb
  · have hb' : b < hp.length := hb
    simp only [mkX, μnew, if_neg (by omega : ¬ b = hp.length)]
  · have hb' : b < hp.length := hb
    have h' : dimB (hp ++ [x]) b = some n := h
    rw [dimB_app, if_pos hb'] at h'
    exact h'
  · exact (g.cell (cell_lt hc)).trans hc
  · exact (shape_of_block (g.block r (shape_lt hs))).trans hs

/-- The new block holds what is said of it. -/
theorem HR.alloc (H : HR base O0 μ hp w) (o : Obj) (x : Blk)
    (hx : BlkR (mkX base O0 (μnew μ hp.length w.heap.size) (hp ++ [x]) (pushW w o)) w.heap.size x) : HR base O0 (μnew μ hp.length w.heap.size) (hp ++ [x]) (pushW w o) := by
  have e := Ext.alloc H o x
  have g := below_push w o
  refine ⟨Nat.le_trans H.all g.size, fun b y hb => ?_, fun b hb => ?_, fun b b' h1 h2 h3 => ?_⟩
  · rw [List.getElem?_append] at hb
    split at hb
    · rename_i hl
      simp only [μnew, if_neg (by omega : ¬ b = hp.length)]
      cases y with
      | dead => trivial
      | ints wr k l => exact (H.blk b _ hb).mono e (g.block _ (H.lt (by simp [dimB, hb, Blk.dim])))
      | rows wr sz d l => exact (H.blk b _ hb).mono e (g.block _ (H.lt (by simp [dimB, hb, Blk.dim])))
    · rename_i hl
      have : b = hp.length := by
        rcases Nat.lt_or_ge (b - hp.length) 1 with h1 | h1
        · omega
        · rw [List.getElem?_eq_none (by simpa using h1)] at hb; cases hb
      subst this
      simp at hb
      subst hb
      simp only [μnew, if_pos trivial]
      exact hx
  · rw [dimB_app] at hb
    split at hb
    · rename_i hl
      simp only [μnew, if_neg (by omega : ¬ b = hp.length)]
      exact H.low b hb
    · split at hb
      · rename_i he
        simp only [μnew, if_pos he]
        exact H.all
      · exact absurd rfl hb
  · have l1 := dimB_lt (dim_of_wr h1)
    have l2 := dimB_lt h2
    rw [wrB_app] at h1
    rw [dimB_app] at h2
    simp only [List.length_append, List.length_singleton] at l1 l2
    simp only [μnew] at h3
    by_cases e1 : b = hp.length <;> by_cases e2 : b' = hp.length
    · omega
    · exfalso
      rw [if_pos e1, if_neg e2] at h3
      rw [if_pos (by omega)] at h2
      have := H.lt h2
      omega
    · exfalso
      rw [if_neg e1, if_pos e2] at h3
      rw [if_pos (by omega)] at h1
      have := H.lt (dim_of_wr h1)
      omega
    · rw [if_neg e1, if_neg e2] at h3
      rw [if_pos (by omega)] at h1 h2
      exact H.inj b b' h1 h2 h3

/-- ONE BLOCK TURNS: another content, or written no more, or let go. -/
theorem Ext.turn (H : HR base O0 μ hp w) {b : Nat} {x : Blk} (hw : wrB hp b = true ∨ w' = w) (hwr : x.wr = true → wrB hp b = true) (hd : x.dim = none ∨ x.dim = dimB hp b)
    (hs : w'.heap.size = w.heap.size) (hk : ∀ k, k ≠ μ b → w'.heap[k]? = w.heap[k]?) (hsh : ∀ s, w.shape? (μ b) = some s → w'.shape? (μ b) = some s) :
    Ext (mkX base O0 μ hp w) (mkX base O0 μ (hp.set b x) w') := by
  refine ⟨fun n hn => ?_, fun _ _ => rfl, by simp [mkX], fun b' hb n h => ?_, fun a v ho hc => ?_, fun r s hs' => ?_⟩
  · rcases hn with h | ⟨h1, h2, h3⟩
    · exact .inl h
    · refine .inr ⟨h1, by omega, fun b' hb => ?_⟩
      unfold wrB at hb
      rw [List.getElem?_set] at hb
      split at hb
      · rename_i he
        split at hb
        · subst he; exact h3 _ (hwr hb)
        · simp [Blk.wr] at hb
      · exact h3 b' hb
  · have h' : dimB (hp.set b x) b' = some n := h
    unfold dimB at h' ⊢
    rw [List.getElem?_set] at h'
    split at h'
    · rename_i he
      subst he
      split at h'
      · simp only [Option.getD_some] at h'
        rcases hd with hd | hd
        · rw [hd] at h'; cases h'
        · rw [hd] at h'; exact h'
      · simp [Blk.dim] at h'
    · exact h'
  · rcases hw with hw | hw
    · have : a.block ≠ μ b := by
        rcases ho with ⟨h1, _⟩ | ⟨_, _, h3⟩
        · have := H.low b (dim_of_wr hw); omega
        · exact fun e => h3 b hw e.symm
      have := hk _ this
      have hc' : w.cell? a = some v := hc
      show w'.cell? a = some v
      unfold World.cell? at hc' ⊢
      rw [this]; exact hc'
    · subst hw; exact hc
  · by_cases he : r = μ b
    · subst he; exact hsh s hs'
    · exact (shape_of_block (hk r he)).trans hs'

theorem HR.turn (H : HR base O0 μ hp w) {b : Nat} {x : Blk} (hb0 : b < hp.length) (hw : wrB hp b = true ∨ w' = w) (hwr : x.wr = true → wrB hp b = true) (hd : x.dim = none ∨ x.dim = dimB hp b)
    (hs : w'.heap.size = w.heap.size) (hk : ∀ k, k ≠ μ b → w'.heap[k]? = w.heap[k]?) (hsh : ∀ s, w.shape? (μ b) = some s → w'.shape? (μ b) = some s)
    (hx : BlkR (mkX base O0 μ (hp.set b x) w') (μ b) x) : HR base O0 μ (hp.set b x) w' := by
  have e := Ext.turn H hw hwr hd hs hk hsh
  have dims : ∀ b', dimB (hp.set b x) b' ≠ none → dimB hp b' ≠ none := by
    intro b' h
    by_cases he : b = b'
    · subst he
      unfold dimB at h
      rw [List.getElem?_set, if_pos rfl, if_pos hb0] at h
      rcases hd with hd | hd
      · exact absurd hd h
      · rw [← hd]; exact h
    · unfold dimB at h ⊢
      rwa [List.getElem?_set, if_neg he] at h
  have wrs : ∀ b', wrB (hp.set b x) b' = true → wrB hp b' = true := by
    intro b' h
    by_cases he : b = b'
    · subst he
      unfold wrB at h
      rw [List.getElem?_set, if_pos rfl, if_pos hb0] at h
      exact hwr h
    · unfold wrB at h ⊢
      rwa [List.getElem?_set, if_neg he] at h
  refine ⟨by rw [hs]; exact H.all, fun b' y hb => ?_, fun b' h => H.low b' (dims b' h), fun b1 b2 h1 h2 h3 => H.inj b1 b2 (wrs _ h1) (dims _ h2) h3⟩
  by_cases he : b = b'
  · subst he
    rw [List.getElem?_set, if_pos rfl, if_pos hb0] at hb
    injection hb with hb
    subst hb
    exact hx
  · rw [List.getElem?_set, if_neg he] at hb
    cases hy : y.dim with
    | none => cases y <;> first | trivial | simp [Blk.dim] at hy
    | some n =>
      have hdy : dimB hp b' ≠ none := by simp [dimB, hb, hy]
      refine (H.blk b' _ hb).mono e ?_
      rcases hw with hw | hw
      · exact hk _ (fun e1 => he (H.inj b b' hw hdy e1.symm))
      · subst hw; rfl
end
end Go.Proofs.Ytincnfjihffllaa.Ev
