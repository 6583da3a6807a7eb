/- Regions with new variables, and with stores that may come early: one walk in the text's order serves every order. -/
import Derived.Test.YtincnfjihffllaaEv16
namespace Go.Proofs.Ytincnfjihffllaa.Ev
open Go Go.RowKit
set_option linter.unusedVariables false
set_option linter.unusedSimpArgs false

theorem anyB_spec {α : Type} {p : α → Bool} {l : List α} : anyB p l = true ↔ ∃ x ∈ l, p x = true := by
  induction l with
  | nil => simp [anyB]
  | cons a r ih =>
    simp only [anyB, List.mem_cons, exists_eq_or_imp]
    cases h : p a <;> simp [ih]

/-! ### what does not speak of one block -/
def AV.no1 (s : Nat) : AV → Prop
  | .ms b _ _ _ => b ≠ s
  | .ptr b _ _ _ => b ≠ s
  | _ => True
def AV.noA (s : Nat) : AV → Prop
  | .agg cs => ∀ c ∈ cs, AV.no1 s c
  | .fn _ cs => ∀ c ∈ cs, AV.no1 s c
  | c => AV.no1 s c
def AV.no (s : Nat) : AV → Prop
  | .tup cs => ∀ c ∈ cs, AV.noA s c
  | c => AV.noA s c
def Blk.no (s : Nat) : Blk → Prop
  | .rows _ _ _ l => ∀ r ∈ l, ∀ a ∈ r, AV.no1 s a
  | _ => True

theorem AV.no1_of_old {n s : Nat} {c : AV} (h : c.old1 n = true) (hs : n ≤ s) : c.no1 s := by
  cases c <;> try trivial
  · have := Nat.le_of_ble_eq_true h; show _ ≠ s; omega
  · have := Nat.le_of_ble_eq_true h; show _ ≠ s; omega
theorem AV.noA_of_old {n s : Nat} {c : AV} (h : c.oldA n = true) (hs : n ≤ s) : c.noA s := by
  cases c with
  | agg cs => simp only [AV.oldA, allB_eq, List.all_eq_true] at h; exact fun c hc => AV.no1_of_old (h c hc) hs
  | fn f cs => simp only [AV.oldA, allB_eq, List.all_eq_true] at h; exact fun c hc => AV.no1_of_old (h c hc) hs
  | _ => simp only [AV.oldA] at h; simp only [AV.noA]; exact AV.no1_of_old h hs
theorem AV.no_of_old {n s : Nat} {c : AV} (h : c.old n = true) (hs : n ≤ s) : c.no s := by
  cases c with
  | tup cs => simp only [AV.old, allB_eq, List.all_eq_true] at h; exact fun c hc => AV.noA_of_old (h c hc) hs
  | _ => simp only [AV.old] at h; simp only [AV.no]; exact AV.noA_of_old h hs

theorem LeafR.no {x : X} {c : AV} {v : Value} (h : LeafR x c v) {s : Nat} (hs : x.h.length ≤ s) : c.no1 s := by
  cases c <;> try trivial
  · have := h.1; show _ ≠ s; omega
  · have := h.1; show _ ≠ s; omega
theorem AggR.no {x : X} {c : AV} {v : Value} (h : AggR x c v) {s : Nat} (hs : x.h.length ≤ s) : c.noA s := by
  cases c with
  | agg cs =>
    obtain ⟨ys, _, _, h⟩ := h
    intro c hc
    obtain ⟨j, hj⟩ := List.getElem?_of_mem hc
    exact (h j c hj).no hs
  | fn f cs =>
    obtain ⟨ys, _, _, h⟩ := h
    intro c hc
    obtain ⟨j, hj⟩ := List.getElem?_of_mem hc
    exact (h j c hj).no hs
  | _ => simp only [AggR] at h; simp only [AV.noA]; exact LeafR.no h hs
theorem RelV.no {x : X} {c : AV} {v : Value} (h : RelV x c v) {s : Nat} (hs : x.h.length ≤ s) : c.no s := by
  cases c with
  | tup cs =>
    obtain ⟨ys, _, _, h⟩ := h
    intro c hc
    obtain ⟨j, hj⟩ := List.getElem?_of_mem hc
    exact (h j c hj).no hs
  | _ => simp only [RelV] at h; simp only [AV.no]; exact AggR.no h hs

/-- what was there is there still, but for one block -/
structure ExtNo (s : Nat) (x x' : X) : Prop where
  o : ∀ n, x.O n → x'.O n
  mu : ∀ b, b ≠ s → b < x.h.length → x'.μ b = x.μ b
  len : x.h.length ≤ x'.h.length
  dim : ∀ b, b ≠ s → b < x.h.length → ∀ n, dimB x'.h b = some n → dimB x.h b = some n
  cell : ∀ a v, x.O a.block → x.w.cell? a = some v → x'.w.cell? a = some v
  shape : ∀ r s, x.w.shape? r = some s → x'.w.shape? r = some s

theorem LeafR.monoNo {s : Nat} {x x' : X} (e : ExtNo s x x') {c : AV} {v : Value} (h : LeafR x c v) (hn : c.no1 s) : LeafR x' c v := by
  unfold LeafR at *
  split
  · have hne : _ ≠ s := hn
    obtain ⟨hb, h0, h1, A, cap, rfl, hle, hA, hd⟩ := h
    refine ⟨Nat.lt_of_lt_of_le hb e.len, h0, h1, A, cap, rfl, hle, by rw [e.mu _ hne hb]; exact hA, fun n s hn => ?_⟩
    obtain ⟨a1, a2, e1, m, a3, a4⟩ := hd n s (e.dim _ hne hb _ hn)
    exact ⟨a1, a2, e1, m, by rw [e.mu _ hne hb]; exact e.shape _ _ a3, a4⟩
  · have hne : _ ≠ s := hn
    obtain ⟨hb, h0, rfl, hd⟩ := h
    exact ⟨Nat.lt_of_lt_of_le hb e.len, h0, by rw [e.mu _ hne hb], fun n s hn => hd n s (e.dim _ hne hb _ hn)⟩
  · rename_i c h1 h2
    exact RoV.mono e.o e.cell (by split at h <;> first | exact h | (exfalso; first | exact h1 _ _ _ _ rfl | exact h2 _ _ _ _ rfl))
theorem AggR.monoNo {s : Nat} {x x' : X} (e : ExtNo s x x') {c : AV} {v : Value} (h : AggR x c v) (hn : c.noA s) : AggR x' c v := by
  cases c with
  | agg cs =>
    obtain ⟨ys, rfl, hl, h⟩ := h
    exact ⟨ys, rfl, hl, fun j c hj => (h j c hj).monoNo e (hn c (List.mem_of_getElem? hj))⟩
  | fn f cs =>
    obtain ⟨ys, rfl, hl, h⟩ := h
    exact ⟨ys, rfl, hl, fun j c hj => (h j c hj).monoNo e (hn c (List.mem_of_getElem? hj))⟩
  | _ => simp only [AggR] at h ⊢; simp only [AV.noA] at hn; exact LeafR.monoNo e h hn
theorem RelV.monoNo {s : Nat} {x x' : X} (e : ExtNo s x x') {c : AV} {v : Value} (h : RelV x c v) (hn : c.no s) : RelV x' c v := by
  cases c with
  | tup cs =>
    obtain ⟨ys, rfl, hl, h⟩ := h
    exact ⟨ys, rfl, hl, fun j c hj => (h j c hj).monoNo e (hn c (List.mem_of_getElem? hj))⟩
  | _ => simp only [RelV] at h ⊢; simp only [AV.no] at hn; exact AggR.monoNo e h hn
theorem BlkR.monoNo {s : Nat} {x x' : X} (e : ExtNo s x x') {g : Nat} (hg : x'.w.heap[g]? = x.w.heap[g]?) {b : Blk} (h : BlkR x g b) (hn : b.no s) : BlkR x' g b := by
  cases b with
  | dead => trivial
  | ints wr k l => obtain ⟨c, e1, h1, h2⟩ := h; exact ⟨c, e1, hg.trans h1, h2⟩
  | rows wr sz d l =>
    obtain ⟨h0, c, e1, h1, h2⟩ := h
    exact ⟨h0, c, e1, hg.trans h1, fun i r hi => ⟨(h2 i r hi).1, fun j a hj => by
      obtain ⟨y, q1, q2⟩ := (h2 i r hi).2 j a hj
      exact ⟨y, q1, q2.monoNo e (hn r (List.mem_of_getElem? hi) a (List.mem_of_getElem? hj))⟩⟩⟩

section
variable {P : Program} {G : Nat → TI} {base : Nat} {O0 : Nat → Prop} {μ : Nat → Nat} {hp : List Blk} {w w' : World}

theorem HR.no (H : HR base O0 μ hp w) {b : Nat} {x : Blk} (hb : hp[b]? = some x) {s : Nat} (hs : hp.length ≤ s) : x.no s := by
  have := H.blk b x hb
  cases x with
  | dead => trivial
  | ints wr k l => trivial
  | rows wr sz d l =>
    obtain ⟨_, c, e, _, h⟩ := this
    intro r hr a ha
    obtain ⟨i, hi⟩ := List.getElem?_of_mem hr
    obtain ⟨j, hj⟩ := List.getElem?_of_mem ha
    obtain ⟨y, _, q⟩ := (h i r hi).2 j a hj
    exact LeafR.no q hs

theorem dimB_set {h : List Blk} {s b : Nat} {x : Blk} (hs : s < h.length) : dimB (h.set s x) b = if b = s then x.dim else dimB h b := by
  unfold dimB
  by_cases e : b = s
  · subst e; simp [hs]
  · rw [if_neg e, List.getElem?_set_ne (Ne.symm e)]
theorem wrB_set {h : List Blk} {s b : Nat} {x : Blk} (hs : s < h.length) : wrB (h.set s x) b = if b = s then x.wr else wrB h b := by
  unfold wrB
  by_cases e : b = s
  · subst e; simp [hs]
  · rw [if_neg e, List.getElem?_set_ne (Ne.symm e)]

theorem ExtNo.allocAt {s : Nat} (H : HR base O0 μ hp w) (hs : s < hp.length) (hd : hp[s]? = some .dead) (o : Obj) (x : Blk) :
    ExtNo s (mkX base O0 μ hp w) (mkX base O0 (μnew μ s w.heap.size) (hp.set s x) (pushW w o)) := by
  have g := below_push w o
  have e := Ext.grow (O0 := O0) (μ := μ) (hp := hp) H.all g
  refine ⟨fun n hn => ?_, fun b hb _ => ?_, by simp [mkX], fun b hb hl n hn => ?_, fun a v ho hc => e.cell a v ho hc, e.shape⟩
  · rcases hn with h | ⟨h1, h2, h3⟩
    · exact .inl h
    · refine .inr ⟨h1, Nat.lt_of_lt_of_le h2 g.size, fun b hb => ?_⟩
      rw [wrB_set hs] at hb
      by_cases e : b = s
      · simp only [μnew, if_pos e]; omega
      · rw [if_neg e] at hb
        simp only [μnew, if_neg e]
        exact h3 b hb
  · simp [mkX, μnew, hb]
  · have hn' : dimB (hp.set s x) b = some n := hn
    rw [dimB_set hs, if_neg hb] at hn'
    exact hn'

theorem HR.allocAt {s : Nat} (H : HR base O0 μ hp w) (hs : s < hp.length) (hd : hp[s]? = some .dead) (hno : ∀ (b : Nat) (x : Blk), hp[b]? = some x → x.no s) (o : Obj) (x : Blk)
    (hx : BlkR (mkX base O0 (μnew μ s w.heap.size) (hp.set s x) (pushW w o)) w.heap.size x) : HR base O0 (μnew μ s w.heap.size) (hp.set s x) (pushW w o) := by
  have e := ExtNo.allocAt H hs hd o x
  have g := below_push w o
  refine ⟨Nat.le_trans H.all g.size, fun b y hb => ?_, fun b hb => ?_, fun b b' h1 h2 h3 => ?_⟩
  · by_cases hbs : b = s
    · subst hbs
      rw [List.getElem?_set_self hs] at hb
      obtain rfl := Option.some.inj hb
      simp only [μnew, if_pos trivial]
      exact hx
    · rw [List.getElem?_set_ne (Ne.symm hbs)] at hb
      simp only [μnew, if_neg hbs]
      cases y with
      | dead => trivial
      | ints wr k l => exact (H.blk b _ hb).monoNo e (g.block _ (H.lt (by simp [dimB, hb, Blk.dim]))) (hno b _ hb)
      | rows wr sz d l => exact (H.blk b _ hb).monoNo e (g.block _ (H.lt (by simp [dimB, hb, Blk.dim]))) (hno b _ hb)
  · rw [dimB_set hs] at hb
    by_cases hbs : b = s
    · simp only [μnew, if_pos hbs]; exact H.all
    · rw [if_neg hbs] at hb
      simp only [μnew, if_neg hbs]
      exact H.low b hb
  · rw [wrB_set hs] at h1
    rw [dimB_set hs] at h2
    simp only [μnew] at h3
    by_cases e1 : b = s <;> by_cases e2 : b' = s
    · omega
    · exfalso
      rw [if_pos e1, if_neg e2] at h3
      rw [if_neg e2] at h2
      have := H.lt h2
      omega
    · exfalso
      rw [if_neg e1, if_pos e2] at h3
      rw [if_neg e1] at h1
      have := H.lt (dim_of_wr h1)
      omega
    · rw [if_neg e1, if_neg e2] at h3
      rw [if_neg e1] at h1
      rw [if_neg e2] at h2
      exact H.inj b b' h1 h2 h3

/-- room for what is to come -/
theorem pad_get {k b : Nat} : ((hp ++ List.replicate k Blk.dead)[b]?).getD .dead = (hp[b]?).getD .dead := by
  rw [List.getElem?_append]
  split
  · rfl
  · rename_i h
    rw [List.getElem?_eq_none (by omega : hp.length ≤ b)]
    rw [List.getElem?_replicate]
    split <;> rfl
theorem HR.pad (H : HR base O0 μ hp w) (k : Nat) : HR base O0 μ (hp ++ List.replicate k .dead) w ∧ Ext (mkX base O0 μ hp w) (mkX base O0 μ (hp ++ List.replicate k .dead) w) := by
  have hd : ∀ b, dimB (hp ++ List.replicate k .dead) b = dimB hp b := fun b => by unfold dimB; rw [pad_get]
  have hw : ∀ b, wrB (hp ++ List.replicate k .dead) b = wrB hp b := fun b => by unfold wrB; rw [pad_get]
  have ex : Ext (mkX base O0 μ hp w) (mkX base O0 μ (hp ++ List.replicate k .dead) w) := by
    refine ⟨fun n hn => ?_, fun _ _ => rfl, by simp [mkX], fun b _ n hn => ((hd b).symm.trans hn), fun _ _ _ h => h, fun _ _ h => h⟩
    rcases hn with h | ⟨h1, h2, h3⟩
    · exact .inl h
    · exact .inr ⟨h1, h2, fun b hb => h3 b (by rw [← hw]; exact hb)⟩
  refine ⟨⟨H.all, fun b x hb => ?_, fun b hb => H.low b (by rw [← hd]; exact hb), fun b b' h1 h2 h3 => H.inj b b' (by rw [← hw]; exact h1) (by rw [← hd]; exact h2) h3⟩, ex⟩
  rw [List.getElem?_append] at hb
  split at hb
  · exact (H.blk b x hb).mono ex rfl
  · rw [List.getElem?_replicate] at hb
    split at hb
    · obtain rfl := Option.some.inj hb; trivial
    · cases hb

/-! ### an operation that knows less of the memory -/
theorem cond_imp {c : Bool} {A B C : Prop} (h : A → B) : (bif c then A else C) → (bif c then B else C) := by
  cases c
  · exact id
  · exact h
theorem evPure_mono {h h' : List Blk} (hh : ∀ b, getBlk h b = .dead ∨ getBlk h' b = getBlk h b) {ρ : Operand → AV} {op : Op} {K : AV → Prop} (H : evPure (realE P) G h ρ op K) : evPure (realE P) G h' ρ op K := by
  cases op <;> try exact H
  case load t a =>
    dsimp only [evPure] at H ⊢
    unfold load at H ⊢
    split at H
    · exact H.elim
    · unfold loadAs at H ⊢
      split at H
      · exact H
      · rename_i b sz row col heq
        rcases hh b with h1 | h1
        · rw [h1] at H; exact H.elim
        · rw [h1]; exact H
      · exact H.elim
  case indexAddr t x i =>
    dsimp only [evPure] at H ⊢
    unfold evIndexAddr at H ⊢
    split at H
    · split at H
      · rename_i b sz row col heq
        rcases hh b with h1 | h1
        · rw [h1] at H
          split at H
          · split at H
            · exact H
            · split at H
              · exact cond_imp (cond_imp (fun H => H.elim)) H
              · exact H
          · exact H
        · rw [h1]; exact H
      · exact H
    · exact H
  case call c =>
    obtain ⟨callee, args, ts⟩ := c
    cases callee <;> exact H
end
end Go.Proofs.Ytincnfjihffllaa.Ev
