/- What the evaluator's values stand for in memory, and that it stays so. -/
import Derived.Test.YtincnfjihffllaaEv1
namespace Go.Proofs.Ytincnfjihffllaa.Ev
open Go Go.RowKit
set_option linter.unusedVariables false
set_option linter.unusedSimpArgs false

/-! ### the evaluator's own list words are Lean's -/
theorem lenB_eq (h : List Blk) : lenB h = h.length := by induction h <;> simp_all [lenB]
theorem getBlk_eq : ∀ (h : List Blk) (b : Nat), getBlk h b = (h[b]?).getD .dead
  | [], _ => by simp [getBlk]
  | c :: r, 0 => by simp [getBlk]
  | c :: r, n + 1 => by simp [getBlk, getBlk_eq r n]
theorem setBlk_eq : ∀ (h : List Blk) (b : Nat) (x : Blk), setBlk h b x = h.set b x
  | [], _, _ => by simp [setBlk]
  | c :: r, 0, _ => by simp [setBlk]
  | c :: r, n + 1, x => by simp [setBlk, setBlk_eq r n x]
theorem appB_eq (h : List Blk) (x : Blk) : appB h x = h ++ [x] := by induction h <;> simp_all [appB]
theorem lenC_eq (l : List AV) : lenC l = l.length := by induction l <;> simp_all [lenC]
theorem takeC_eq : ∀ (n : Nat) (l : List AV), takeC n l = l.take n
  | 0, l => by simp [takeC]
  | n + 1, [] => by simp [takeC]
  | n + 1, c :: r => by simp [takeC, takeC_eq n r]
theorem dropC_eq : ∀ (n : Nat) (l : List AV), dropC n l = l.drop n
  | 0, l => by cases l <;> simp [dropC]
  | n + 1, [] => by simp [dropC]
  | n + 1, c :: r => by simp [dropC, dropC_eq n r]
theorem takeO_eq : ∀ (n : Nat) (l : List Oper), takeO n l = l.take n
  | 0, l => by simp [takeO]
  | n + 1, [] => by simp [takeO]
  | n + 1, c :: r => by simp [takeO, takeO_eq n r]
theorem dropO_eq : ∀ (n : Nat) (l : List Oper), dropO n l = l.drop n
  | 0, l => by cases l <;> simp [dropO]
  | n + 1, [] => by simp [dropO]
  | n + 1, c :: r => by simp [dropO, dropO_eq n r]
theorem nthO_eq : ∀ (l : List Oper) (n : Nat), nthO l n = (l[n]?).bind (·.dst)
  | [], _ => by simp [nthO]
  | c :: r, 0 => by simp [nthO]
  | c :: r, n + 1 => by simp [nthO, nthO_eq r n]
theorem nthA_eq : ∀ (l : List AV) (n : Nat), nthA l n = l[n]?
  | [], _ => by simp [nthA]
  | c :: r, 0 => by simp [nthA]
  | c :: r, n + 1 => by simp [nthA, nthA_eq r n]
theorem nthF_eq : ∀ (l : List (Nat × Nat × Bool)) (n : Nat), nthF l n = l[n]?
  | [], _ => by simp [nthF]
  | c :: r, 0 => by simp [nthF]
  | c :: r, n + 1 => by simp [nthF, nthF_eq r n]
theorem allB_eq {α : Type} (p : α → Bool) (l : List α) : allB p l = l.all p := by
  induction l with
  | nil => rfl
  | cons x r ih => simp only [allB, ih, List.all_cons]; cases p x <;> rfl
theorem lenR_eq (l : List (List AV)) : lenR l = l.length := by induction l <;> simp_all [lenR]
theorem getRow_eq : ∀ (l : List (List AV)) (n : Int), 0 ≤ n → getRow l n = l.getD n.toNat []
  | [], _, _ => by simp [getRow]
  | c :: r, n, h => by
    simp only [getRow]
    by_cases h0 : n = 0
    · subst h0; simp
    · have : (n == 0) = false := by simpa using h0
      rw [this, cond_false, getRow_eq r (n - 1) (by omega)]
      obtain ⟨m, hm⟩ : ∃ m : Nat, n.toNat = m + 1 := ⟨n.toNat - 1, by omega⟩
      rw [hm, show (n - 1).toNat = m by omega]
      rfl
theorem setRow_eq : ∀ (l : List (List AV)) (n : Int) (v : List AV), 0 ≤ n → setRow l n v = l.set n.toNat v
  | [], _, _, _ => by simp [setRow]
  | c :: r, n, v, h => by
    simp only [setRow]
    by_cases h0 : n = 0
    · subst h0; simp
    · have : (n == 0) = false := by simpa using h0
      rw [this, cond_false, setRow_eq r (n - 1) v (by omega)]
      obtain ⟨m, hm⟩ : ∃ m : Nat, n.toNat = m + 1 := ⟨n.toNat - 1, by omega⟩
      rw [hm, show (n - 1).toNat = m by omega]
      rfl
theorem splice_length : ∀ (l : List AV) (n : Nat) (vs : List AV), (splice l n vs).length = l.length
  | [], _, _ => by simp [splice]
  | c :: l, n, [] => by cases n <;> simp [splice]
  | c :: l, 0, v :: vs => by simp [splice, splice_length l 0 vs]
  | c :: l, n + 1, v :: vs => by simp [splice, splice_length l n (v :: vs)]
theorem splice_get : ∀ (l : List AV) (n : Nat) (vs : List AV) (j : Nat), n + vs.length ≤ l.length →
    (splice l n vs)[j]? = if n ≤ j ∧ j < n + vs.length then vs[j - n]? else l[j]?
  | [], n, vs, j, h => by
    have : vs = [] := by cases vs <;> simp_all
    subst this
    simp [splice]
  | c :: l, n, [], j, h => by
    have : ¬ (n ≤ j ∧ j < n + ([] : List AV).length) := by simp
    rw [if_neg this]
    cases n <;> simp [splice]
  | c :: l, 0, v :: vs, j, h => by
    simp only [List.length_cons] at h
    cases j with
    | zero => simp [splice]
    | succ j =>
      have ih := splice_get l 0 vs j (by omega)
      simp only [splice, List.getElem?_cons_succ, ih, List.length_cons]
      by_cases hj : j < vs.length
      · rw [if_pos (by omega), if_pos (by omega)]; simp
      · rw [if_neg (by omega), if_neg (by omega)]
  | c :: l, n + 1, v :: vs, j, h => by
    simp only [List.length_cons] at h
    cases j with
    | zero => simp [splice]
    | succ j =>
      have ih := splice_get l n (v :: vs) j (by simp; omega)
      simp only [splice, List.getElem?_cons_succ, ih, List.length_cons]
      by_cases hj : n ≤ j ∧ j < n + (vs.length + 1)
      · rw [if_pos hj, if_pos (by omega), show j + 1 - (n + 1) = j - n by omega]
      · rw [if_neg hj, if_neg (by omega)]

/-! ### what values stand for -/

/-- values that are only read -/
inductive RoV (O : Nat → Prop) (w : World) : AV → Value → Prop
  | un (v : Value) : RoV O w .un v
  | lit (x : Value) : RoV O w (.lit x) x
  | int (k : IntKind) (n : SI) (v : Int) (h : n.val = v) : RoV O w (.int k n) (.int k v)
  | bool (b : SB) (v : Bool) (h : b.val = v) : RoV O w (.bool b) (.bool v)
  | str (s : ByteArray) : RoV O w (.str s) (.string s)
  | agg (cs : List AV) (ys : Array Value) (hl : cs.length = ys.size) (h : ∀ (j : Nat) (c : AV), cs[j]? = some c → RoV O w c (ys.getD j undef)) : RoV O w (.agg cs) (.agg ys)
  | tup (cs : List AV) (ys : Array Value) (hl : cs.length = ys.size) (h : ∀ (j : Nat) (c : AV), cs[j]? = some c → RoV O w c (ys.getD j undef)) : RoV O w (.tup cs) (.tuple ys)
  | fn (f : FuncId) (cs : List AV) (ys : Array Value) (hl : cs.length = ys.size) (h : ∀ (j : Nat) (c : AV), cs[j]? = some c → RoV O w c (ys.getD j undef)) : RoV O w (.fn f cs) (.func (.func f) #[] ys)
  | sli (k : IntKind) (l : List Int) (a : Addr) (cap : Nat) (hs : a.spot = none) (ho : O a.block) (hcap : l.length ≤ cap)
      (h : ∀ (i : Nat) (n : Int), l[i]? = some n → w.cell? ⟨a.block, a.off + i, none⟩ = some (.int k n)) : RoV O w (.sli k l) (.slice (some a) l.length cap)
  | sliN (k : IntKind) (A : Option Addr) (cap : Nat) : RoV O w (.sli k []) (.slice A 0 cap)
  | slc (sz : Nat) (n : SI) (f : Nat → List AV) (a : Addr) (cap : Nat) (Y : Nat → Nat → Value) (hs : a.spot = none) (ho : O a.block) (h0 : 0 ≤ n.val) (hcap : n.val.toNat ≤ cap)
      (hl : ∀ i, i < n.val.toNat → (f i).length = sz)
      (hc : ∀ (i j : Nat) (c : AV), i < n.val.toNat → (f i)[j]? = some c → w.cell? ⟨a.block, a.off + (i * sz + j), none⟩ = some (Y i j))
      (h : ∀ (i j : Nat) (c : AV), i < n.val.toNat → (f i)[j]? = some c → RoV O w c (Y i j)) : RoV O w (.slc sz n f) (.slice (some a) n.val.toNat cap)
  | slcN (sz : Nat) (n : SI) (f : Nat → List AV) (A : Option Addr) (cap : Nat) (h : n.val = 0) : RoV O w (.slc sz n f) (.slice A 0 cap)
  | s0 (A : Option Addr) : RoV O w .s0 (.slice A 0 0)
  | rp (cs : List AV) (a : Addr) (Y : Nat → Value) (hs : a.spot = none) (ho : O a.block)
      (hc : ∀ (j : Nat) (c : AV), cs[j]? = some c → w.cell? ⟨a.block, a.off + j, none⟩ = some (Y j))
      (h : ∀ (j : Nat) (c : AV), cs[j]? = some c → RoV O w c (Y j)) : RoV O w (.rp cs) (.pointer (some a))

theorem RoV.mono {O O' : Nat → Prop} {w w' : World} (hO : ∀ n, O n → O' n) (hc : ∀ a v, O a.block → w.cell? a = some v → w'.cell? a = some v)
    {x : AV} {v : Value} (h : RoV O w x v) : RoV O' w' x v := by
  induction h with
  | un v => exact .un v
  | lit x => exact .lit x
  | int k n v h => exact .int k n v h
  | bool b v h => exact .bool b v h
  | str s => exact .str s
  | agg cs ys hl h ih => exact .agg cs ys hl ih
  | tup cs ys hl h ih => exact .tup cs ys hl ih
  | fn f cs ys hl h ih => exact .fn f cs ys hl ih
  | sli k l a cap hs ho hp h => exact .sli k l a cap hs (hO _ ho) hp (fun i n hi => hc _ _ ho (h i n hi))
  | sliN k A cap => exact .sliN k A cap
  | slc sz n f a cap Y hs ho h0 hp hl hc' h ih => exact .slc sz n f a cap Y hs (hO _ ho) h0 hp hl (fun i j c hi hj => hc _ _ ho (hc' i j c hi hj)) ih
  | slcN sz n f A cap h => exact .slcN sz n f A cap h
  | s0 A => exact .s0 A
  | rp cs a Y hs ho hc' h ih => exact .rp cs a Y hs (hO _ ho) (fun j c hj => hc _ _ ho (hc' j c hj)) ih

structure X where
  O : Nat → Prop
  μ : Nat → Nat
  h : List Blk
  w : World

/-- how many rows a block has, and of how many cells. -/
def Blk.dim : Blk → Option (Nat × Nat)
  | .dead => none
  | .ints _ _ l => some (l.length, 1)
  | .rows _ sz _ l => some (l.length, sz)
def Blk.wr : Blk → Bool
  | .dead => false
  | .ints w _ _ => w
  | .rows w _ _ _ => w
def dimB (h : List Blk) (b : Nat) : Option (Nat × Nat) := ((h[b]?).getD .dead).dim
def wrB (h : List Blk) (b : Nat) : Bool := ((h[b]?).getD .dead).wr

def LeafR (x : X) (c : AV) (v : Value) : Prop :=
  match c with
  | .ms b sz row len => b < x.h.length ∧ 0 ≤ row.val ∧ 0 ≤ len.val ∧ ∃ A cap, v = .slice A len.val.toNat cap ∧ len.val.toNat ≤ cap ∧ (0 < cap → A = some ⟨x.μ b, row.val.toNat * sz, none⟩) ∧
      (∀ n s, dimB x.h b = some (n, s) → row.val.toNat + len.val.toNat ≤ n ∧ s = sz ∧ ∃ e m, x.w.shape? (x.μ b) = some (e, m) ∧ (row.val.toNat + cap) * sz ≤ m)
  | .ptr b sz row col => b < x.h.length ∧ 0 ≤ row.val ∧ v = .pointer (some ⟨x.μ b, row.val.toNat * sz + col, none⟩) ∧
      (∀ n s, dimB x.h b = some (n, s) → row.val.toNat < n ∧ s = sz)
  | c => RoV x.O x.w c v

def AggR (x : X) (c : AV) (v : Value) : Prop :=
  match c with
  | .agg cs => ∃ ys : Array Value, v = .agg ys ∧ cs.length = ys.size ∧ ∀ (j : Nat) (c : AV), cs[j]? = some c → LeafR x c (ys.getD j undef)
  | .fn f cs => ∃ ys : Array Value, v = .func (.func f) #[] ys ∧ cs.length = ys.size ∧ ∀ (j : Nat) (c : AV), cs[j]? = some c → LeafR x c (ys.getD j undef)
  | c => LeafR x c v

def RelV (x : X) (c : AV) (v : Value) : Prop :=
  match c with
  | .tup cs => ∃ ys : Array Value, v = .tuple ys ∧ cs.length = ys.size ∧ ∀ (j : Nat) (c : AV), cs[j]? = some c → AggR x c (ys.getD j undef)
  | c => AggR x c v

/-- what was there is there still. -/
structure Ext (x x' : X) : Prop where
  o : ∀ n, x.O n → x'.O n
  mu : ∀ b, b < x.h.length → x'.μ b = x.μ b
  len : x.h.length ≤ x'.h.length
  dim : ∀ b, b < x.h.length → ∀ n, dimB x'.h b = some n → dimB x.h b = some n
  cell : ∀ a v, x.O a.block → x.w.cell? a = some v → x'.w.cell? a = some v
  shape : ∀ r s, x.w.shape? r = some s → x'.w.shape? r = some s

theorem Ext.refl (x : X) : Ext x x := ⟨fun _ h => h, fun _ _ => rfl, Nat.le_refl _, fun _ _ _ h => h, fun _ _ _ h => h, fun _ _ h => h⟩
theorem Ext.trans {x y z : X} (h : Ext x y) (k : Ext y z) : Ext x z :=
  ⟨fun n hn => k.o n (h.o n hn), fun b hb => (k.mu b (Nat.lt_of_lt_of_le hb h.len)).trans (h.mu b hb), Nat.le_trans h.len k.len,
   fun b hb n hn => h.dim b hb n (k.dim b (Nat.lt_of_lt_of_le hb h.len) n hn), fun a v ho hc => k.cell a v (h.o _ ho) (h.cell a v ho hc), fun r s hs => k.shape r s (h.shape r s hs)⟩

theorem LeafR.mono {x x' : X} (e : Ext x x') {c : AV} {v : Value} (h : LeafR x c v) : LeafR x' c v := by
  unfold LeafR at *
  split
  · obtain ⟨hb, h0, h1, A, cap, rfl, hle, hA, hd⟩ := h
    refine ⟨Nat.lt_of_lt_of_le hb e.len, h0, h1, A, cap, rfl, hle, by rw [e.mu _ hb]; exact hA, fun n s hn => ?_⟩
    obtain ⟨a1, a2, e1, m, a3, a4⟩ := hd n s (e.dim _ hb _ hn)
    exact ⟨a1, a2, e1, m, by rw [e.mu _ hb]; exact e.shape _ _ a3, a4⟩
  · obtain ⟨hb, h0, rfl, hd⟩ := h
    exact ⟨Nat.lt_of_lt_of_le hb e.len, h0, by rw [e.mu _ hb], fun n s hn => hd n s (e.dim _ hb _ hn)⟩
  · rename_i c h1 h2
    exact RoV.mono e.o e.cell (by split at h <;> first | exact h | (exfalso; first | exact h1 _ _ _ _ rfl | exact h2 _ _ _ _ rfl))

theorem AggR.mono {x x' : X} (e : Ext x x') {c : AV} {v : Value} (h : AggR x c v) : AggR x' c v := by
  unfold AggR at *
  split
  · obtain ⟨ys, rfl, hl, h⟩ := h
    exact ⟨ys, rfl, hl, fun j c hj => (h j c hj).mono e⟩
  · obtain ⟨ys, rfl, hl, h⟩ := h
    exact ⟨ys, rfl, hl, fun j c hj => (h j c hj).mono e⟩
  · rename_i h1 h2
    exact LeafR.mono e (by split at h <;> first | exact h | (exfalso; first | exact h1 _ rfl | exact h2 _ _ rfl))

theorem RelV.mono {x x' : X} (e : Ext x x') {c : AV} {v : Value} (h : RelV x c v) : RelV x' c v := by
  unfold RelV at *
  split
  · obtain ⟨ys, rfl, hl, h⟩ := h
    exact ⟨ys, rfl, hl, fun j c hj => (h j c hj).mono e⟩
  · rename_i h1
    exact AggR.mono e (by split at h <;> first | exact h | (exfalso; first | exact h1 _ rfl))

/-- read-only values, at every level -/
theorem leafR_of_ro {x : X} {c : AV} {v : Value} (h : RoV x.O x.w c v) : LeafR x c v := by
  unfold LeafR
  cases h <;> first | exact RoV.un _ | exact RoV.lit _ | exact RoV.int _ _ _ ‹_› | exact RoV.bool _ _ ‹_› | exact RoV.str _ | exact RoV.agg _ _ ‹_› ‹_› | exact RoV.tup _ _ ‹_› ‹_› | exact RoV.fn _ _ _ ‹_› ‹_› | exact RoV.sli _ _ _ _ ‹_› ‹_› ‹_› ‹_› | exact RoV.sliN _ _ _ | exact RoV.slc _ _ _ _ _ _ ‹_› ‹_› ‹_› ‹_› ‹_› ‹_› ‹_› | exact RoV.slcN _ _ _ _ _ ‹_› | exact RoV.s0 _ | exact RoV.rp _ _ _ ‹_› ‹_› ‹_› ‹_›
theorem aggR_of_ro {x : X} {c : AV} {v : Value} (h : RoV x.O x.w c v) : AggR x c v := by
  cases h with
  | agg cs ys hl h => exact ⟨ys, rfl, hl, fun j c hj => leafR_of_ro (h j c hj)⟩
  | fn f cs ys hl h => exact ⟨ys, rfl, hl, fun j c hj => leafR_of_ro (h j c hj)⟩
  | un v => exact leafR_of_ro (.un v)
  | lit v => exact leafR_of_ro (.lit v)
  | int k n v h => exact leafR_of_ro (.int k n v h)
  | bool b v h => exact leafR_of_ro (.bool b v h)
  | str s => exact leafR_of_ro (.str s)
  | tup cs ys hl h => exact leafR_of_ro (.tup cs ys hl h)
  | sli k l a cap hs ho hp h => exact leafR_of_ro (.sli k l a cap hs ho hp h)
  | sliN k A cap => exact leafR_of_ro (.sliN k A cap)
  | slc sz n f a cap Y hs ho h0 hp hl hc h => exact leafR_of_ro (.slc sz n f a cap Y hs ho h0 hp hl hc h)
  | slcN sz n f A cap h => exact leafR_of_ro (.slcN sz n f A cap h)
  | s0 A => exact leafR_of_ro (.s0 A)
  | rp cs a Y hs ho hc h => exact leafR_of_ro (.rp cs a Y hs ho hc h)
theorem relV_of_ro {x : X} {c : AV} {v : Value} (h : RoV x.O x.w c v) : RelV x c v := by
  cases h with
  | tup cs ys hl h => exact ⟨ys, rfl, hl, fun j c hj => aggR_of_ro (h j c hj)⟩
  | agg cs ys hl h => exact aggR_of_ro (.agg cs ys hl h)
  | fn f cs ys hl h => exact aggR_of_ro (.fn f cs ys hl h)
  | un v => exact leafR_of_ro (.un v)
  | lit v => exact leafR_of_ro (.lit v)
  | int k n v h => exact leafR_of_ro (.int k n v h)
  | bool b v h => exact leafR_of_ro (.bool b v h)
  | str s => exact leafR_of_ro (.str s)
  | sli k l a cap hs ho hp h => exact leafR_of_ro (.sli k l a cap hs ho hp h)
  | sliN k A cap => exact leafR_of_ro (.sliN k A cap)
  | slc sz n f a cap Y hs ho h0 hp hl hc h => exact leafR_of_ro (.slc sz n f a cap Y hs ho h0 hp hl hc h)
  | slcN sz n f A cap h => exact leafR_of_ro (.slcN sz n f A cap h)
  | s0 A => exact leafR_of_ro (.s0 A)
  | rp cs a Y hs ho hc h => exact leafR_of_ro (.rp cs a Y hs ho hc h)

theorem ro_of_leaf {x : X} {c : AV} {v : Value} (h : LeafR x c v) (hm : c.mf1 = true) : RoV x.O x.w c v := by
  unfold LeafR at h
  split at h
  · simp [AV.mf1] at hm
  · simp [AV.mf1] at hm
  · exact h
theorem ro_of_rel {x : X} {c : AV} {v : Value} (h : RelV x c v) (hm : c.mf = true) : RoV x.O x.w c v := by
  cases c with
  | agg cs =>
    obtain ⟨ys, rfl, hl, h⟩ := h
    simp only [AV.mf, allB_eq, List.all_eq_true] at hm
    exact .agg cs ys hl (fun j c hj => ro_of_leaf (h j c hj) (hm c (List.mem_of_getElem? hj)))
  | fn f cs =>
    obtain ⟨ys, rfl, hl, h⟩ := h
    simp only [AV.mf, allB_eq, List.all_eq_true] at hm
    exact .fn f cs ys hl (fun j c hj => ro_of_leaf (h j c hj) (hm c (List.mem_of_getElem? hj)))
  | tup cs => simp [AV.mf, AV.mf1] at hm
  | un => exact ro_of_leaf h hm
  | lit v => exact ro_of_leaf h hm
  | int k n => exact ro_of_leaf h hm
  | bool b => exact ro_of_leaf h hm
  | str s => exact ro_of_leaf h hm
  | sli k l => exact ro_of_leaf h hm
  | slc sz n f => exact ro_of_leaf h hm
  | s0 => exact ro_of_leaf h hm
  | ms b sz row len => exact ro_of_leaf h hm
  | ptr b sz row col => exact ro_of_leaf h hm
  | rp cs => exact ro_of_leaf h hm

/-! ### the state -/

/-- where what is only read may lie. -/
def okO (base : Nat) (O0 : Nat → Prop) (μ : Nat → Nat) (h : List Blk) (w : World) (n : Nat) : Prop :=
  (n < base ∧ O0 n) ∨ (base ≤ n ∧ n < w.heap.size ∧ ∀ b, wrB h b = true → μ b ≠ n)

def mkX (base : Nat) (O0 : Nat → Prop) (μ : Nat → Nat) (h : List Blk) (w : World) : X := ⟨okO base O0 μ h w, μ, h, w⟩

def BlkR (x : X) (g : Nat) (b : Blk) : Prop :=
  match b with
  | .dead => True
  | .ints _ k l => ∃ c e, x.w.heap[g]? = some (.cells c e (0, 0)) ∧ ∀ (i : Nat) (n : Int), l[i]? = some n → c[i]? = some (.int k n)
  | .rows _ sz d l => d.length = sz ∧ ∃ c e, x.w.heap[g]? = some (.cells c e (0, 0)) ∧ ∀ (i : Nat) (r : List AV), l[i]? = some r → r.length = sz ∧ ∀ (j : Nat) (a : AV), r[j]? = some a → ∃ y, c[i * sz + j]? = some y ∧ LeafR x a y

/-- the call's own memory, as the evaluator has it. -/
structure HR (base : Nat) (O0 : Nat → Prop) (μ : Nat → Nat) (h : List Blk) (w : World) : Prop where
  all : base ≤ w.heap.size
  blk : ∀ b x, h[b]? = some x → BlkR (mkX base O0 μ h w) (μ b) x
  low : ∀ b, dimB h b ≠ none → base ≤ μ b
  inj : ∀ b b', wrB h b = true → dimB h b' ≠ none → μ b = μ b' → b = b'
end Go.Proofs.Ytincnfjihffllaa.Ev
