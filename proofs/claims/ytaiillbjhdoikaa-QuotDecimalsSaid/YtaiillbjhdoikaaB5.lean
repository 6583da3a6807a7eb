/- Texts of the proof, joined: Ev26 Ev28 N7 N8 Bn11 N9 Bn12 N10 C9 N11 W2 Br16 W3 W4 Sb1 Sb2 S1 N12 W5 S2 W6 W10 S3 -/
import Derived.Test.YtaiillbjhdoikaaB4
import Derived.Test.YtaiillbjhdoikaaProg
import Derived.Lib.Builder
import Derived.Lib.UnsafeStr
import Derived.WalkKit
import Derived.Laws.Externs
set_option linter.unusedVariables false
set_option linter.unusedSimpArgs false

/- Loops whose rounds hand on memory that they have made: it is named anew behind each. -/
namespace Go.Proofs.Ytaiillbjhdoikaa.Ev
open Go Go.RowKit
set_option linter.unusedVariables false
set_option linter.unusedSimpArgs false

/-- a block's former name -/
def nth0 : List Nat → Nat → Nat
  | [], n => n
  | r :: _, 0 => r
  | _ :: rs, n + 1 => nth0 rs n
def rn1 (ρ : List Nat) : AV → AV
  | .ms b sz row len => .ms (nth0 ρ b) sz row len
  | .ptr b sz row col => .ptr (nth0 ρ b) sz row col
  | c => c
def mapB {α β : Type} (f : α → β) : List α → List β
  | [] => []
  | x :: r => f x :: mapB f r
def rn2 (ρ : List Nat) : AV → AV
  | .agg cs => .agg (mapB (rn1 ρ) cs)
  | .fn f cs => .fn f (mapB (rn1 ρ) cs)
  | c => rn1 ρ c
def rn3 (ρ : List Nat) : AV → AV
  | .tup cs => .tup (mapB (rn2 ρ) cs)
  | c => rn2 ρ c
def rnB (ρ : List Nat) : Blk → Blk
  | .rows w sz d l => .rows w sz d (mapB (mapB (rn1 ρ)) l)
  | b => b
/-- each block that is not let go was there, under its former name -/
def blksM (ρ : List Nat) (h : List Blk) : List Nat → List Blk → Prop
  | _ :: rs, .dead :: bs => blksM ρ h rs bs
  | r :: rs, b :: bs => getBlk h r = rnB ρ b ∧ blksM ρ h rs bs
  | [], [] => True
  | _, _ => False
/-- the former names of those that are not let go are apart -/
def apartN : List Nat → List Blk → List Nat → Bool
  | _ :: rs, .dead :: bs, seen => apartN rs bs seen
  | r :: rs, _ :: bs, seen => bif memN r seen then false else apartN rs bs (r :: seen)
  | _, _, _ => true
/-- the first ones keep their names -/
def idPre (ρ : List Nat) : Nat → Bool
  | 0 => true
  | n + 1 => bif Nat.beq (nth0 ρ n) n then idPre ρ n else false

theorem mapB_eq {α β : Type} (f : α → β) (l : List α) : mapB f l = l.map f := by induction l <;> simp_all [mapB]
theorem idPre_at {ρ : List Nat} : ∀ {n : Nat}, idPre ρ n = true → ∀ b, b < n → nth0 ρ b = b
  | 0, _, b, hb => by omega
  | n + 1, h, b, hb => by
    simp only [idPre] at h
    cases e : Nat.beq (nth0 ρ n) n with
    | false => rw [e] at h; cases h
    | true =>
      rw [e, cond_true] at h
      rcases Nat.lt_or_ge b n with h1 | h1
      · exact idPre_at h b h1
      · have : b = n := by omega
        subst this
        exact Nat.eq_of_beq_eq_true e

theorem memN_iff {n : Nat} : ∀ {l : List Nat}, memN n l = true ↔ n ∈ l
  | [] => by simp [memN]
  | x :: r => by
    simp only [memN]
    cases e : Nat.beq n x with
    | true => simp [Nat.eq_of_beq_eq_true e]
    | false =>
      have : n ≠ x := fun h => by rw [h, Nat.beq_refl] at e; cases e
      simp [memN_iff, this]

/-- block b of the new names: what it was -/
theorem blksM_at {ρ : List Nat} {h : List Blk} : ∀ {rs : List Nat} {bs : List Blk} {b : Nat} {x : Blk}, blksM ρ h rs bs → bs[b]? = some x → x ≠ .dead → getBlk h (nth0 rs b) = rnB ρ x
  | [], bs, b, x, hM, hb, _ => by
    cases bs with
    | nil => simp at hb
    | cons => exact hM.elim
  | r :: rs, [], b, x, hM, hb, _ => by simp at hb
  | r :: rs, y :: bs, 0, x, hM, hb, hx => by
    simp at hb
    subst hb
    cases y with
    | dead => exact absurd rfl hx
    | ints => exact hM.1
    | rows => exact hM.1
  | r :: rs, y :: bs, b + 1, x, hM, hb, hx => by
    have hM' : blksM ρ h rs bs := by cases y with
      | dead => exact hM
      | ints => exact hM.2
      | rows => exact hM.2
    exact blksM_at (rs := rs) (bs := bs) (b := b) hM' (by simpa using hb) hx

theorem blksM_len {ρ : List Nat} {h : List Blk} : ∀ {rs : List Nat} {bs : List Blk}, blksM ρ h rs bs → rs.length = bs.length
  | [], [], _ => rfl
  | [], _ :: _, hM => by exact hM.elim
  | _ :: _, [], hM => by exact hM.elim
  | r :: rs, y :: bs, hM => by
    have hM' : blksM ρ h rs bs := by cases y with
      | dead => exact hM
      | ints => exact hM.2
      | rows => exact hM.2
    simp [blksM_len hM']

theorem apartN_at : ∀ {rs : List Nat} {bs : List Blk} {seen : List Nat}, apartN rs bs seen = true → rs.length = bs.length →
    (∀ b x, bs[b]? = some x → x ≠ .dead → nth0 rs b ∉ seen) ∧ (∀ b b' x x', bs[b]? = some x → x ≠ .dead → bs[b']? = some x' → x' ≠ .dead → nth0 rs b = nth0 rs b' → b = b')
  | [], [], _, _, _ => ⟨fun b x hb => by simp at hb, fun b b' x x' hb => by simp at hb⟩
  | [], _ :: _, _, _, hl => by simp at hl
  | _ :: _, [], _, _, hl => by simp at hl
  | r :: rs, y :: bs, seen, h, hl => by
    have hl' : rs.length = bs.length := by simpa using hl
    by_cases hy : y = .dead
    · subst hy
      obtain ⟨h1, h2⟩ := apartN_at (show apartN rs bs seen = true from h) hl'
      refine ⟨fun b x hb hx => ?_, fun b b' x x' hb hx hb' hx' e => ?_⟩
      · cases b with
        | zero => simp at hb; exact absurd hb.symm hx
        | succ b => exact h1 b x (by simpa using hb) hx
      · cases b with
        | zero => simp at hb; exact absurd hb.symm hx
        | succ b =>
          cases b' with
          | zero => simp at hb'; exact absurd hb'.symm hx'
          | succ b' => rw [h2 b b' x x' (by simpa using hb) hx (by simpa using hb') hx' e]
    · have h' : (bif memN r seen then false else apartN rs bs (r :: seen)) = true := by
        cases y with
        | dead => exact absurd rfl hy
        | ints => exact h
        | rows => exact h
      cases hm : memN r seen with
      | true => rw [hm] at h'; cases h'
      | false =>
        rw [hm, cond_false] at h'
        have hr : r ∉ seen := fun hc => by rw [memN_iff.2 hc] at hm; cases hm
        obtain ⟨h1, h2⟩ := apartN_at h' hl'
        refine ⟨fun b x hb hx => ?_, fun b b' x x' hb hx hb' hx' e => ?_⟩
        · cases b with
          | zero => exact hr
          | succ b => exact fun hc => h1 b x (by simpa using hb) hx (List.mem_cons_of_mem _ hc)
        · cases b with
          | zero =>
            cases b' with
            | zero => rfl
            | succ b' => exact absurd (show nth0 rs b' ∈ r :: seen by rw [← show r = nth0 rs b' from e]; exact List.mem_cons_self ..) (h1 b' x' (by simpa using hb') hx')
          | succ b =>
            cases b' with
            | zero => exact absurd (show nth0 rs b ∈ r :: seen by rw [show nth0 rs b = r from e]; exact List.mem_cons_self ..) (h1 b x (by simpa using hb) hx)
            | succ b' => rw [h2 b b' x x' (by simpa using hb) hx (by simpa using hb') hx' e]

section
variable {P : Program} {G : Nat → TI} {base : Nat} {O0 : Nat → Prop} {μ : Nat → Nat} {hp hq : List Blk} {w w' : World}

/-- memory and its new names -/
structure Named (ρ : List Nat) (hp hq : List Blk) : Prop where
  len : ρ.length = hq.length
  blk : ∀ b x, hq[b]? = some x → x ≠ .dead → hp[nth0 ρ b]? = some (rnB ρ x)
  apart : ∀ b b' x x', hq[b]? = some x → x ≠ .dead → hq[b']? = some x' → x' ≠ .dead → nth0 ρ b = nth0 ρ b' → b = b'
  inl : blksIn (lenB hq) hq

theorem rnB_dead {ρ : List Nat} {x : Blk} (h : x ≠ .dead) : rnB ρ x ≠ .dead := by cases x <;> simp_all [rnB]
theorem rnB_dim {ρ : List Nat} {x : Blk} : (rnB ρ x).dim = x.dim := by cases x <;> simp [rnB, Blk.dim, mapB_eq]
theorem rnB_wr {ρ : List Nat} {x : Blk} : (rnB ρ x).wr = x.wr := by cases x <;> rfl
theorem not_dead_of_dim {x : Blk} {n : Nat × Nat} (h : x.dim = some n) : x ≠ .dead := by rintro rfl; simp [Blk.dim] at h
theorem not_dead_of_wr {x : Blk} (h : x.wr = true) : x ≠ .dead := by rintro rfl; simp [Blk.wr] at h

theorem Named.dim {ρ : List Nat} (N : Named ρ hp hq) {b : Nat} {n : Nat × Nat} (h : dimB hq b = some n) : dimB hp (nth0 ρ b) = some n := by
  unfold dimB at h ⊢
  cases hb : hq[b]? with
  | none => rw [hb] at h; simp [Blk.dim] at h
  | some x =>
    rw [hb] at h
    have hx : x ≠ .dead := not_dead_of_dim h
    rw [N.blk b x hb hx]
    simp only [Option.getD_some] at h ⊢
    rw [rnB_dim]
    exact h
theorem Named.wr {ρ : List Nat} (N : Named ρ hp hq) {b : Nat} (h : wrB hq b = true) : wrB hp (nth0 ρ b) = true := by
  unfold wrB at h ⊢
  cases hb : hq[b]? with
  | none => rw [hb] at h; simp [Blk.wr] at h
  | some x =>
    rw [hb] at h
    have hx : x ≠ .dead := not_dead_of_wr h
    rw [N.blk b x hb hx]
    simp only [Option.getD_some] at h ⊢
    rw [rnB_wr]
    exact h
theorem some_of_dim {b : Nat} (h : dimB hq b ≠ none) : ∃ x, hq[b]? = some x ∧ x ≠ .dead := by
  unfold dimB at h
  cases hb : hq[b]? with
  | none => rw [hb] at h; simp [Blk.dim] at h
  | some x => exact ⟨x, rfl, by rintro rfl; rw [hb] at h; simp [Blk.dim] at h⟩
theorem some_of_wr {b : Nat} (h : wrB hq b = true) : ∃ x, hq[b]? = some x ∧ x ≠ .dead := by
  unfold wrB at h
  cases hb : hq[b]? with
  | none => rw [hb] at h; simp [Blk.wr] at h
  | some x => exact ⟨x, rfl, by rintro rfl; rw [hb] at h; simp [Blk.wr] at h⟩

theorem Named.ok {ρ : List Nat} (N : Named ρ hp hq) {n : Nat} (h : okO base O0 μ hp w n) : okO base O0 (fun b => μ (nth0 ρ b)) hq w n := by
  rcases h with h | ⟨h1, h2, h3⟩
  · exact .inl h
  · exact .inr ⟨h1, h2, fun b hb => h3 _ (N.wr hb)⟩

theorem leaf_named {ρ : List Nat} (N : Named ρ hp hq) {c : AV} {v : Value} (h : LeafR (mkX base O0 μ hp w) (rn1 ρ c) v) (hi : in1 (lenB hq) c = true) : LeafR (mkX base O0 (fun b => μ (nth0 ρ b)) hq w) c v := by
  rw [lenB_eq] at hi
  cases c with
  | ms b sz row len =>
    obtain ⟨hb, h0, h1, A, cap, rfl, hle, hA, hd⟩ := (show LeafR _ (.ms (nth0 ρ b) sz row len) v from h)
    exact ⟨Nat.le_of_ble_eq_true hi, h0, h1, A, cap, rfl, hle, hA, fun n s hn => hd n s (N.dim hn)⟩
  | ptr b sz row col =>
    obtain ⟨hb, h0, rfl, hd⟩ := (show LeafR _ (.ptr (nth0 ρ b) sz row col) v from h)
    exact ⟨Nat.le_of_ble_eq_true hi, h0, rfl, fun n s hn => hd n s (N.dim hn)⟩
  | _ => exact RoV.mono (fun n hn => N.ok hn) (fun _ _ _ h => h) (show RoV _ _ _ v from h)

theorem agg_named {ρ : List Nat} (N : Named ρ hp hq) {c : AV} {v : Value} (h : AggR (mkX base O0 μ hp w) (rn2 ρ c) v) (hi : in2 (lenB hq) c = true) : AggR (mkX base O0 (fun b => μ (nth0 ρ b)) hq w) c v := by
  have list : ∀ {cs : List AV} {ys : Array Value}, allB (in1 (lenB hq)) cs = true → (mapB (rn1 ρ) cs).length = ys.size → (∀ (j : Nat) (c : AV), (mapB (rn1 ρ) cs)[j]? = some c → LeafR (mkX base O0 μ hp w) c (ys.getD j undef)) →
      cs.length = ys.size ∧ ∀ (j : Nat) (c : AV), cs[j]? = some c → LeafR (mkX base O0 (fun b => μ (nth0 ρ b)) hq w) c (ys.getD j undef) := by
    intro cs ys hi hl h
    rw [allB_eq, List.all_eq_true] at hi
    rw [mapB_eq] at hl h
    refine ⟨by simpa using hl, fun j c hj => leaf_named N (h j _ (by rw [List.getElem?_map, hj]; rfl)) (hi c (List.mem_of_getElem? hj))⟩
  cases c with
  | agg cs =>
    obtain ⟨ys, rfl, hl, h⟩ := h
    obtain ⟨h1, h2⟩ := list hi hl h
    exact ⟨ys, rfl, h1, h2⟩
  | fn f cs =>
    obtain ⟨ys, rfl, hl, h⟩ := h
    obtain ⟨h1, h2⟩ := list hi hl h
    exact ⟨ys, rfl, h1, h2⟩
  | un => exact leaf_named (c := .un) N h hi
  | lit x => exact leaf_named (c := .lit x) N h hi
  | int k n => exact leaf_named (c := .int k n) N h hi
  | bool b => exact leaf_named (c := .bool b) N h hi
  | str s => exact leaf_named (c := .str s) N h hi
  | tup cs => exact leaf_named (c := .tup cs) N h hi
  | sli k l => exact leaf_named (c := .sli k l) N h hi
  | slc sz n f => exact leaf_named (c := .slc sz n f) N h hi
  | s0 => exact leaf_named (c := .s0) N h hi
  | ms b sz row len => exact leaf_named (c := .ms b sz row len) N h hi
  | ptr b sz row col => exact leaf_named (c := .ptr b sz row col) N h hi
  | rp cs => exact leaf_named (c := .rp cs) N h hi

theorem rel_named {ρ : List Nat} (N : Named ρ hp hq) {c : AV} {v : Value} (h : RelV (mkX base O0 μ hp w) (rn3 ρ c) v) (hi : in3 (lenB hq) c = true) : RelV (mkX base O0 (fun b => μ (nth0 ρ b)) hq w) c v := by
  cases c with
  | tup cs =>
    obtain ⟨ys, rfl, hl, h⟩ := h
    simp only [in3, allB_eq, List.all_eq_true] at hi
    rw [mapB_eq] at hl h
    exact ⟨ys, rfl, by simpa using hl, fun j c hj => agg_named N (h j _ (by rw [List.getElem?_map, hj]; rfl)) (hi c (List.mem_of_getElem? hj))⟩
  | un => exact agg_named (c := .un) N h hi
  | lit x => exact agg_named (c := .lit x) N h hi
  | int k n => exact agg_named (c := .int k n) N h hi
  | bool b => exact agg_named (c := .bool b) N h hi
  | str s => exact agg_named (c := .str s) N h hi
  | agg cs => exact agg_named (c := .agg cs) N h hi
  | fn f cs => exact agg_named (c := .fn f cs) N h hi
  | sli k l => exact agg_named (c := .sli k l) N h hi
  | slc sz n f => exact agg_named (c := .slc sz n f) N h hi
  | s0 => exact agg_named (c := .s0) N h hi
  | ms b sz row len => exact agg_named (c := .ms b sz row len) N h hi
  | ptr b sz row col => exact agg_named (c := .ptr b sz row col) N h hi
  | rp cs => exact agg_named (c := .rp cs) N h hi

theorem HR.named {ρ : List Nat} (H : HR base O0 μ hp w) (N : Named ρ hp hq) : HR base O0 (fun b => μ (nth0 ρ b)) hq w := by
  refine ⟨H.all, fun b x hx => ?_, fun b hd => ?_, fun b b' h1 h2 h3 => ?_, fun b x hx => ?_, H.gl⟩
  · by_cases hne : x = .dead
    · subst hne; trivial
    · have := H.blk _ _ (N.blk b x hx hne)
      cases x with
      | dead => trivial
      | ints wr kk l => exact this
      | rows wr sz d l =>
        obtain ⟨h1, c, e, h2, h3⟩ := this
        have hin := blksIn_at N.inl hx
        rw [allB_eq, List.all_eq_true] at hin
        refine ⟨h1, c, e, h2, fun i r hi => ?_⟩
        have h4 := h3 i (mapB (rn1 ρ) r) (by rw [mapB_eq, List.getElem?_map, hi]; rfl)
        refine ⟨by simpa [mapB_eq] using h4.1, fun j a hj => ?_⟩
        obtain ⟨y, h5, h6⟩ := h4.2 j (rn1 ρ a) (by rw [mapB_eq, List.getElem?_map, hj]; rfl)
        have hr := hin r (List.mem_of_getElem? hi)
        rw [allB_eq, List.all_eq_true] at hr
        exact ⟨y, h5, leaf_named N h6 (hr a (List.mem_of_getElem? hj))⟩
  · cases hn : dimB hq b with
    | none => exact absurd hn hd
    | some n => exact H.low _ (by rw [N.dim hn]; simp)
  · obtain ⟨x, q1, q2⟩ := some_of_wr h1
    obtain ⟨x', q3, q4⟩ := some_of_dim h2
    cases hn : dimB hq b' with
    | none => exact absurd hn h2
    | some n => exact N.apart b b' x x' q1 q2 q3 q4 (H.inj _ _ (N.wr h1) (by rw [N.dim hn]; simp) h3)
  · by_cases hne : x = .dead
    · subst hne; exact fun ts ht => by cases ht
    · exact TyR.less (.inr (by cases x <;> rfl)) (H.ty _ _ (N.blk b x hx hne))

/-- A round's end is told as the next round's start, under new names; the first n0 blocks keep theirs. -/
def StLeM (n0 : Nat) (ρ : List Nat) (s s' : St) : Prop :=
  blksM ρ s.h ρ s'.h ∧ apartN ρ s'.h [] = true ∧ idPre ρ n0 = true ∧ n0 ≤ lenB s'.h ∧ blksIn (lenB s'.h) s'.h ∧
    ∀ u, AVle (lookT s.t u) (rn3 ρ (lookT s'.t u)) ∧ in3 (lenB s'.h) (lookT s'.t u) = true

theorem SR.leM {I : X} {nt : Nat} {s s' : St} {a : Act} {n0 : Nat} {ρ : List Nat} (R : SR base O0 I nt s μ a w) (h : StLeM n0 ρ s s') (hI : I.h.length ≤ n0) : ∃ μ', SR base O0 I nt s' μ' a w := by
  obtain ⟨h1, h2, h3, h4, h5, h6⟩ := h
  have hl := blksM_len h1
  have N : Named ρ s.h s'.h := by
    refine ⟨hl, fun b x hb hx => ?_, (apartN_at h2 hl).2, h5⟩
    have := blksM_at h1 hb hx
    exact getBlk_some this (rnB_dead hx)
  refine ⟨fun b => μ (nth0 ρ b), R.size, R.defers, R.hr.named N, fun u => rel_named N ((h6 u).1 _ _ (R.tmps u)) (h6 u).2, ?_, R.below⟩
  have e := R.ext
  rw [lenB_eq] at h4
  refine ⟨fun n hn => N.ok (e.o n hn), fun b hb => ?_, by simp only [mkX]; omega, fun b hb n hn => ?_, e.cell, e.shape⟩
  · have := idPre_at h3 b (by omega)
    show μ (nth0 ρ b) = _
    rw [this]
    exact e.mu b hb
  · have := idPre_at h3 b (by omega)
    have hd := N.dim hn
    rw [this] at hd
    exact e.dim b hb n hd

def leM (ρ : List Nat) (k : Nat) (t : List (Nat × AV)) : List (Nat × AV) → Prop
  | [] => True
  | (i, v) :: r => (AVle (lookT t i) (rn3 ρ v) ∧ in3 k v = true) ∧ leM ρ k t r

theorem leM_spec {ρ : List Nat} {k : Nat} {t : List (Nat × AV)} : ∀ {t' : List (Nat × AV)}, leM ρ k t t' → ∀ u, AVle (lookT t u) (rn3 ρ (lookT t' u)) ∧ in3 k (lookT t' u) = true
  | [], _, u => ⟨AVle.un _, rfl⟩
  | (i, v) :: r, h, u => by
    simp only [lookT]
    cases hb : Nat.beq i u with
    | true =>
      have := Nat.eq_of_beq_eq_true hb
      subst this
      exact ⟨h.1.1, h.1.2⟩
    | false => exact leM_spec h.2 u

theorem stLeM {n0 : Nat} {ρ : List Nat} {t t' : List (Nat × AV)} {h h' : List Blk} (e : blksM ρ h ρ h') (a : apartN ρ h' [] = true) (i : idPre ρ n0 = true) (k : Nat.ble n0 (lenB h') = true) (b : blksIn (lenB h') h') (l : leM ρ (lenB h') t t') :
    StLeM n0 ρ ⟨t, h⟩ ⟨t', h'⟩ := ⟨e, a, i, Nat.le_of_ble_eq_true k, b, leM_spec l⟩

theorem loopM_real {ι : Type} (hG : GOK P G) (hm : P.follows .mixedOrders = true) {nt : Nat} {lp : Code → St → (Ex → St → Prop) → Prop} (hlp : ∀ b s K, codeOK nt b = true → lp b s K → lpR P nt b s K) {b : Code} (hc : codeOK nt b = true)
    {s : St} {K : Ex → St → Prop} (S : ι → St) (m : ι → Nat) (ok : ι → Prop) (h0 : ∃ i ρ, ok i ∧ StLeM (lenB s.h) ρ s (S i))
    (hr : ∀ i, ok i → ev (realE P) G lp b (S i) (fun e s2 => match e with
      | .normal => ∃ j ρ, m j < m i ∧ ok j ∧ StLeM (lenB s.h) ρ s2 (S j)
      | .exit x => K (.exit x) s2
      | .goto x => K (.goto x) s2
      | .ret => K .ret s2)) : lpR P nt (.loop b) s K := by
  intro base O0 I μ a w R
  have hI : I.h.length ≤ lenB s.h := by
    have h1 := R.ext.len
    rw [lenB_eq]
    simpa only [mkX] using h1
  obtain ⟨i0, ρ0, ho0, hl0⟩ := h0
  obtain ⟨μ0, R0⟩ := R.leM hl0 hI
  refine wp_loop_ghost (fun n a w => ∃ i μ, m i = n ∧ ok i ∧ SR base O0 I nt (S i) μ a w) (m i0) ⟨i0, μ0, rfl, ho0, R0⟩ ?_
  rintro n a w ⟨i, μ, rfl, ho, R⟩
  refine wp_mono (ev_sound hG hm hlp b _ (S i) μ a w hc R (hr i ho)) ?_
  intro e a w hq
  cases e with
  | normal =>
    obtain ⟨s', μ', R', j, ρ, h1, h2, h3⟩ := hq
    obtain ⟨μ2, R2⟩ := R'.leM h3 hI
    exact ⟨m j, h1, j, μ2, rfl, h2, R2⟩
  | exit i => exact hq
  | goto i => exact hq
  | ret => exact hq
  | panic ch => exact hq.elim
  | outgrown => exact hq.elim

/-- A LOOP, whose rounds hand on memory that they have made. -/
theorem E_loopM {ι : Type} {E : Env} (hE : E = realE P) (hG : GOK P G) (hm : P.follows .mixedOrders = true) {n : Nat} {lp : Code → St → (Ex → St → Prop) → Prop} (hlp : Loops P n lp) {b : Code} {s : St} {K : Ex → St → Prop}
    (S : ι → St) (m : ι → Nat) (ok : ι → Prop) (h0 : ∃ i ρ, ok i ∧ StLeM (lenB s.h) ρ s (S i))
    (hr : ∀ i, ok i → ev E G lp b (S i) (fun e s2 => match e with
      | .normal => ∃ j ρ, m j < m i ∧ ok j ∧ StLeM (lenB s.h) ρ s2 (S j)
      | .exit x => K (.exit x) s2
      | .goto x => K (.goto x) s2
      | .ret => K .ret s2)) : lp (.loop b) s K := by
  subst hE
  subst hlp
  intro hc
  exact loopM_real hG hm (lp := fun b s K => codeOK n b = true → lpR P n b s K) (fun b s K hc h => h hc) (b := b) (show codeOK n b = true from hc) S m ok h0 hr

theorem m_nil {ρ : List Nat} {k : Nat} {t : List (Nat × AV)} : leM ρ k t [] := trivial
theorem m_cons {ρ : List Nat} {k : Nat} {t : List (Nat × AV)} {i : Nat} {v : AV} {r : List (Nat × AV)} (h : sle2 (lookT t i) (rn3 ρ v)) (h' : in3 k v = true) (q : leM ρ k t r) : leM ρ k t ((i, v) :: r) := ⟨⟨fun x val hv => rel_le h hv, h'⟩, q⟩
theorem m_consA {ρ : List Nat} {k : Nat} {t : List (Nat × AV)} {i : Nat} {v : AV} {r : List (Nat × AV)} (h : AVle (lookT t i) (rn3 ρ v)) (h' : in3 k v = true) (q : leM ρ k t r) : leM ρ k t ((i, v) :: r) := ⟨⟨h, h'⟩, q⟩
/-- a place, told by other numbers of the same worth -/
theorem ms_le {b sz : Nat} {row len row' len' : SI} (h1 : row.val = row'.val) (h2 : len.val = len'.val) : AVle (.ms b sz row len) (.ms b sz row' len') := by
  intro x v h
  have h := (show LeafR x (.ms b sz row len) v from h)
  show LeafR x (.ms b sz row' len') v
  unfold LeafR at h ⊢
  dsimp only at h ⊢
  rw [← h1, ← h2]
  exact h
end
end Go.Proofs.Ytaiillbjhdoikaa.Ev

/- Calls that write the caller's memory, or hand back memory that they have made: contracts of them. -/
namespace Go.Proofs.Ytaiillbjhdoikaa.Ev
open Go Go.RowKit
set_option linter.unusedVariables false
set_option linter.unusedSimpArgs false
variable {P : Program} {G : Nat → TI}

/-- A result and the memory behind the call, told under other names; the first n0 blocks keep theirs. -/
def ResLe (n0 : Nat) (ρ : List Nat) (v : AV) (h : List Blk) (r : AV) (h' : List Blk) : Prop :=
  blksM ρ h ρ h' ∧ apartN ρ h' [] = true ∧ idPre ρ n0 = true ∧ n0 ≤ lenB h' ∧ blksIn (lenB h') h' ∧ AVle v (rn3 ρ r) ∧ in3 (lenB h') r = true

theorem callsH_named {f : FuncId} {args : List AV} {h : List Blk} {K K' : AV → List Blk → Prop} (hC : CallsH P f args h K')
    (hK : ∀ v h1, K' v h1 → ∃ ρ r h2, ResLe (lenB h) ρ v h1 r h2 ∧ K r h2) : CallsH P f args h K := by
  intro base O0 μ w vals H hl ha
  refine (hC base O0 μ w vals H hl ha).mono ?_
  rintro e w' ⟨val, v, h1, μ1, rfl, hk, hv, H1, X1, hB⟩
  obtain ⟨ρ, r, h2, ⟨q1, q2, q3, q4, q5, q6, q7⟩, hr⟩ := hK v h1 hk
  have hlen := blksM_len q1
  have N : Named ρ h1 h2 := by
    refine ⟨hlen, fun b x hb hx => ?_, (apartN_at q2 hlen).2, q5⟩
    have := blksM_at q1 hb hx
    exact getBlk_some this (rnB_dead hx)
  refine ⟨val, r, h2, fun b => μ1 (nth0 ρ b), rfl, hr, rel_named N (q6 _ _ hv) q7, H1.named N, ?_, hB⟩
  rw [lenB_eq] at q3
  rw [lenB_eq, lenB_eq] at q4
  refine ⟨fun n hn => N.ok (X1.o n hn), fun b hb => ?_, by simp only [mkX]; omega, fun b hb n hn => ?_, X1.cell, X1.shape⟩
  · have := idPre_at q3 b (by simpa only [mkX] using hb)
    show μ1 (nth0 ρ b) = _
    rw [this]
    exact X1.mu b hb
  · have := idPre_at q3 b (by simpa only [mkX] using hb)
    have hd := N.dim hn
    rw [this] at hd
    exact X1.dim b hb n hd

theorem callsH_mono {f : FuncId} {args : List AV} {h : List Blk} {K K' : AV → List Blk → Prop} (hC : CallsH P f args h K') (hK : ∀ v h1, K' v h1 → K v h1) : CallsH P f args h K := by
  intro base O0 μ w vals H hl ha
  refine (hC base O0 μ w vals H hl ha).mono ?_
  rintro e w' ⟨val, v, h1, μ1, rfl, hk, hr⟩
  exact ⟨val, v, h1, μ1, rfl, hK v h1 hk, hr⟩

/-- A contract of a call over memory, out of a run. -/
theorem callsH_of (hG : GOK P G) (hm : P.follows .mixedOrders = true) {f : FuncId} {fn : Func} (hf : P.funcs[f]? = some fn) {args : List AV} (ho : fnOK fn args.length = true)
    {h : List Blk} {K : AV → List Blk → Prop} (hv : ∀ E, E = realE P → ∀ lp, Loops P fn.ntmps lp → evF E G lp fn args h K) : CallsH P f args h K :=
  E_in rfl hG hm hf ho (fz := none) (fun lp hl => hv _ rfl lp hl)

theorem E_callH {E : Env} (hE : E = realE P) {f : FuncId} {args : List AV} {h : List Blk} {K K' : AV → List Blk → Prop} {fz : Option (List AV × List Blk)} (hC : CallsH P f args h K') (hK : ∀ v h1, K' v h1 → K v h1) : E.call f args h fz K := by
  subst hE; exact callsH_mono hC hK
end Go.Proofs.Ytaiillbjhdoikaa.Ev

/- Contracts: a guess times the divisor taken away, and given back: both write the caller's memory. Printed by gen.py. -/
namespace Go.Proofs.Ytaiillbjhdoikaa.Ev
open Go Go.Proofs
set_option linter.unusedVariables false
set_option linter.unusedSimpArgs false


attribute [local irreducible] Lb
def lessS (E : Env) (d z Q : List Int) (q at_ n : Int) : Int × Int × Int × List Int → St := fun p => ⟨[(0, .ms 2 1 (.l 0) (.s n)), (1, .sli .u32 d), (2, .int .u32 (.s q)), (3, .int .i64 (.s at_)), (9, .int .u32 (.s p.2.2.1)), (10, .int .u64 (.s p.2.1)), (14, .sli .u32 d), (15, .int .i64 (.s (E.len d))), (16, .int .i64 (.s p.1))],
  [.dead, .ints true .u32 z, .ints true .u32 p.2.2.2, .ints true .u32 Q]⟩
set_option maxHeartbeats 2000000 in
theorem h_less (d z R Q : List Int) (q at_ n : Int) (hd : Lb d) (hR : Lb R) (hq : 0 ≤ q ∧ q < 4294967296) (hlr : R.length < 134217728) (ha : 0 ≤ at_) (hat : at_ + d.length < R.length) (hn : at_ + d.length < n) (hn2 : n ≤ R.length) :
    CallsH Try.prog 110 [.ms 2 1 (.l 0) (.s n), .sli .u32 d, .int .u32 (.s q), .int .i64 (.s at_)] [.dead, .ints true .u32 z, .ints true .u32 R, .ints true .u32 Q]
      (fun v h => ∃ r b, v = .bool (.s b) ∧ h = [.dead, .ints true .u32 z, .ints true .u32 r, .ints true .u32 Q] ∧ LessR R d q at_.toNat r b) := by
  obtain ⟨m, em⟩ : ∃ m : Int × Int × Int × List Int → Nat, ∀ p, m p = (d.length - p.1).toNat := ⟨_, fun _ => rfl⟩
  obtain ⟨ok, eok⟩ : ∃ ok : Int × Int × Int × List Int → Prop, ∀ p, ok p ↔ 0 ≤ p.1 ∧ p.1 ≤ d.length ∧ LessInv R d q at_.toNat p.2.2.2 p.1.toNat p.2.1 p.2.2.1 := ⟨_, fun _ => Iff.rfl⟩
  refine callsH_of hG hm Try.func110 (by kernel_rfl) ?_
  intro E hE lp hl
  cbv
  repeat' (first
    | (refine E_br hE (fun h => ?_) (fun h => ?_) <;> cbv)
    | (refine E_nm hE (fun v hv => ?_); cbv)
    | (refine E_nilS hE (fun b hb => ?_); cbv)
    | fail)
  refine E_loop hE hG hm hl (lessS E d z Q q at_ n) m ok ⟨(0, 0, 0, R), (eok _).2 ⟨by show (0 : Int) ≤ 0; omega, by show (0 : Int) ≤ d.length; omega, LessInv.start d q at_.toNat hR⟩, stLe rfl ?_⟩ ?_
  · (repeat' (first | exact t_nil | apply t_cons | exact u2_sli | exact u2_int | exact u2_bool | exact u2_ms | exact u2_ptr | exact (rfl : sle2 .s0 .s0)))
  rintro ⟨i, carry, borrow, r⟩ hok
  have h1 : 0 ≤ i := ((eok _).1 hok).1
  have h2 : i ≤ d.length := ((eok _).1 hok).2.1
  have inv : LessInv R d q at_.toNat r i.toNat carry borrow := ((eok _).1 hok).2.2
  have lr := inv.lb
  have hol := inv.len
  have b0 := inv.b0
  have b1 := inv.b1
  have w1 : ∀ x : Int, 0 ≤ IntKind.u32.wrap x := fun x => by rw [wu32]; omega
  have w2 : ∀ x : Int, IntKind.u32.wrap x < 4294967296 := fun x => by rw [wu32]; omega
  clear hok
  cbv
  repeat' (first
    | (refine E_br hE (fun h => ?_) (fun h => ?_) <;> cbv)
    | (refine E_nm hE (fun v hv => ?_); cbv)
    | (refine E_nilS hE (fun b hb => ?_); cbv)
    | (apply E_callX hE (c_Sub32 _ _ _ ?_ ?_ ?_ ?_ ?_ ?_); (case hf => rfl); (case hc => (cbv <;> trivial)); (case hle => exact u_up); all_goals (first | (intro t ht; cbv) | (((try simp only [SI.val]); first | omega | (subst hE; first | exact (lr.getD _).1 | exact (lr.getD _).2 | exact w1 _ | exact w2 _)))))
    | fail)
  all_goals (try (rename_i c' ec _ _ _; refine ⟨(E.bin .add .i64 i 1, c', v, E.set r (E.bin .add .i64 at_ _) t.1), ?_, ?_, stLe rfl ?_⟩))
  all_goals (try ((repeat' (first | exact t_nil | apply t_cons | exact u2_sli | exact u2_int | exact u2_bool | exact u2_ms | exact u2_ptr | exact (rfl : sle2 .s0 .s0))); done))
  all_goals (subst hE)
  all_goals (try (first
    | (rw [em, em]; exact (less_next hd hq hlr h1 (lss_t ‹_›) ha hat inv ‹_ = i› ‹_› ‹_› ‹t = _› ‹_› rfl ‹_›).2.2.1)
    | (rw [eok]; have q := less_next hd hq hlr h1 (lss_t ‹_›) ha hat inv ‹_ = i› ‹_› ‹_› ‹t = _› ‹_› rfl ‹_›; exact ⟨q.1, q.2.1, q.2.2.2⟩)
    | exact ⟨_, _, rfl, rfl, less_stop hlr h2 (lss_f ‹_›) ha hat inv ‹t = _› ‹_› rfl⟩))
  all_goals (clear inv eok em w1 w2; simp only [NatCast.natCast, Int.ofNat_eq_natCast, realE, cmp_eql, cmp_neq, cmp_lss, cmp_leq, cmp_gtr, cmp_geq, intBinR, decide_eq_true_eq, decide_eq_false_iff_not, SI.val, SB.val, Num.eta, Iv.eta] at *; (try simp only [wi64] at *); subst_vars; omega)

def moreS (E : Env) (d z Q : List Int) (at_ n : Int) : Int × Int × List Int → St := fun p => ⟨[(0, .ms 2 1 (.l 0) (.s n)), (1, .sli .u32 d), (2, .int .i64 (.s at_)), (6, .int .u32 (.s p.2.1)), (9, .sli .u32 d), (10, .int .i64 (.s (E.len d))), (11, .int .i64 (.s p.1))],
  [.dead, .ints true .u32 z, .ints true .u32 p.2.2, .ints true .u32 Q]⟩
set_option maxHeartbeats 2000000 in
theorem h_more (d z R Q : List Int) (at_ n : Int) (hd : Lb d) (hR : Lb R) (hlr : R.length < 134217728) (ha : 0 ≤ at_) (hat : at_ + d.length < R.length) (hn : at_ + d.length < n) (hn2 : n ≤ R.length) :
    CallsH Try.prog 111 [.ms 2 1 (.l 0) (.s n), .sli .u32 d, .int .i64 (.s at_)] [.dead, .ints true .u32 z, .ints true .u32 R, .ints true .u32 Q]
      (fun v h => ∃ r, v = .tup [] ∧ h = [.dead, .ints true .u32 z, .ints true .u32 r, .ints true .u32 Q] ∧ MoreR R d at_.toNat r) := by
  obtain ⟨m, em⟩ : ∃ m : Int × Int × List Int → Nat, ∀ p, m p = (d.length - p.1).toNat := ⟨_, fun _ => rfl⟩
  obtain ⟨ok, eok⟩ : ∃ ok : Int × Int × List Int → Prop, ∀ p, ok p ↔ 0 ≤ p.1 ∧ p.1 ≤ d.length ∧ MoreInv R d at_.toNat p.2.2 p.1.toNat p.2.1 := ⟨_, fun _ => Iff.rfl⟩
  refine callsH_of hG hm Try.func111 (by kernel_rfl) ?_
  intro E hE lp hl
  cbv
  repeat' (first
    | (refine E_br hE (fun h => ?_) (fun h => ?_) <;> cbv)
    | (refine E_nm hE (fun v hv => ?_); cbv)
    | (refine E_nilS hE (fun b hb => ?_); cbv)
    | fail)
  refine E_loop hE hG hm hl (moreS E d z Q at_ n) m ok ⟨(0, 0, R), (eok _).2 ⟨by show (0 : Int) ≤ 0; omega, by show (0 : Int) ≤ d.length; omega, MoreInv.start d at_.toNat hR⟩, stLe rfl ?_⟩ ?_
  · (repeat' (first | exact t_nil | apply t_cons | exact u2_sli | exact u2_int | exact u2_bool | exact u2_ms | exact u2_ptr | exact (rfl : sle2 .s0 .s0)))
  rintro ⟨i, c, r⟩ hok
  have h1 : 0 ≤ i := ((eok _).1 hok).1
  have h2 : i ≤ d.length := ((eok _).1 hok).2.1
  have inv : MoreInv R d at_.toNat r i.toNat c := ((eok _).1 hok).2.2
  have lr := inv.lb
  have hol := inv.len
  have c0 := inv.c0
  have c1 := inv.c1
  have g1 : ∀ v, v = E.get d i → 0 ≤ v := by subst hE; intro v e; rw [e]; exact (hd.getD _).1
  have g2 : ∀ v, v = E.get d i → v < 4294967296 := by subst hE; intro v e; rw [e]; exact (hd.getD _).2
  clear hok
  cbv
  repeat' (first
    | (refine E_br hE (fun h => ?_) (fun h => ?_) <;> cbv)
    | (refine E_nm hE (fun v hv => ?_); cbv)
    | (refine E_nilS hE (fun b hb => ?_); cbv)
    | (apply E_callX hE (c_Add32 _ _ _ ?_ ?_ ?_ ?_ ?_ ?_); (case hf => rfl); (case hc => (cbv <;> trivial)); (case hle => exact u_up); all_goals (first | (intro t ht; cbv) | (((try simp only [SI.val]); first | omega | exact g1 _ ‹_› | exact g2 _ ‹_› | (subst hE; first | exact (lr.getD _).1 | exact (lr.getD _).2)))))
    | fail)
  all_goals (try (refine ⟨(E.bin .add .i64 i 1, v, E.set r (E.bin .add .i64 at_ _) t.1), ?_, ?_, stLe rfl ?_⟩))
  all_goals (try ((repeat' (first | exact t_nil | apply t_cons | exact u2_sli | exact u2_int | exact u2_bool | exact u2_ms | exact u2_ptr | exact (rfl : sle2 .s0 .s0))); done))
  all_goals (subst hE)
  all_goals (try (first
    | (rw [em, em]; exact (more_next hd hlr h1 (lss_t ‹_›) ha hat inv ‹_ = i› ‹_› ‹t = _› ‹_› rfl).2.2.1)
    | (rw [eok]; have q := more_next hd hlr h1 (lss_t ‹_›) ha hat inv ‹_ = i› ‹_› ‹t = _› ‹_› rfl; exact ⟨q.1, q.2.1, q.2.2.2⟩)
    | exact ⟨_, rfl, rfl, more_stop hlr h2 (lss_f ‹_›) ha hat inv rfl⟩))
  all_goals (clear inv eok em g1 g2; simp only [NatCast.natCast, Int.ofNat_eq_natCast, realE, cmp_eql, cmp_neq, cmp_lss, cmp_leq, cmp_gtr, cmp_geq, intBinR, decide_eq_true_eq, decide_eq_false_iff_not, SI.val, SB.val, Num.eta, Iv.eta] at *; (try simp only [wi64] at *); subst_vars; omega)
  all_goals trace_state

end Go.Proofs.Ytaiillbjhdoikaa.Ev

/- Contracts: limbs shifted, into memory that the caller writes. Printed by gen.py. -/
namespace Go.Proofs.Ytaiillbjhdoikaa.Ev
open Go Go.Proofs
set_option linter.unusedVariables false
set_option linter.unusedSimpArgs false


attribute [local irreducible] Lb
set_option maxHeartbeats 1000000 in
theorem h_cut (L : List Int) (n : Int) (hL : Lb L) (hl : L.length < 268435456) (hn : n = L.length) :
    CallsH Try.prog 85 [.ms 0 1 (.l 0) (.s n)] [.ints true .u32 L] (fun v h => ∃ k : Int, v = .ms 0 1 (.l 0) (.s k) ∧ h = [.ints true .u32 L] ∧ 0 ≤ k ∧ k ≤ L.length ∧ L.take k.toNat = lim (lv L)) := by
  obtain ⟨m, em⟩ : ∃ m : Int → Nat, ∀ p, m p = p.toNat := ⟨_, fun _ => rfl⟩
  obtain ⟨ok, eok⟩ : ∃ ok : Int → Prop, ∀ p, ok p ↔ 0 ≤ p ∧ p ≤ L.length ∧ lv (L.take p.toNat) = lv L := ⟨_, fun _ => Iff.rfl⟩
  have s0 : 0 ≤ n ∧ n ≤ L.length ∧ lv (L.take n.toNat) = lv L := ⟨by omega, by omega, by rw [hn, Int.toNat_natCast, List.take_length]⟩
  refine callsH_of hG hm Try.func85 (by kernel_rfl) ?_
  intro E hE lp hl'
  cbv
  refine E_loop hE hG hm hl' (fun p : Int => (⟨[(0, .ms 0 1 (.l 0) (.s p)), (2, .s0)], [.ints true .u32 L]⟩ : St)) m ok ⟨n, (eok _).2 s0, stLe rfl ?_⟩ ?_
  · (repeat' (first | exact t_nil | apply t_cons | exact u2_sli | exact u2_int | exact u2_bool | exact u2_ms | exact u2_ptr | exact (rfl : sle2 .s0 .s0)))
  intro k hok
  have h1 : 0 ≤ k := ((eok _).1 hok).1
  have h2 : k ≤ L.length := ((eok _).1 hok).2.1
  have h3 : lv (L.take k.toNat) = lv L := ((eok _).1 hok).2.2
  have next : ∀ j : Int, 0 < k → j = intBinR .sub .i64 k 1 → L.getD j.toNat 0 = 0 → 0 ≤ j ∧ j ≤ L.length ∧ j.toNat < k.toNat ∧ lv (L.take j.toNat) = lv L := by
    intro j h0 hj hz
    have hj' : j = k - 1 := by rw [hj]; exact wi64_id (by omega) (by omega)
    refine ⟨by omega, by omega, by omega, ?_⟩
    rw [show j.toNat = k.toNat - 1 by omega] at hz ⊢
    rw [lv_cut_step (by omega) (by omega) hz, h3]
  have fin : (k = 0 ∨ L.getD (intBinR .sub .i64 k 1).toNat 0 ≠ 0) → L.take k.toNat = lim (lv L) := by
    intro h
    refine cut_end hL (by omega) ?_ h3
    rcases h with h | h
    · exact .inl (by omega)
    · rcases Int.lt_or_le 0 k with h0 | h0
      · have e : intBinR .sub .i64 k 1 = k - 1 := wi64_id (by omega) (by omega)
        rw [e, show (k - 1).toNat = k.toNat - 1 by omega] at h
        exact .inr h
      · exact .inl (by omega)
  clear hok
  cbv
  repeat' (first
    | (refine E_br hE (fun h => ?_) (fun h => ?_) <;> cbv)
    | (refine E_nm hE (fun v hv => ?_); cbv)
    | (refine E_nilS hE (fun b hb => ?_); cbv)
    | fail)
  all_goals (try (refine ⟨E.bin .sub .i64 k 1, ?_, ?_, stLe rfl ?_⟩))
  all_goals (try ((repeat' (first | exact t_nil | apply t_cons | exact u2_sli | exact u2_int | exact u2_bool | exact u2_ms | exact u2_ptr | exact (rfl : sle2 .s0 .s0))); done))
  all_goals (subst hE)
  all_goals (try (first
    | (rw [em, em]; exact (next _ (gtr_t ‹_›) rfl (eql_t ‹_›)).2.2.1)
    | (rw [eok]; have q := next _ (gtr_t ‹_›) rfl (eql_t ‹_›); exact ⟨q.1, q.2.1, q.2.2.2⟩)
    | exact ⟨k, rfl, rfl, h1, h2, fin (.inr (eql_f ‹_›))⟩
    | exact ⟨k, rfl, rfl, h1, h2, fin (.inl (by have := gtr_f ‹_›; omega))⟩))
  all_goals (clear next fin eok em s0; simp only [NatCast.natCast, Int.ofNat_eq_natCast, realE, cmp_eql, cmp_neq, cmp_lss, cmp_leq, cmp_gtr, cmp_geq, intBinR, decide_eq_true_eq, decide_eq_false_iff_not, SI.val, SB.val, Num.eta, Iv.eta] at *; (try simp only [wi64] at *); omega)

theorem h_Clone (a : List Int) (ha : 0 < a.length) (hl : a.length ≤ 268435456) :
    CallsH Try.prog 97 [.sli .u32 a] [] (fun v h => ∃ L k, v = .ms 0 1 (.l 0) (.s k) ∧ h = [.ints true .u32 L] ∧ k = (a.length : Int) ∧ L = a) := by
  refine callsH_named (callsH_of (K := fun v h => ∃ L k, v = .ms 1 1 (.l 0) (.s k) ∧ h = [.dead, .ints true .u32 L] ∧ k = (a.length : Int) ∧ L = a) hG hm Try.func97 (by kernel_rfl) ?_) ?_
  · intro E hE lp hl'
    cbv
    repeat' (first
    | (refine E_br hE (fun h => ?_) (fun h => ?_) <;> cbv)
    | (refine E_nm hE (fun v hv => ?_); cbv)
    | (refine E_nilS hE (fun b hb => ?_); cbv)
    | fail)
    all_goals (subst hE)
    · exfalso; have := hb h; simp only [realE] at this; omega
    · exact ⟨_, _, rfl, rfl, rfl, rfl⟩
    · have := leq_f h; simp only [realE] at this; omega
  · rintro v h ⟨L, k, rfl, rfl, hk, hL⟩
    exact ⟨[1], .ms 0 1 (.l 0) (.s k), [.ints true .u32 L], ⟨⟨rfl, trivial⟩, rfl, rfl, Nat.zero_le _, trivial, ms_le rfl rfl, rfl⟩, L, k, rfl, rfl, hk, hL⟩
set_option maxHeartbeats 1000000 in
theorem h_Shl (a : List Int) (n : Int) (ha : Lb a) (hla : a.length < 67108864) (ha0 : 0 < lv a) (hn0 : 0 ≤ n) (hn1 : n ≤ 16777216) :
    CallsH Try.prog 57 [.sli .u32 a, .int .i64 (.s n)] [] (fun v h => ∃ L k, v = .ms 0 1 (.l 0) (.s k) ∧ h = [.ints true .u32 L] ∧ 0 ≤ k ∧ k ≤ L.length ∧ L.take k.toNat = lim (lv a * 2 ^ n.toNat) ∧ L.length ≤ 134217728) := by
  generalize hr : lim (lv a * 2 ^ n.toNat) = r
  have hlx := lim_length_le' ha
  have hx := lim_lb (lv a)
  have vx := lv_lim (lv a)
  obtain ⟨x, ex⟩ : ∃ x, lim (lv a) = x := ⟨_, rfl⟩
  rw [ex] at hlx hx vx
  have hx0 : 0 < x.length := by
    rcases Nat.eq_zero_or_pos x.length with h | h
    · rw [List.length_eq_zero_iff.1 h] at vx; simp only [lv] at vx; omega
    · exact h
  obtain ⟨m, em⟩ : ∃ m : Int × List Int → Nat, ∀ p, m p = (x.length - p.1).toNat := ⟨_, fun _ => rfl⟩
  obtain ⟨ok, eok⟩ : ∃ ok : Int × List Int → Prop, ∀ p, ok p ↔ 0 ≤ p.1 ∧ p.1 ≤ x.length ∧ ShlInv x p.2 (n / 32).toNat (n % 32).toNat p.1.toNat := ⟨_, fun _ => Iff.rfl⟩
  have eN : ∀ l : Int, 1 ≤ n → n ≤ 16777216 → l = intBinR .quo .i64 n 32 → IntKind.i64.wrap (IntKind.i64.wrap ((x.length : Int) + l) + 1) = x.length + n / 32 + 1 := by
    intro l n1 n2 el
    have : l = n / 32 := by rw [el]; exact quo32 (by omega) (by omega)
    rw [this, wi64_id (n := (x.length : Int) + n / 32) (by omega) (by omega), wi64_id (by omega) (by omega)]
  refine callsH_of hG hm Try.func57 (by kernel_rfl) ?_
  intro E hE lp hl
  cbv
  (apply E_callX hE (c_cut a ha (by omega)); (case hf => rfl); (case hc => (cbv <;> trivial)); (case hle => exact ⟨u2_sli, trivial⟩); intro x' hx'; cbv)
  rw [hx'.trans ex]
  clear hx' x'
  refine E_br hE (fun h => ?_) (fun h => ?_)
  · have e : x = r := by subst hE; have := lss_t h; rw [← hr, show n.toNat = 0 by omega, Nat.pow_zero, Nat.mul_one, ex]
    cbv
    refine E_callH hE (h_Clone x hx0 (by omega)) ?_
    rintro v h1 ⟨L, k, rfl, rfl, hk, hL⟩
    cbv
    exact ⟨L, k, rfl, rfl, by rw [hk]; exact Int.natCast_nonneg _, by rw [hk, hL]; exact Int.le_refl _, by rw [hk, hL, Int.toNat_natCast, List.take_length]; exact e, by rw [hL]; omega⟩
  have n1 : 1 ≤ n := by subst hE; have := lss_f h; omega
  cbv
  repeat' (first
    | (refine E_br hE (fun h => ?_) (fun h => ?_) <;> cbv)
    | (refine E_nm hE (fun v hv => ?_); cbv)
    | (refine E_nilS hE (fun b hb => ?_); cbv)
    | fail)
  · exfalso; subst hE; have := gtr_t ‹_›; omega
  · exfalso
    have e0 : x.length = 0 := by subst hE; have := eql_t h; simp only [realE] at this; omega
    omega
  all_goals (have n2 : n ≤ 16777216 := (by subst hE; have := gtr_f ‹(realE Try.prog).cmp .gtr n 16777216 = false›; omega))
  all_goals (try (exfalso; have := eN _ n1 n2 (by subst hE; assumption); subst hE; simp only [NatCast.natCast, Int.ofNat_eq_natCast, realE, cmp_eql, cmp_neq, cmp_lss, cmp_leq, cmp_gtr, cmp_geq, intBinR, decide_eq_true_eq, decide_eq_false_iff_not, SI.val, SB.val, Num.eta, Iv.eta] at *; rw [this] at *; omega))
  rename_i l el _ _
  replace eN := eN l n1 n2 (by subst hE; exact el)
  simp only [NatCast.natCast, Int.ofNat_eq_natCast] at eN
  have er := hv
  have l1 : l = n / 32 := by subst hE; rw [el]; exact quo32 (by omega) (by omega)
  have r1 : 0 ≤ v := by
    have : v = n % 32 := by subst hE; rw [hv]; exact rem32 (by omega)
    omega
  clear hv
  refine E_loop hE hG hm hl (shlS E x l v) m ok ⟨(0, E.rep (E.bin .add .i64 (E.bin .add .i64 (E.len x) l) 1)), (eok _).2 ?_, stLe rfl ?_⟩ ?_
  · refine ⟨by show (0 : Int) ≤ 0; omega, by show (0 : Int) ≤ x.length; omega, ?_⟩
    have := ShlInv.start x (n / 32).toNat (n % 32).toNat
    subst hE; simp only [NatCast.natCast, Int.ofNat_eq_natCast, realE, cmp_eql, cmp_neq, cmp_lss, cmp_leq, cmp_gtr, cmp_geq, intBinR, decide_eq_true_eq, decide_eq_false_iff_not, SI.val, SB.val, Num.eta, Iv.eta] at *; rw [eN, show ((x.length : Int) + n / 32 + 1).toNat = x.length + (n / 32).toNat + 1 by omega]
    exact this
  · (repeat' (first | exact t_nil | apply t_cons | exact u2_sli | exact u2_int | exact u2_bool | exact u2_ms | exact u2_ptr | exact (rfl : sle2 .s0 .s0)))
  rintro ⟨i, out⟩ hok
  have h1 : 0 ≤ i := ((eok _).1 hok).1
  have h2 : i ≤ x.length := ((eok _).1 hok).2.1
  have inv : ShlInv x out (n / 32).toNat (n % 32).toNat i.toNat := ((eok _).1 hok).2.2
  have hol := inv.len
  have fin : ¬ i < x.length → lim (lv out) = r := by
    intro h
    have inv' := inv
    rw [show i.toNat = x.length by omega] at inv'
    rw [inv'.stop, ← hr, vx, show 32 * (n / 32).toNat + (n % 32).toNat = n.toNat by omega]
  have lo := inv.lb
  have hol2 : out.length ≤ 134217728 := by omega
  have eNN : E.bin .add .i64 (E.bin .add .i64 (E.len x) l) 1 = (out.length : Int) := by
    subst hE; show IntKind.i64.wrap (IntKind.i64.wrap ((x.length : Int) + l) + 1) = _; rw [eN]; omega
  clear hok hr ex
  cbv
  repeat' (first
    | (refine E_br hE (fun h => ?_) (fun h => ?_) <;> cbv)
    | (refine E_nm hE (fun v hv => ?_); cbv)
    | (refine E_nilS hE (fun b hb => ?_); cbv)
    | fail)
  all_goals (try (
    refine E_callH hE (h_cut out (E.bin .add .i64 (E.bin .add .i64 (E.len x) l) 1) lo (by omega) eNN) ?_
    rintro v h1 ⟨k, rfl, rfl, k1, k2, k3⟩
    cbv
    exact ⟨out, k, rfl, rfl, k1, k2, k3.trans (fin (by subst hE; exact lss_f ‹_›)), hol2⟩))
  all_goals (try refine ⟨(E.bin .add .i64 i 1, _), ?_, ?_, stLe rfl ?_⟩)
  all_goals (try ((repeat' (first | exact t_nil | apply t_cons | exact u2_sli | exact u2_int | exact u2_bool | exact u2_ms | exact u2_ptr | exact (rfl : sle2 .s0 .s0))); done))
  all_goals (subst hE)
  all_goals (try (first | (rw [em, em]; exact (shl_next hx (by omega) n1 n2 h1 (lss_t ‹_›) inv ‹_› el er ‹_› ‹_› rfl).2.2.1) | (rw [eok]; have q := shl_next hx (by omega) n1 n2 h1 (lss_t ‹_›) inv ‹_› el er ‹_› ‹_› rfl; exact ⟨q.1, q.2.1, q.2.2.2⟩)))
  all_goals (clear inv eok em fin er el; simp only [NatCast.natCast, Int.ofNat_eq_natCast, realE, cmp_eql, cmp_neq, cmp_lss, cmp_leq, cmp_gtr, cmp_geq, intBinR, decide_eq_true_eq, decide_eq_false_iff_not, SI.val, SB.val, Num.eta, Iv.eta] at *; (try rw [eN] at *); clear eN; (try simp only [wi64] at *); omega)
end Go.Proofs.Ytaiillbjhdoikaa.Ev

/- A long division's start, rounds and end, as the words of the program reckon them. -/
namespace Go.Proofs.Ytaiillbjhdoikaa.Ev
open Go

theorem lim_length_ge {n k : Nat} (h : 0 < k) (hk : 4294967296 ^ (k - 1) ≤ n) : k ≤ (lim n).length := by
  have := lim_length_lt hk
  omega

theorem lv_ge_last {a : List Int} (h : Lb a) (hne : a ≠ []) (h0 : a.getD (a.length - 1) 0 ≠ 0) : 4294967296 ^ (a.length - 1) ≤ lv a := by
  have hl : 0 < a.length := List.length_pos_iff.2 hne
  have e := lv_take_succ (a := a) (i := a.length - 1) (by omega)
  rw [show a.length - 1 + 1 = a.length by omega, lv_take_all] at e
  have hg := h.getD (a.length - 1)
  have : 4294967296 ^ (a.length - 1) * 1 ≤ 4294967296 ^ (a.length - 1) * (a.getD (a.length - 1) 0).toNat := Nat.mul_le_mul_left _ (by omega)
  omega

/-- The divisor, moved up as far as its limbs go. -/
theorem norm_len {y : List Int} {by_ : Int} (h : Lb y) (hne : y ≠ []) (h0 : y.getD (y.length - 1) 0 ≠ 0) (e : by_ = 32 - blen (y.getD (y.length - 1) 0)) :
    0 ≤ by_ ∧ by_ < 32 ∧ (lim (lv y * 2 ^ by_.toNat)).length = y.length := by
  have hl : 0 < y.length := List.length_pos_iff.2 hne
  have hg := h.getD (y.length - 1)
  have b1 := blen_le 32 (x := y.getD (y.length - 1) 0) (by omega)
  obtain ⟨n, q1, q2, q3⟩ := blen_pos (x := y.getD (y.length - 1) 0) (by omega)
  have hb : 0 ≤ by_ ∧ by_ < 32 := by omega
  refine ⟨hb.1, hb.2, ?_⟩
  have hL := blen_len h hne h0
  have hN : blen (lv y : Int) = ((32 * (y.length - 1) + n : Nat) : Int) + 1 := by rw [hL, q1]; omega
  obtain ⟨k1, k2⟩ := (blen_nat_iff _).1 hN
  have p : (4294967296 : Nat) ^ y.length = 2 ^ (32 * (y.length - 1) + n + 1) * 2 ^ by_.toNat := by
    rw [← Nat.pow_add, show (4294967296 : Nat) = 2 ^ 32 by rfl, ← Nat.pow_mul]
    congr 1
    omega
  apply Nat.le_antisymm
  · apply lim_length_le
    rw [p]
    exact Nat.mul_lt_mul_of_pos_right k2 (Nat.two_pow_pos _)
  · apply lim_length_ge hl
    have := lv_ge_last h hne h0
    have h2 : lv y * 1 ≤ lv y * 2 ^ by_.toNat := Nat.mul_le_mul_left _ (Nat.two_pow_pos _)
    omega

theorem div_start {x y : List Int} {k : Nat} (hx : Lb x) (hy : Lb y) (hxn : x ≠ []) (hyn : y ≠ []) (hx0 : x.getD (x.length - 1) 0 ≠ 0) (hy0 : y.getD (y.length - 1) 0 ≠ 0) (hle : y.length ≤ x.length) :
    DivInv (lv x * 2 ^ k) (lv y * 2 ^ k) y.length (lim (lv x * 2 ^ k) ++ [0, 0]) (List.replicate (x.length - y.length + 1) 0) (x.length - y.length + 1) := by
  have hyl : 0 < y.length := List.length_pos_iff.2 hyn
  have hxl : 0 < x.length := List.length_pos_iff.2 hxn
  have g1 := lv_ge_last hx hxn hx0
  have g2 := lv_ge_last hy hyn hy0
  have g3 := lv_lt hx
  have e0 : lv (lim (lv x * 2 ^ k) ++ [0, 0]) = lv x * 2 ^ k := by
    rw [lv_append, lv_lim]
    simp [lv]
  refine ⟨?_, (lim_lb _).append (Lb.cons (by omega) (by omega) (Lb.cons (by omega) (by omega) Lb.nil)), Lb.replicate _, fun j _ => getD_replicate0 _ _, ?_, ?_⟩
  · have : x.length ≤ (lim (lv x * 2 ^ k)).length := by
      apply lim_length_ge hxl
      have : lv x * 1 ≤ lv x * 2 ^ k := Nat.mul_le_mul_left _ (Nat.two_pow_pos _)
      omega
    simp only [List.length_replicate, List.length_append, List.length_cons, List.length_nil]
    omega
  · rw [lv_replicate, e0]; omega
  · rw [e0]
    have e1 : lv y * 2 ^ k * 4294967296 ^ (x.length - y.length + 1) = 2 ^ k * (lv y * 4294967296 ^ (x.length - y.length + 1)) := by grind
    have e2 : 4294967296 ^ (y.length - 1) * 4294967296 ^ (x.length - y.length + 1) = 4294967296 ^ x.length := by
      rw [← Nat.pow_add]; congr 1; omega
    have e3 : 4294967296 ^ (y.length - 1) * 4294967296 ^ (x.length - y.length + 1) ≤ lv y * 4294967296 ^ (x.length - y.length + 1) := Nat.mul_le_mul_right _ g2
    rw [e1, Nat.mul_comm (lv x)]
    exact Nat.mul_lt_mul_of_pos_left (by omega) (Nat.two_pow_pos _)

section
variable {A : Nat} {d R Q : List Int} {at_ top i i' : Int}
/-- where a round works -/
theorem div_at (hl : Q.length < 134217728) (h1 : 0 ≤ i) (h2 : i < Q.length) (ei : i' = i) (ea : at_ = intBinR .sub .i64 (intBinR .sub .i64 Q.length 1) i') : at_ = Q.length - 1 - i := by
  subst ei
  rw [ea]
  show IntKind.i64.wrap (IntKind.i64.wrap ((Q.length : Int) - 1) - i') = _
  rw [wi64_id (n := (Q.length : Int) - 1) (by omega) (by omega), wi64_id (by omega) (by omega)]

theorem div_guess (hi : DivInv A (lv d) d.length R Q (at_.toNat + 1)) (hd : Lb d) (hn : 2 ≤ d.length) (h0 : d.getD (d.length - 1) 0 ≠ 0) (hl : R.length < 134217728) (ha : 0 ≤ at_) (hat : at_ < Q.length)
    (et : top = intBinR .add .i64 at_ d.length) :
    GuessIn (R.getD top.toNat 0) (R.getD (intBinR .sub .i64 top 1).toNat 0) (R.getD (intBinR .sub .i64 top 2).toNat 0) (d.getD (intBinR .sub .i64 d.length 1).toNat 0) (d.getD (intBinR .sub .i64 d.length 2).toNat 0) ∧
    (guessQ (R.getD top.toNat 0) (R.getD (intBinR .sub .i64 top 1).toNat 0) (R.getD (intBinR .sub .i64 top 2).toNat 0) (d.getD (intBinR .sub .i64 d.length 1).toNat 0) (d.getD (intBinR .sub .i64 d.length 2).toNat 0)
      = guessQ (R.getD (at_.toNat + d.length) 0) (R.getD (at_.toNat + d.length - 1) 0) (R.getD (at_.toNat + d.length - 2) 0) (d.getD (d.length - 1) 0) (d.getD (d.length - 2) 0)) := by
  have hr := hi.lenr
  have et' : top = at_ + d.length := by rw [et]; exact wi64_id (by omega) (by omega)
  have e1 : (intBinR .sub .i64 top 1).toNat = at_.toNat + d.length - 1 := by
    have : intBinR .sub .i64 top 1 = top - 1 := wi64_id (by omega) (by omega)
    omega
  have e2 : (intBinR .sub .i64 top 2).toNat = at_.toNat + d.length - 2 := by
    have : intBinR .sub .i64 top 2 = top - 2 := wi64_id (by omega) (by omega)
    omega
  have e3 : (intBinR .sub .i64 d.length 1).toNat = d.length - 1 := by
    have : intBinR .sub .i64 (d.length : Int) 1 = d.length - 1 := wi64_id (by omega) (by omega)
    omega
  have e4 : (intBinR .sub .i64 d.length 2).toNat = d.length - 2 := by
    have : intBinR .sub .i64 (d.length : Int) 2 = d.length - 2 := wi64_id (by omega) (by omega)
    omega
  rw [e1, e2, e3, e4, show top.toNat = at_.toNat + d.length by omega]
  exact ⟨hi.in_ hd hn rfl (by omega) h0, rfl⟩

theorem div_same {g : Int} {r : List Int} (hi : DivInv A (lv d) d.length R Q (at_.toNat + 1)) (hd : Lb d) (hn : 2 ≤ d.length) (h0 : d.getD (d.length - 1) 0 ≠ 0) (ha : 0 ≤ at_) (hat : at_ < Q.length)
    (eg : g = guessQ (R.getD (at_.toNat + d.length) 0) (R.getD (at_.toNat + d.length - 1) 0) (R.getD (at_.toNat + d.length - 2) 0) (d.getD (d.length - 1) 0) (d.getD (d.length - 2) 0))
    (hr : LessR R d g at_.toNat r false) : DivInv A (lv d) d.length r (Q.set at_.toNat g) at_.toNat := by
  have ok := guessQ_ok (hi.in_ hd hn rfl (by omega) h0)
  rw [← eg] at ok
  have nr := hi.near hd hn rfl (by omega) h0 ok
  have g2 := lv_ge_last hd (by intro e; rw [e] at hn; simp at hn) h0
  have hD : 0 < lv d := Nat.lt_of_lt_of_le (Nat.pow_pos (by omega)) g2
  have v := hr.val
  have q0 := ok.q0
  have q1 := ok.q1
  exact hi.same (by omega) hD hr.len hr.lb ⟨q0, by omega⟩ nr.1 (by simpa using v)

theorem div_less {g g' : Int} {r1 r : List Int} (hi : DivInv A (lv d) d.length R Q (at_.toNat + 1)) (hd : Lb d) (hn : 2 ≤ d.length) (h0 : d.getD (d.length - 1) 0 ≠ 0) (ha : 0 ≤ at_) (hat : at_ < Q.length)
    (eg : g = guessQ (R.getD (at_.toNat + d.length) 0) (R.getD (at_.toNat + d.length - 1) 0) (R.getD (at_.toNat + d.length - 2) 0) (d.getD (d.length - 1) 0) (d.getD (d.length - 2) 0))
    (hr1 : LessR R d g at_.toNat r1 true) (hr : MoreR r1 d at_.toNat r) (eg' : g' = intBinR .sub .u32 g 1) : DivInv A (lv d) d.length r (Q.set at_.toNat g') at_.toNat := by
  have ok := guessQ_ok (hi.in_ hd hn rfl (by omega) h0)
  rw [← eg] at ok
  have nr := hi.near hd hn rfl (by omega) h0 ok
  have g2 := lv_ge_last hd (by intro e; rw [e] at hn; simp at hn) h0
  have hD : 0 < lv d := Nat.lt_of_lt_of_le (Nat.pow_pos (by omega)) g2
  have v1 := hr1.val
  obtain ⟨c, c0, c1, v⟩ := hr.val
  have q0 := ok.q0
  have q1 := ok.q1
  obtain ⟨p1, p2⟩ := hi.less (by omega) hD (lv_lt hd) (hr.len.trans hr1.len) hr1.lb hr.lb ⟨q0, by omega⟩ nr.2 (fun j hj => (hr.same j hj).trans (hr1.same j hj)) hr1.same ⟨c0, c1⟩ (by simpa using v1) v
  have e : g' = g - 1 := by rw [eg']; show IntKind.u32.wrap (g - 1) = _; rw [wu32]; omega
  rw [e]; exact p2
end

theorem lv_take_of_lt {R : List Int} {n : Nat} (h : n ≤ R.length) (hlt : lv R < 4294967296 ^ n) : lv (R.take n) = lv R := by
  have e := lv_take_drop R n h
  rcases Nat.eq_zero_or_pos (lv (R.drop n)) with h0 | h0
  · rw [h0] at e; omega
  · have : 4294967296 ^ n * 1 ≤ 4294967296 ^ n * lv (R.drop n) := Nat.mul_le_mul_left _ h0
    omega

theorem div_stop {x y R Q : List Int} {k m : Nat} (hy : Lb y) (hyn : y ≠ []) (hy0 : 0 < lv y) (hm : y.length + 1 ≤ m) (hmR : m ≤ R.length) (hlen : (lim (lv y * 2 ^ k)).length = y.length)
    (hi : DivInv (lv x * 2 ^ k) (lv y * 2 ^ k) y.length R Q 0) : lv Q = lv x / lv y ∧ lv (R.take m) / 2 ^ k = lv x % lv y := by
  obtain ⟨s1, s2⟩ := hi.stop
  have p : 0 < 2 ^ k := Nat.two_pow_pos k
  have hlt : lv R < 4294967296 ^ m := by
    have h1 : lv y * 2 ^ k < 4294967296 ^ y.length := by
      have := lv_lt (lim_lb (lv y * 2 ^ k))
      rwa [lv_lim, hlen] at this
    have h2 : (4294967296 : Nat) ^ y.length ≤ 4294967296 ^ m := Nat.pow_le_pow_right (by omega) (by omega)
    have h3 : lv R < lv y * 2 ^ k := by rw [s2]; exact Nat.mod_lt _ (Nat.mul_pos hy0 p)
    omega
  rw [lv_take_of_lt hmR hlt, s1, s2, Nat.mul_div_mul_right _ _ p, Nat.mul_mod_mul_right, Nat.mul_div_cancel _ p]
  exact ⟨rfl, rfl⟩
end Go.Proofs.Ytaiillbjhdoikaa.Ev

/- Contracts: the quotient and the rest of limbs. Printed by gen.py. -/
namespace Go.Proofs.Ytaiillbjhdoikaa.Ev
open Go Go.Proofs
set_option linter.unusedVariables false
set_option linter.unusedSimpArgs false


attribute [local irreducible] Lb
theorem pred_len {y : List Int} (h : 1 ≤ y.length) (h' : y.length < 67108864) : intBinR .sub .i64 (y.length : Int) 1 = y.length - 1 := wi64_id (by omega) (by omega)
def divS (w : Int) (d : List Int) (n1 nq : Int) : Int × List Int × List Int → St := fun p => ⟨[(9, .int .i64 (.s w)), (10, .sli .u32 d), (11, .ms 2 1 (.l 0) (.s n1)), (12, .ms 3 1 (.l 0) (.s nq)), (73, .int .i64 (.s nq)), (74, .int .i64 (.s p.1))],
  [.dead, .ints true .u32 [0, 0], .ints true .u32 p.2.1, .ints true .u32 p.2.2]⟩
structure DivOK (A : Nat) (d : List Int) (qn rn : Nat) (i : Int) (R Q : List Int) : Prop where
  i0 : 0 ≤ i
  i1 : i ≤ qn
  inv : DivInv A (lv d) d.length R Q ((qn : Int) - i).toNat
  ql : Q.length = qn
  rl : R.length = rn
set_option maxHeartbeats 4000000 in
theorem c_natDiv (a b : List Int) (ha : Lb a) (hb : Lb b) (hla : a.length < 33554432) (hlb : b.length < 33554432) : ∃ t : List Int × List Int × Bool, t = (if lv b = 0 then ([], [], false) else (lim (lv a / lv b), lim (lv a % lv b), true)) ∧
    CallsA Try.prog 66 [.sli .u32 a, .sli .u32 b] (.tup [.sli .u32 t.1, .sli .u32 t.2.1, .bool (.s t.2.2)]) := by
  refine ⟨_, rfl, ?_⟩
  generalize hr : (if lv b = 0 then ([], [], false) else (lim (lv a / lv b), lim (lv a % lv b), true)) = r
  have hlx := lim_length_le' ha
  have hx := lim_lb (lv a)
  have vx := lv_lim (lv a)
  have lx := (lim_cn (lv a)).last
  have hly := lim_length_le' hb
  have hy := lim_lb (lv b)
  have vy := lv_lim (lv b)
  have ly := (lim_cn (lv b)).last
  obtain ⟨x, ex⟩ : ∃ x, lim (lv a) = x := ⟨_, rfl⟩
  obtain ⟨y, ey⟩ : ∃ y, lim (lv b) = y := ⟨_, rfl⟩
  rw [ex] at hlx hx vx lx
  rw [ey] at hly hy vy ly
  have y0 : y.length = 0 ↔ lv b = 0 := by
    rw [← ey, List.length_eq_zero_iff, lim_eq_nil]
  obtain ⟨m, em⟩ : ∃ m : Int × List Int × List Int → Nat, ∀ p, m p = (x.length + 1 - p.1).toNat := ⟨_, fun _ => rfl⟩
  obtain ⟨ok, eok⟩ : ∃ ok : List Int → Int → Nat → Nat → Int × List Int × List Int → Prop, ∀ d w qn rn p, ok d w qn rn p ↔ DivOK (lv x * 2 ^ w.toNat) d qn rn p.1 p.2.1 p.2.2 := ⟨_, fun _ _ _ _ _ => Iff.rfl⟩
  refine callsA_of hG hm Try.func66 (by kernel_rfl) ?_
  intro E hE lp hl
  cbv
  (apply E_callX hE (c_cut a ha (by omega)); (case hf => rfl); (case hc => (cbv <;> trivial)); (case hle => exact ⟨u2_sli, trivial⟩); intro x' hx'; cbv)
  (apply E_callX hE (c_cut b hb (by omega)); (case hf => rfl); (case hc => (cbv <;> trivial)); (case hle => exact ⟨u2_sli, trivial⟩); intro y' hy'; cbv)
  rw [hx'.trans ex, hy'.trans ey]
  clear hx' hy' x' y'
  refine E_br hE (fun h => ?_) (fun h => ?_)
  · have e : lv b = 0 := y0.1 (by subst hE; have := eql_t h; simp only [realE] at this; omega)
    cbv
    rw [← hr, if_pos e]
    exact ⟨rfl, rfl, rfl, trivial⟩
  have hb0 : 0 < lv b := by
    rcases Nat.eq_zero_or_pos (lv b) with e | e
    · exfalso; have := y0.2 e; subst hE; have := eql_f h; simp only [realE] at this; omega
    · exact e
  have ny : y ≠ [] := by intro e; rw [e] at vy; simp only [lv] at vy; omega
  rw [if_neg (by omega)] at hr
  (apply E_callX hE (c_natCmp x y hx hy (by omega) (by omega)); (case hf => rfl); (case hc => (cbv <;> trivial)); (case hle => exact ⟨u2_sli, u2_sli, trivial⟩); intro t ht; cbv)
  rw [vx, vy] at ht
  refine E_br hE (fun h => ?_) (fun h => ?_)
  · have hlt : lv a < lv b := by
      subst hE; have := lss_t h
      rw [ht] at this
      rcases Nat.lt_or_ge (lv a) (lv b) with h1 | h1
      · exact h1
      · rw [if_neg (by omega)] at this; split at this <;> omega
    cbv
    repeat' (first
    | (refine E_br hE (fun h => ?_) (fun h => ?_) <;> cbv)
    | (refine E_nm hE (fun v hv => ?_); cbv)
    | (refine E_nilS hE (fun b hb => ?_); cbv)
    | (apply E_callX hE (c_Clone _ ?_); (case hf => rfl); (case hc => (cbv <;> trivial)); (case hle => exact u_up); all_goals (first | (intro t ht; cbv) | (omega)))
    | fail)
    rw [← hr, Nat.div_eq_of_lt hlt, Nat.mod_eq_of_lt hlt, ex]
    exact ⟨rfl, ‹_›, rfl, trivial⟩
  have hge : lv b ≤ lv a := by
    subst hE; have := lss_f h
    rw [ht] at this
    rcases Nat.lt_or_ge (lv a) (lv b) with h1 | h1
    · rw [if_pos h1] at this; omega
    · exact h1
  refine E_br hE (fun h => ?_) (fun h => ?_)
  · have y1 : y.length = 1 := by subst hE; have := eql_t h; simp only [realE] at this; omega
    have e0 : y = [y.getD 0 0] := by
      obtain ⟨z, hz⟩ := List.length_eq_one_iff.1 y1
      rw [hz]; rfl
    have g0 := hy.getD 0
    have v0 : lv b = (y.getD 0 0).toNat := by
      rw [← vy]
      conv => lhs; rw [e0]
      simp only [lv]; omega
    have p0 : 0 < y.getD 0 0 := by omega
    cbv
    repeat' (first
    | (refine E_br hE (fun h => ?_) (fun h => ?_) <;> cbv)
    | (refine E_nm hE (fun v hv => ?_); cbv)
    | (refine E_nilS hE (fun b hb => ?_); cbv)
    | (apply E_callX hE (c_short x _ hx ?_ ?_ ?_); (case hf => rfl); (case hc => (cbv <;> trivial)); (case hle => exact u_up); all_goals (first | (intro t ht; cbv) | ((subst hE; first | omega | exact p0 | exact g0.2))))
    | fail)
    · subst hE
      have ht' : t = (lim (lv x / (y.getD 0 0).toNat), lim (lv x % (y.getD 0 0).toNat)) := ht
      rw [ht', ← hr, vx, ← v0]; exact ⟨rfl, rfl, rfl, trivial⟩
    · subst hE; have := lss_f h; simp only [realE] at this; omega
  have y2 : 2 ≤ y.length := by
    have h1 : 0 < y.length := List.length_pos_iff.2 ny
    subst hE; have := eql_f h; simp only [realE] at this; omega
  have nx : x ≠ [] := by intro e; rw [e] at vx; simp only [lv] at vx; omega
  have xy : y.length ≤ x.length := by
    rw [← ex, ← ey]
    rcases Nat.lt_or_ge (lim (lv a)).length (lim (lv b)).length with h1 | h1
    · have := lim_len_lt h1; omega
    · exact h1
  have gl := hy.getD (y.length - 1)
  have g1 : E.get y (E.bin .sub .i64 (E.len y) 1) = y.getD (y.length - 1) 0 := by
    subst hE
    show y.getD (intBinR .sub .i64 (y.length : Int) 1).toNat 0 = _
    rw [pred_len (by omega) (by omega), show ((y.length : Int) - 1).toNat = y.length - 1 by omega]
  cbv
  refine E_br hE (fun h => ?_) (fun h => ?_)
  rotate_left
  · exfalso; subst hE; have := leq_f h; change ¬ 0 ≤ intBinR .sub .i64 (y.length : Int) 1 at this; rw [pred_len (by omega) (by omega)] at this; omega
  cbv
  refine E_br hE (fun h => ?_) (fun h => ?_)
  rotate_left
  · exfalso; subst hE; have := lss_f h; change ¬ intBinR .sub .i64 (y.length : Int) 1 < (y.length : Int) at this; rw [pred_len (by omega) (by omega)] at this; omega
  cbv
  (apply E_callX hE (c_LZ32 (E.get y (E.bin .sub .i64 (E.len y) 1)) (by rw [g1]; exact gl.1) (by rw [g1]; exact gl.2)); (case hf => rfl); (case hc => (cbv <;> trivial)); (case hle => exact ⟨u2_int, trivial⟩); intro t1 ht1; cbv)
  refine E_nm hE (fun w hw => ?_)
  have ew : w = 32 - blen (y.getD (y.length - 1) 0) := by rw [hw, ht1, g1]
  have w0 := (norm_len hy ny (ly ny) ew).1
  have w1 := (norm_len hy ny (ly ny) ew).2.1
  have dl := (norm_len hy ny (ly ny) ew).2.2
  clear hw ew ht1
  cbv
  (apply E_callX hE (c_natShl y w hy (by omega)); (case hf => rfl); (case hc => (cbv <;> trivial)); (case hle => exact ⟨u2_sli, u2_int, trivial⟩); intro d hd; cbv)
  have ed : d = lim (lv y * 2 ^ w.toNat) := by
    rw [hd]
    split
    · rw [show w.toNat = 0 by omega, Nat.pow_zero, Nat.mul_one]
    · rw [if_neg (by omega)]
  have ld : Lb d := ed ▸ lim_lb _
  have vd : lv d = lv y * 2 ^ w.toNat := by rw [ed, lv_lim]
  have nd : d.length = y.length := by rw [ed]; exact dl
  have d0 : d.getD (d.length - 1) 0 ≠ 0 := by
    rw [ed]
    refine (lim_cn _).last ?_
    intro e; rw [e] at dl; simp only [List.length_nil] at dl; omega
  have ds := div_start (k := w.toNat) hx hy nx ny (lx nx) (ly ny) xy
  clear lx ly hd
  refine E_callH hE (h_Shl x w hx (by omega) (by omega) w0 (by omega)) ?_
  intro v h1 hv
  obtain ⟨L, k, hv⟩ := hv
  rw [hv.1, hv.2.1]
  have k0 := hv.2.2.1
  have k1 := hv.2.2.2.1
  have k2 := hv.2.2.2.2.1
  have k3 := hv.2.2.2.2.2
  clear hv h1 v
  have kl : k.toNat = (lim (lv x * 2 ^ w.toNat)).length := by
    have := congrArg List.length k2
    rw [List.length_take] at this; omega
  have kx : (x.length : Int) + 1 ≤ k + 2 := by
    have := ds.lenr
    simp only [List.length_replicate, List.length_append, List.length_cons, List.length_nil] at this
    omega
  have kR : k ≤ 134217728 := by omega
  have kb : (lim (lv x * 2 ^ w.toNat)).length ≤ x.length + 1 := by
    apply lim_length_le
    have h1 := lv_lt hx
    have h2 : 2 ^ w.toNat ≤ 4294967296 := two_pow_le (by omega)
    rw [Nat.pow_succ]
    have h3 : lv x * 2 ^ w.toNat ≤ lv x * 4294967296 := Nat.mul_le_mul_left _ h2
    omega
  rw [← vd, ← nd] at ds
  obtain ⟨qn, hqn⟩ : ∃ qn, qn = x.length - d.length + 1 := ⟨_, rfl⟩
  obtain ⟨rn, hrn⟩ : ∃ rn, rn = k.toNat + 2 := ⟨_, rfl⟩
  have start : DivOK (lv x * 2 ^ w.toNat) d qn rn 0 (((L.drop (0 : Int).toNat).take k.toNat) ++ [0, 0]) (List.replicate qn 0) := by
    refine ⟨Int.le_refl _, by omega, ?_, by simp, ?_⟩
    · rw [← hqn] at ds
      rw [show (0 : Int).toNat = 0 by rfl, List.drop_zero, k2, show ((qn : Int) - 0).toNat = qn by omega]
      exact ds
    · rw [show (0 : Int).toNat = 0 by rfl, List.drop_zero, k2, List.length_append, ← kl]
      rw [hrn]; rfl
  have rn1 : x.length + 1 ≤ rn := by omega
  have rn2 : rn < 67108870 := by omega
  have fin : ∀ i R Q, DivOK (lv x * 2 ^ w.toNat) d qn rn i R Q → ¬ i < qn → Lb Q ∧ Q.length = qn ∧ Lb (R.take (x.length + 1)) ∧ (R.take (x.length + 1)).length = x.length + 1 ∧ (lim (lv Q), lim (lv (R.take (x.length + 1)) / 2 ^ w.toNat), true) = r := by
    intro i R Q o hi
    have hi' : ((qn : Int) - i).toNat = 0 := by have := o.i1; omega
    have inv := o.inv
    rw [hi', vd, nd] at inv
    have rl := o.rl
    obtain ⟨f1, f2⟩ := div_stop hy ny (by omega) (m := x.length + 1) (by omega) (by omega) dl inv
    refine ⟨inv.lbq, o.ql, inv.lbr.take _, by rw [List.length_take]; omega, ?_⟩
    rw [f1, f2, vx, vy, hr]
  have nqv : intBinR .add .i64 (intBinR .sub .i64 (x.length : Int) y.length) 1 = qn := by
    have e : intBinR .sub .i64 (x.length : Int) y.length = x.length - y.length := wi64_id (by omega) (by omega)
    have e2 : intBinR .add .i64 ((x.length : Int) - y.length) 1 = x.length - y.length + 1 := wi64_id (by omega) (by omega)
    rw [e, e2, hqn]; omega
  have n1v : intBinR .add .i64 (x.length : Int) 1 = (x.length + 1 : Nat) := by
    have e2 : intBinR .add .i64 (x.length : Int) 1 = x.length + 1 := wi64_id (by omega) (by omega)
    rw [e2]; rfl
  have qn1 : qn < 67108864 := by omega
  have d2 : 2 ≤ d.length := by omega
  have dx : d.length ≤ x.length := by omega
  have xyI : (y.length : Int) ≤ x.length := by omega
  have y2I : (2 : Int) ≤ y.length := by omega
  have xI : (x.length : Int) < 33554432 := by omega
  cbv
  repeat' (first
    | (refine E_br hE (fun h => ?_) (fun h => ?_) <;> cbv)
    | (refine E_nm hE (fun v hv => ?_); cbv)
    | (refine E_nilS hE (fun b hb => ?_); cbv)
    | fail)
  all_goals (try (exfalso; clear start ds dl d0 kl k2 ed vd fin nqv n1v; subst hE; simp only [NatCast.natCast, Int.ofNat_eq_natCast, realE, cmp_eql, cmp_neq, cmp_lss, cmp_leq, cmp_gtr, cmp_geq, intBinR, decide_eq_true_eq, decide_eq_false_iff_not, SI.val, SB.val, Num.eta, Iv.eta] at *; (try simp only [wi64] at *); omega))
  clear ds dl kl k2 ed vd g1 gl k0 k1 k3 kx kR kb
  refine E_loop hE hG hm hl (divS w d (E.bin .add .i64 (E.len x) 1) (E.bin .add .i64 (E.bin .sub .i64 (E.len x) (E.len y)) 1)) m (ok d w qn rn)
    ⟨(0, E.app (E.sub L 0 k) (E.sub [0, 0] 0 (Int.ofNat 2)), E.rep (E.bin .add .i64 (E.bin .sub .i64 (E.len x) (E.len y)) 1)), (eok _ _ _ _ _).2 ?_, stLe rfl ?_⟩ ?_
  · subst hE
    have e : (realE Try.prog).bin .add .i64 ((realE Try.prog).bin .sub .i64 ((realE Try.prog).len x) ((realE Try.prog).len y)) 1 = (qn : Int) := nqv
    rw [e]
    exact start
  · (repeat' (first | exact t_nil | apply t_cons | exact u2_sli | exact u2_int | exact u2_bool | exact u2_ms | exact u2_ptr | exact (rfl : sle2 .s0 .s0)))
  clear start
  rintro ⟨i, R, Q⟩ hok
  have o : DivOK (lv x * 2 ^ w.toNat) d qn rn i R Q := (eok _ _ _ _ _).1 hok
  have fin' := fin i R Q o
  have i0 := o.i0
  have i1 := o.i1
  clear hok fin ht
  cbv
  repeat' (first
    | (refine E_br hE (fun h => ?_) (fun h => ?_) <;> cbv)
    | (refine E_nm hE (fun v hv => ?_); cbv)
    | (refine E_nilS hE (fun b hb => ?_); cbv)
    | fail)
  all_goals (try (exfalso; clear fin' em eok o nqv n1v; subst hE; simp only [NatCast.natCast, Int.ofNat_eq_natCast, realE, cmp_eql, cmp_neq, cmp_lss, cmp_leq, cmp_gtr, cmp_geq, intBinR, decide_eq_true_eq, decide_eq_false_iff_not, SI.val, SB.val, Num.eta, Iv.eta] at *; (try simp only [wi64] at *); omega))
  rotate_left
  · simp only [NatCast.natCast, Int.ofNat_eq_natCast] at nqv n1v
    have hge : ¬ i < (qn : Int) := by
      subst hE
      have q : ¬ i < intBinR .add .i64 (intBinR .sub .i64 (x.length : Int) y.length) 1 := lss_f h
      rw [nqv] at q
      exact q
    have f1 := (fin' hge).1
    have f2 := (fin' hge).2.1
    have f3 := (fin' hge).2.2.1
    have f4 := (fin' hge).2.2.2.1
    have f5 := (fin' hge).2.2.2.2
    have e1 : E.sub Q 0 (E.bin .add .i64 (E.bin .sub .i64 (E.len x) (E.len y)) 1) = Q := by
      subst hE
      show (Q.drop (0 : Int).toNat).take (intBinR .add .i64 (intBinR .sub .i64 (x.length : Int) y.length) 1).toNat = Q
      rw [nqv]
      exact sub_all (by rw [f2])
    have e2 : E.sub R 0 (E.bin .add .i64 (E.len x) 1) = R.take (x.length + 1) := by
      subst hE
      show (R.drop (0 : Int).toNat).take (intBinR .add .i64 (x.length : Int) 1).toNat = _
      rw [n1v, Int.toNat_natCast]; rfl
    clear fin' o em eok
    (apply E_callX hE (c_cut (E.sub Q 0 (E.bin .add .i64 (E.bin .sub .i64 (E.len x) (E.len y)) 1)) (by rw [e1]; exact f1) (by rw [e1, f2]; omega)); (case hf => rfl); (case hc => (cbv <;> trivial)); (case hle => exact ⟨u2_sli, trivial⟩); intro q hq; cbv)
    (apply E_callX hE (c_natShr (E.sub R 0 (E.bin .add .i64 (E.len x) 1)) w (by rw [e2]; exact f3) (by rw [e2, f4]; omega)); (case hf => rfl); (case hc => (cbv <;> trivial)); (case hle => exact ⟨u2_sli, u2_int, trivial⟩); intro q2 hq2; cbv)
    rw [← f5]
    rw [e1] at hq
    rw [e2] at hq2
    exact ⟨hq, hq2, rfl, trivial⟩
  rename_i i' ei at_ eat _ _ _ _ _ _ _ _ _
  simp only [NatCast.natCast, Int.ofNat_eq_natCast] at nqv n1v xyI y2I xI
  have hi : i < (qn : Int) := by
    subst hE
    have q : i < intBinR .add .i64 (intBinR .sub .i64 (x.length : Int) y.length) 1 := lss_t ‹(realE Try.prog).cmp .lss i _ = true›
    rw [nqv] at q
    exact q
  have nqE : E.bin .add .i64 (E.bin .sub .i64 (E.len x) (E.len y)) 1 = qn := by subst hE; exact nqv
  have n1E : E.bin .add .i64 (E.len x) 1 = (x.length + 1 : Nat) := by subst hE; exact n1v
  have hat : at_ = qn - 1 - i := by
    rw [nqE] at eat
    subst hE
    rw [← o.ql] at eat ⊢
    exact div_at (by rw [o.ql]; omega) o.i0 (by rw [o.ql]; exact hi) ei eat
  have i0 := o.i0
  have a0 : 0 ≤ at_ := by omega
  have a1 : at_ < Q.length := by rw [o.ql]; omega
  have a2 : at_ + d.length < ((x.length + 1 : Nat) : Int) := by omega
  have a3 : ((x.length + 1 : Nat) : Int) ≤ R.length := by rw [o.rl]; omega
  have a4 : R.length < 134217728 := by rw [o.rl]; omega
  have inv : DivInv (lv x * 2 ^ w.toNat) (lv d) d.length R Q (at_.toNat + 1) := by
    have := o.inv
    rwa [show ((qn : Int) - i).toNat = at_.toNat + 1 by omega] at this
  have etop := hv
  have dg : GuessIn (E.get R v) (E.get R (E.bin .sub .i64 v 1)) (E.get R (E.bin .sub .i64 v 2)) (E.get d (E.bin .sub .i64 (E.len d) 1)) (E.get d (E.bin .sub .i64 (E.len d) 2)) ∧
      guessQ (E.get R v) (E.get R (E.bin .sub .i64 v 1)) (E.get R (E.bin .sub .i64 v 2)) (E.get d (E.bin .sub .i64 (E.len d) 1)) (E.get d (E.bin .sub .i64 (E.len d) 2)) =
        guessQ (R.getD (at_.toNat + d.length) 0) (R.getD (at_.toNat + d.length - 1) 0) (R.getD (at_.toNat + d.length - 2) 0) (d.getD (d.length - 1) 0) (d.getD (d.length - 2) 0) := by
    subst hE
    exact div_guess inv ld d2 d0 a4 a0 a1 etop
  have gq := guessQ_ok dg.1
  (apply E_pcallX hE (c_guess _ _ _ _ _ dg.1); (case hm => rfl); (case hle => exact ⟨u2_int, u2_int, u2_int, u2_int, u2_int, trivial⟩); intro g hg)
  have g0 : 0 ≤ g ∧ g < 4294967296 := by rw [hg]; exact ⟨gq.q0, by have := gq.q1; omega⟩
  have eg := hg.trans dg.2
  clear dg gq hg
  have j1 : ∀ j, j = intBinR .add .i64 i 1 → j = i + 1 := fun j e => e.trans (wi64_id (by omega) (by omega))
  have lbR := inv.lbr
  have next : ∀ (j : Int) (r' : List Int) (g' : Int), j = intBinR .add .i64 i 1 → r'.length = R.length → DivInv (lv x * 2 ^ w.toNat) (lv d) d.length r' (Q.set at_.toNat g') at_.toNat →
      m (j, r', Q.set at_.toNat g') < m (i, R, Q) ∧ ok d w qn rn (j, r', Q.set at_.toNat g') := by
    intro j r' g' ej hl hi'
    have ej := j1 j ej
    refine ⟨by rw [em, em]; show ((x.length : Int) + 1 - j).toNat < ((x.length : Int) + 1 - i).toNat; omega, (eok _ _ _ _ _).2 ⟨by show 0 ≤ j; omega, by show j ≤ (qn : Int); omega, ?_, by rw [List.length_set]; exact o.ql, hl.trans o.rl⟩⟩
    show DivInv _ _ _ _ _ ((qn : Int) - j).toNat
    rw [show ((qn : Int) - j).toNat = at_.toNat by omega]
    exact hi'
  have n1a : at_ + d.length < E.bin .add .i64 (E.len x) 1 := by rw [n1E]; exact a2
  have n1b : E.bin .add .i64 (E.len x) 1 ≤ R.length := by rw [n1E]; exact a3
  have a5 : at_ + d.length < R.length := by omega
  have aq : at_ < E.bin .add .i64 (E.bin .sub .i64 (E.len x) (E.len y)) 1 := by rw [nqE]; omega
  cbv
  refine E_nm hE (fun g' hg' => ?_)
  rw [hg']
  clear hg' g'
  cbv
  refine E_callH hE (h_less d [0, 0] R Q g at_ (E.bin .add .i64 (E.len x) 1) ld lbR g0 a4 a0 a5 n1a n1b) ?_
  intro v1 h1 hv1
  obtain ⟨r1, bb, hv1⟩ := hv1
  have lr := hv1.2.2
  rw [hv1.1, hv1.2.1]
  clear hv1 v1 h1
  refine E_br hE (fun hb1 => ?_) (fun hb1 => ?_)
  · have lr1 : LessR R d g at_.toNat r1 true := hb1 ▸ lr
    have l1 := lr1.len
    cbv
    refine E_nm hE (fun g' hg' => ?_)
    cbv
    refine E_callH hE (h_more d [0, 0] r1 Q at_ (E.bin .add .i64 (E.len x) 1) ld lr1.lb (by rw [l1]; exact a4) a0 (by rw [l1]; exact a5) n1a (by rw [l1]; exact n1b)) ?_
    intro v1 h1 hv1
    obtain ⟨r2, hv1⟩ := hv1
    have mr := hv1.2.2
    rw [hv1.1, hv1.2.1]
    clear hv1 v1 h1
    have dn := fun e => div_less inv ld d2 d0 a0 a1 eg lr1 mr (g' := g') e
    have l2 := mr.len.trans l1
    cbv
    repeat' (first
    | (refine E_br hE (fun h => ?_) (fun h => ?_) <;> cbv)
    | (refine E_nm hE (fun v hv => ?_); cbv)
    | (refine E_nilS hE (fun b hb => ?_); cbv)
    | fail)
    all_goals (try refine ⟨(E.bin .add .i64 i 1, r2, E.set Q at_ g'), ?_, ?_, stLe rfl ?_⟩)
    all_goals (try ((repeat' (first | exact t_nil | apply t_cons | exact u2_sli | exact u2_int | exact u2_bool | exact u2_ms | exact u2_ptr | exact (rfl : sle2 .s0 .s0))); done))
    all_goals (subst hE)
    · exact (next _ r2 g' rfl l2 (dn hg')).1
    · exact (next _ r2 g' rfl l2 (dn hg')).2
    all_goals (first | exact absurd a0 (leq_f h) | exact absurd aq (lss_f h))
  · have lr1 : LessR R d g at_.toNat r1 false := hb1 ▸ lr
    have dn := div_same inv ld d2 d0 a0 a1 eg lr1
    have l1 := lr1.len
    cbv
    repeat' (first
    | (refine E_br hE (fun h => ?_) (fun h => ?_) <;> cbv)
    | (refine E_nm hE (fun v hv => ?_); cbv)
    | (refine E_nilS hE (fun b hb => ?_); cbv)
    | fail)
    all_goals (try refine ⟨(E.bin .add .i64 i 1, r1, E.set Q at_ g), ?_, ?_, stLe rfl ?_⟩)
    all_goals (try ((repeat' (first | exact t_nil | apply t_cons | exact u2_sli | exact u2_int | exact u2_bool | exact u2_ms | exact u2_ptr | exact (rfl : sle2 .s0 .s0))); done))
    all_goals (subst hE)
    · exact (next _ r1 g rfl l1 dn).1
    · exact (next _ r1 g rfl l1 dn).2
    all_goals (first | exact absurd a0 (leq_f h) | exact absurd aq (lss_f h))
  all_goals trace_state

end Go.Proofs.Ytaiillbjhdoikaa.Ev

/- The greatest number whose square is not greater, by Newton's steps: sizes. -/
namespace Go.Proofs.Ytaiillbjhdoikaa.Ev
open Go

structure RootOK (a s0 s : Nat) : Prop where
  pos : 0 < s
  up : a < (s + 1) * (s + 1)
  le : s ≤ s0

theorem root_first {x : List Int} (hx : Lb x) (hl : x.length < 524288) (hpos : 0 < lv x) : 1 ≤ (blen (lv x) + 1) / 2 ∧ (blen (lv x) + 1) / 2 ≤ 16777216 ∧ RootOK (lv x) (2 ^ ((blen (lv x) + 1) / 2).toNat) (2 ^ ((blen (lv x) + 1) / 2).toNat) := by
  obtain ⟨n, q1, q2, q3⟩ := blen_pos (x := (lv x : Int)) (by omega)
  have e1 : ((2 ^ n : Nat) : Int) = (2 : Int) ^ n := by push_cast; rfl
  have e2 : ((2 ^ (n + 1) : Nat) : Int) = (2 : Int) ^ (n + 1) := by push_cast; rfl
  rw [← e1] at q2
  rw [← e2] at q3
  have h2 : 2 ^ n ≤ lv x := by omega
  have h3 : lv x < 2 ^ (n + 1) := by omega
  have hn : n < 32 * x.length := by
    rcases Nat.lt_or_ge n (32 * x.length) with h | h
    · exact h
    · exfalso
      have b1 := lv_lt hx
      have b2 : (4294967296 : Nat) ^ x.length = 2 ^ (32 * x.length) := by rw [show (4294967296 : Nat) = 2 ^ 32 by rfl, ← Nat.pow_mul]
      have b3 : 2 ^ (32 * x.length) ≤ 2 ^ n := Nat.pow_le_pow_right (by omega) h
      omega
  rw [q1]
  refine ⟨by omega, by omega, Nat.two_pow_pos _, ?_, Nat.le_refl _⟩
  have e : ((n : Int) + 1 + 1) / 2 = ((n / 2 + 1 : Nat) : Int) := by omega
  rw [e, Int.toNat_natCast]
  have h4 : 2 ^ (n + 1) ≤ 2 ^ (n / 2 + 1) * 2 ^ (n / 2 + 1) := by
    rw [← Nat.pow_add]
    exact Nat.pow_le_pow_right (by omega) (by omega)
  have h5 : 2 ^ (n / 2 + 1) * 2 ^ (n / 2 + 1) ≤ (2 ^ (n / 2 + 1) + 1) * (2 ^ (n / 2 + 1) + 1) := Nat.mul_le_mul (by omega) (by omega)
  omega

theorem lim_len_two {s n M : Nat} (h1 : s ≤ 2 ^ n) (hn : n ≤ 32 * M) : (lim s).length ≤ M + 1 := by
  apply lim_length_le
  have h2 : 2 ^ n ≤ 2 ^ (32 * M) := Nat.pow_le_pow_right (by omega) hn
  have h3 : (2 : Nat) ^ (32 * M) < 2 ^ (32 * (M + 1)) := Nat.pow_lt_pow_right (by omega) (by omega)
  have h4 : (4294967296 : Nat) ^ (M + 1) = 2 ^ (32 * (M + 1)) := by rw [Nat.pow_mul]
  rw [h4]
  omega
theorem RootOK.len {a s0 s : Nat} {n : Nat} (h : RootOK a s0 s) (e : s0 = 2 ^ n) (hn : n ≤ 16777216) : (lim s).length ≤ 524289 :=
  lim_len_two (by rw [← e]; exact h.le) (by omega)

theorem lim_add_len {m n k : Nat} (hm : (lim m).length ≤ k) (hn : (lim n).length ≤ k) : (lim (m + n)).length ≤ k + 1 := by
  have h1 := lv_lt (lim_lb m)
  have h2 := lv_lt (lim_lb n)
  rw [lv_lim] at h1 h2
  have h3 : (4294967296 : Nat) ^ (lim m).length ≤ 4294967296 ^ k := Nat.pow_le_pow_right (by omega) hm
  have h4 : (4294967296 : Nat) ^ (lim n).length ≤ 4294967296 ^ k := Nat.pow_le_pow_right (by omega) hn
  apply lim_length_le
  rw [Nat.pow_succ]
  omega
theorem lim_mono {m n : Nat} (h : m ≤ n) : (lim m).length ≤ (lim n).length := by
  have h1 := lv_lt (lim_lb n)
  rw [lv_lim] at h1
  exact lim_length_le (by omega)
theorem lim_mul_len {m n : Nat} : (lim (m * n)).length ≤ (lim m).length + (lim n).length := by
  have h1 := lv_lt (lim_lb m)
  have h2 := lv_lt (lim_lb n)
  rw [lv_lim] at h1 h2
  apply lim_length_le
  rw [Nat.pow_add]
  exact Nat.mul_lt_mul'' h1 h2

theorem RootOK.next {a s0 s : Nat} (ha : 0 < a) (h : RootOK a s0 s) (hlt : (s + a / s) / 2 < s) : RootOK a s0 ((s + a / s) / 2) :=
  ⟨newton_pos ha h.pos, newton_step h.pos, by have := h.le; omega⟩
theorem RootOK.stop {a s0 s : Nat} (h : RootOK a s0 s) (hlt : ¬ (s + a / s) / 2 < s) : nsqrt a = s :=
  nsqrt_eq (newton_stop h.pos (by omega)) h.up
end Go.Proofs.Ytaiillbjhdoikaa.Ev

/- Contracts: the root of limbs. Printed by gen.py. -/
namespace Go.Proofs.Ytaiillbjhdoikaa.Ev
open Go Go.Proofs
set_option linter.unusedVariables false
set_option linter.unusedSimpArgs false


attribute [local irreducible] Lb
set_option maxHeartbeats 2000000 in
theorem c_natRoot (a : List Int) (ha : Lb a) (hla : a.length < 524288) : ∃ t : List Int × Bool, t = (lim (nsqrt (lv a)), decide (nsqrt (lv a) * nsqrt (lv a) = lv a)) ∧
    CallsA Try.prog 56 [.sli .u32 a] (.tup [.sli .u32 t.1, .bool (.s t.2)]) := by
  refine ⟨_, rfl, ?_⟩
  generalize hr : (lim (nsqrt (lv a)), decide (nsqrt (lv a) * nsqrt (lv a) = lv a)) = r
  have hlx := lim_length_le' ha
  have hx := lim_lb (lv a)
  have vx := lv_lim (lv a)
  obtain ⟨x, ex⟩ : ∃ x, lim (lv a) = x := ⟨_, rfl⟩
  rw [ex] at hlx hx vx
  rw [← vx] at hr ex
  have xx : lim (lv x) = x := ex
  have xl : x.length < 524288 := by omega
  obtain ⟨m, em⟩ : ∃ m : Nat → Nat, ∀ s, m s = s := ⟨_, fun _ => rfl⟩
  obtain ⟨ok, eok⟩ : ∃ ok : Nat → Prop, ∀ s, ok s ↔ 0 < lv x ∧ RootOK (lv x) (2 ^ ((blen (lv x) + 1) / 2).toNat) s := ⟨_, fun _ => Iff.rfl⟩
  refine callsA_of hG hm Try.func56 (by kernel_rfl) ?_
  intro E hE lp hl
  cbv
  refine E_scope hE hG hm hl 0 rfl (fun s : Nat => (⟨[(0, .sli .u32 x), (5, .sli .u32 (lim s))], [.ints false .u32 [1]]⟩ : St)) m ok ?_ ?_
  · cbv
    (apply E_callX hE (c_cut a ha (by omega)); (case hf => rfl); (case hc => (cbv <;> trivial)); (case hle => exact ⟨u2_sli, trivial⟩); intro x' hx'; cbv)
    have hx2 : x' = x := by rw [hx', ← vx, xx]
    rw [hx2]
    clear hx' hx2 x'
    repeat' (first
    | (refine E_br hE (fun h => ?_) (fun h => ?_) <;> cbv)
    | (refine E_nm hE (fun v hv => ?_); cbv)
    | (refine E_nilS hE (fun b hb => ?_); cbv)
    | fail)
    · have e0 : x = [] := List.length_eq_zero_iff.1 (by subst hE; have := eql_t h; simp only [realE] at this; omega)
      rw [← hr, e0]
      exact ⟨rfl, rfl, trivial⟩
    have apos : 0 < lv x := by
      rcases Nat.eq_zero_or_pos (lv x) with h0 | h0
      · exfalso
        rw [h0] at xx
        have : x.length = 0 := by rw [← xx]; rfl
        subst hE; have := eql_f h; simp only [realE] at this; omega
      · exact h0
    have n1 := (root_first hx xl apos).1
    have n2 := (root_first hx xl apos).2.1
    have o := (root_first hx xl apos).2.2
    have n16 : ((blen (lv x : Int) + 1) / 2).toNat ≤ 16777216 := by omega
    (apply E_callX hE (c_natLen x hx (by omega)); (case hf => rfl); (case hc => (cbv <;> trivial)); (case hle => exact ⟨u2_sli, trivial⟩); intro t ht; cbv)
    simp only [NatCast.natCast, Int.ofNat_eq_natCast] at ht n1 n2
    have en : E.bin .quo .i64 (E.bin .add .i64 t 1) 2 = (blen (lv x : Int) + 1) / 2 := by
      subst hE
      show IntKind.i64.wrap ((IntKind.i64.wrap (t + 1)).tdiv 2) = _
      rw [ht, wi64_id (n := blen (lv x : Int) + 1) (by omega) (by omega), Int.tdiv_eq_ediv_of_nonneg (by omega), wi64_id (by omega) (by omega)]
    have l1 : Lb [1] := Lb.cons (by omega) (by omega) Lb.nil
    have es1 : E.sub [1] 0 (Int.ofNat 1) = [1] := by subst hE; rfl
    (apply E_callX hE (c_natShl (E.sub [1] 0 (Int.ofNat 1)) (E.bin .quo .i64 (E.bin .add .i64 t 1) 2) (by rw [es1]; exact l1) (by rw [es1]; decide)); (case hf => rfl); (case hc => (cbv <;> trivial)); (case hle => exact ⟨u2_sli, u2_int, trivial⟩); intro y hy; cbv)
    obtain ⟨s, es⟩ : ∃ s, s = 2 ^ ((blen (lv x : Int) + 1) / 2).toNat := ⟨_, rfl⟩
    have ey : y = lim s := by
      rw [hy, es1, en, if_neg (by omega), if_neg (by omega), es]
      congr 1
      simp [lv]
    rw [ey]
    clear hy ey y
    have o : RootOK (lv x) (2 ^ ((blen (lv x : Int) + 1) / 2).toNat) s := by rw [es]; exact o
    clear es
    cbv

    (apply E_callX hE (c_natDiv x (lim s) hx (lim_lb s) (by omega) (by have := o.len rfl n16; omega)); (case hf => rfl); (case hc => (cbv <;> trivial)); (case hle => exact ⟨u2_sli, u2_sli, trivial⟩); intro t ht; cbv)
    have e1 : t.1 = lim (lv x / s) := by rw [ht, lv_lim, if_neg (by have := o.pos; omega)]
    have b1 : t.1.length ≤ 524289 := by rw [e1]; have := lim_mono (Nat.div_le_self (lv x) s); rw [xx] at this; omega
    (apply E_callX hE (c_natAdd (lim s) t.1 (lim_lb s) (by rw [e1]; exact lim_lb _) (by have := o.len rfl n16; omega) (by omega)); (case hf => rfl); (case hc => (cbv <;> trivial)); (case hle => exact ⟨u2_sli, u2_sli, trivial⟩); intro u hu; cbv)
    have e2 : u = lim (s + lv x / s) := by rw [hu, e1, lv_lim, lv_lim]
    have b2 : u.length ≤ 524290 := by rw [e2]; exact lim_add_len (o.len rfl n16) (e1 ▸ b1)
    (apply E_callX hE (c_natShr u 1 (by rw [e2]; exact lim_lb _) (by omega)); (case hf => rfl); (case hc => (cbv <;> trivial)); (case hle => exact ⟨u2_sli, u2_int, trivial⟩); intro v hv; cbv)
    have e3 : v = lim ((s + lv x / s) / 2) := by rw [hv, e2, lv_lim]; rfl
    have b3 : v.length ≤ 524290 := by rw [e3]; have := lim_mono (Nat.div_le_self (s + lv x / s) 2); rw [← e2] at this; omega
    (apply E_callX hE (c_natCmp v (lim s) (by rw [e3]; exact lim_lb _) (lim_lb s) (by omega) (by have := o.len rfl n16; omega)); (case hf => rfl); (case hc => (cbv <;> trivial)); (case hle => exact ⟨u2_sli, u2_sli, trivial⟩); intro c hc; cbv)
    have e4 : c < 0 ↔ (s + lv x / s) / 2 < s := by
      rw [hc, e3, lv_lim, lv_lim]
      constructor
      · intro h
        rcases Nat.lt_or_ge ((s + lv x / s) / 2) s with h1 | h1
        · exact h1
        · rw [if_neg (by omega)] at h; split at h <;> omega
      · intro h; rw [if_pos h]; decide
    refine E_br hE (fun h => ?_) (fun h => ?_)
    · have hlt : (s + lv x / s) / 2 < s := e4.1 (by subst hE; exact lss_t h)
      cbv
      exact ⟨(s + lv x / s) / 2, (eok _).2 ⟨apos, o.next apos hlt⟩, by rw [← e3]; exact stLe rfl (by (repeat' (first | exact t_nil | apply t_cons | exact u2_sli | exact u2_int | exact u2_bool | exact u2_ms | exact u2_ptr | exact (rfl : sle2 .s0 .s0))))⟩
    · have hst : nsqrt (lv x) = s := o.stop (fun hlt => by have := e4.2 hlt; subst hE; exact lss_f h this)
      have lm : (lim (s * s)).length ≤ 1048578 := by have := lim_mul_len (m := s) (n := s); have := o.len rfl n16; omega
      cbv
      (apply E_callX hE (c_natMul (lim s) (lim s) (lim_lb s) (lim_lb s) (by have := o.len rfl n16; omega) (by have := o.len rfl n16; omega)); (case hf => rfl); (case hc => (cbv <;> trivial)); (case hle => exact ⟨u2_sli, u2_sli, trivial⟩); intro p hp; cbv)
      have e5 : p = lim (s * s) := by rw [hp, lv_lim]
      (apply E_callX hE (c_natCmp p x (by rw [e5]; exact lim_lb _) hx (by rw [e5]; omega) (by omega)); (case hf => rfl); (case hc => (cbv <;> trivial)); (case hle => exact ⟨u2_sli, u2_sli, trivial⟩); intro c2 hc2; cbv)
      repeat' (first
    | (refine E_br hE (fun h => ?_) (fun h => ?_) <;> cbv)
    | (refine E_nm hE (fun v hv => ?_); cbv)
    | (refine E_nilS hE (fun b hb => ?_); cbv)
    | fail)
      rw [← hr, hst]
      refine ⟨rfl, ?_, trivial⟩
      subst hE
      show decide (c2 = 0) = decide (s * s = lv x)
      rw [hc2, e5, lv_lim]
      apply decide_eq_decide.2
      constructor
      · intro h
        rcases Nat.lt_trichotomy (s * s) (lv x) with h1 | h1 | h1
        · rw [if_pos h1] at h; omega
        · exact h1
        · rw [if_neg (by omega), if_pos h1] at h; omega
      · intro h; rw [if_neg (by omega), if_neg (by omega)]

  · intro s hs
    have apos : 0 < lv x := ((eok s).1 hs).1
    have o := ((eok s).1 hs).2
    have n16 : ((blen (lv x : Int) + 1) / 2).toNat ≤ 16777216 := by have := (root_first hx xl apos).2.1; omega
    cbv

    (apply E_callX hE (c_natDiv x (lim s) hx (lim_lb s) (by omega) (by have := o.len rfl n16; omega)); (case hf => rfl); (case hc => (cbv <;> trivial)); (case hle => exact ⟨u2_sli, u2_sli, trivial⟩); intro t ht; cbv)
    have e1 : t.1 = lim (lv x / s) := by rw [ht, lv_lim, if_neg (by have := o.pos; omega)]
    have b1 : t.1.length ≤ 524289 := by rw [e1]; have := lim_mono (Nat.div_le_self (lv x) s); rw [xx] at this; omega
    (apply E_callX hE (c_natAdd (lim s) t.1 (lim_lb s) (by rw [e1]; exact lim_lb _) (by have := o.len rfl n16; omega) (by omega)); (case hf => rfl); (case hc => (cbv <;> trivial)); (case hle => exact ⟨u2_sli, u2_sli, trivial⟩); intro u hu; cbv)
    have e2 : u = lim (s + lv x / s) := by rw [hu, e1, lv_lim, lv_lim]
    have b2 : u.length ≤ 524290 := by rw [e2]; exact lim_add_len (o.len rfl n16) (e1 ▸ b1)
    (apply E_callX hE (c_natShr u 1 (by rw [e2]; exact lim_lb _) (by omega)); (case hf => rfl); (case hc => (cbv <;> trivial)); (case hle => exact ⟨u2_sli, u2_int, trivial⟩); intro v hv; cbv)
    have e3 : v = lim ((s + lv x / s) / 2) := by rw [hv, e2, lv_lim]; rfl
    have b3 : v.length ≤ 524290 := by rw [e3]; have := lim_mono (Nat.div_le_self (s + lv x / s) 2); rw [← e2] at this; omega
    (apply E_callX hE (c_natCmp v (lim s) (by rw [e3]; exact lim_lb _) (lim_lb s) (by omega) (by have := o.len rfl n16; omega)); (case hf => rfl); (case hc => (cbv <;> trivial)); (case hle => exact ⟨u2_sli, u2_sli, trivial⟩); intro c hc; cbv)
    have e4 : c < 0 ↔ (s + lv x / s) / 2 < s := by
      rw [hc, e3, lv_lim, lv_lim]
      constructor
      · intro h
        rcases Nat.lt_or_ge ((s + lv x / s) / 2) s with h1 | h1
        · exact h1
        · rw [if_neg (by omega)] at h; split at h <;> omega
      · intro h; rw [if_pos h]; decide
    refine E_br hE (fun h => ?_) (fun h => ?_)
    · have hlt : (s + lv x / s) / 2 < s := e4.1 (by subst hE; exact lss_t h)
      cbv
      exact ⟨(s + lv x / s) / 2, by rw [em, em]; exact hlt, (eok _).2 ⟨apos, o.next apos hlt⟩, by rw [← e3]; exact stLe rfl (by (repeat' (first | exact t_nil | apply t_cons | exact u2_sli | exact u2_int | exact u2_bool | exact u2_ms | exact u2_ptr | exact (rfl : sle2 .s0 .s0))))⟩
    · have hst : nsqrt (lv x) = s := o.stop (fun hlt => by have := e4.2 hlt; subst hE; exact lss_f h this)
      have lm : (lim (s * s)).length ≤ 1048578 := by have := lim_mul_len (m := s) (n := s); have := o.len rfl n16; omega
      cbv
      (apply E_callX hE (c_natMul (lim s) (lim s) (lim_lb s) (lim_lb s) (by have := o.len rfl n16; omega) (by have := o.len rfl n16; omega)); (case hf => rfl); (case hc => (cbv <;> trivial)); (case hle => exact ⟨u2_sli, u2_sli, trivial⟩); intro p hp; cbv)
      have e5 : p = lim (s * s) := by rw [hp, lv_lim]
      (apply E_callX hE (c_natCmp p x (by rw [e5]; exact lim_lb _) hx (by rw [e5]; omega) (by omega)); (case hf => rfl); (case hc => (cbv <;> trivial)); (case hle => exact ⟨u2_sli, u2_sli, trivial⟩); intro c2 hc2; cbv)
      repeat' (first
    | (refine E_br hE (fun h => ?_) (fun h => ?_) <;> cbv)
    | (refine E_nm hE (fun v hv => ?_); cbv)
    | (refine E_nilS hE (fun b hb => ?_); cbv)
    | fail)
      rw [← hr, hst]
      refine ⟨rfl, ?_, trivial⟩
      subst hE
      show decide (c2 = 0) = decide (s * s = lv x)
      rw [hc2, e5, lv_lim]
      apply decide_eq_decide.2
      constructor
      · intro h
        rcases Nat.lt_trichotomy (s * s) (lv x) with h1 | h1 | h1
        · rw [if_pos h1] at h; omega
        · exact h1
        · rw [if_neg (by omega), if_pos h1] at h; omega
      · intro h; rw [if_neg (by omega), if_neg (by omega)]


end Go.Proofs.Ytaiillbjhdoikaa.Ev

/- Contracts: whole numbers as numbers, the quotient. Printed by gen.py out of C9.spec. -/
namespace Go.Proofs.Ytaiillbjhdoikaa.Ev
open Go Go.Proofs
set_option linter.unusedVariables false
set_option linter.unusedSimpArgs false

theorem c_Of (n : Int) (h0 : -9223372036854775808 ≤ n) (h1 : n < 9223372036854775808) : ∃ t : Num, t = Num.ofInt n ∧ CallsA Try.prog 30 [.int .i64 (.s n)] (t.av) := by
  refine ⟨_, rfl, ?_⟩
  generalize hr : Num.ofInt n = r
  refine callsA_of hG hm Try.func30 (by kernel_rfl) ?_
  intro E hE lp hl
  cbv
  repeat' (first
    | (refine E_br hE (fun h => ?_) (fun h => ?_) <;> cbv)
    | (refine E_nm hE (fun v hv => ?_); cbv)
    | (apply E_callX hE (c_LZ64 _ ?_ ?_); (case hf => rfl); (case hc => (cbv <;> trivial)); (case hle => exact u_up); all_goals (first | (intro t ht; cbv) | (subst hE; (try simp only [realE, cmp_eql, cmp_neq, cmp_lss, cmp_leq, cmp_gtr, cmp_geq, intBinR, decide_eq_true_eq, decide_eq_false_iff_not, SI.val, SB.val, Num.eta, Iv.eta] at *); (subst_vars; simp only [wu64]; omega))))
    | fail)
  all_goals (subst hE; subst hr)
  all_goals (try simp only [realE, cmp_eql, cmp_neq, cmp_lss, cmp_leq, cmp_gtr, cmp_geq, intBinR, decide_eq_true_eq, decide_eq_false_iff_not, SI.val, SB.val, Num.eta, Iv.eta] at *)
  all_goals (try subst_vars)
  all_goals (first | rw [wabs_neg h0 ‹n < 0›] at * | rw [wabs_pos (show 0 ≤ n by omega) h1] at *)
  all_goals (try (exfalso; have := blen_le 64 (x := (n.natAbs : Int)) (by omega); omega))
  case refine_2.hK.refine_1 =>
    have e : n = 0 := by omega
    subst e
    exact ⟨rfl, rfl, rfl, rfl, trivial⟩
  all_goals (unfold Num.ofInt; rw [if_neg (by omega)]; exact ⟨rfl, rfl, rfl, rfl, trivial⟩)

theorem c_quDiv (a : Num) (b : Num) (up : Bool) (ha : a.ok) (hb : b.ok) : ∃ t : Num, t = Num.div a b up ∧ CallsA Try.prog 21 [a.av, b.av, .bool (.s up)] (t.av) := by
  refine ⟨_, rfl, ?_⟩
  generalize hr : Num.div a b up = r
  refine callsA_of hG hm Try.func21 (by kernel_rfl) ?_
  intro E hE lp hl
  cbv
  repeat' (first
    | (refine E_br hE (fun h => ?_) (fun h => ?_) <;> cbv)
    | (refine E_nm hE (fun v hv => ?_); cbv)
    | (apply E_pcallX hE (c_quFair ⟨_, _, _, _⟩); (case hm => rfl); (case hle => exact u_up); intro t ht; cbv)
    | (apply E_callX hE (c_Inf _); (case hf => rfl); (case hc => (cbv <;> trivial)); (case hle => exact u_up); intro t ht; cbv)
    | (apply E_callX hE (c_Div64 _ _ _ ?_ ?_ ?_ ?_ ?_ ?_); (case hf => rfl); (case hc => (cbv <;> trivial)); (case hle => exact u_up); all_goals (first | (intro t ht; cbv) | (subst hE; (try simp only [realE, cmp_eql, cmp_neq, cmp_lss, cmp_leq, cmp_gtr, cmp_geq, intBinR, decide_eq_true_eq, decide_eq_false_iff_not, SI.val, SB.val, Num.eta, Iv.eta] at *); (subst_vars; have fb := Num.fin_of (n := b) ‹_› ‹_›; have ob := Num.fair_ok hb; have oa := Num.fair_ok ha; have := oa.1; have := oa.2; have := ob.1; have := ob.2; (try simp only [shr1, shl63, wu64] at *); first | omega | exact (show 0 ≤ a.fair.m by omega) | exact (show a.fair.m < b.fair.m by omega) | exact (show a.fair.m / 2 < b.fair.m by omega) | exact (show 9223372036854775808 ≤ b.fair.m by omega) | exact (show b.fair.m < 18446744073709551616 by omega)))))
    | (apply E_callX hE (c_Grow _ _ _ _ _); (case hf => rfl); (case hc => (cbv <;> trivial)); (case hle => exact u_up); intro t ht; cbv)
    | fail)
  all_goals (subst hE; subst hr)
  all_goals (try simp only [realE, cmp_eql, cmp_neq, cmp_lss, cmp_leq, cmp_gtr, cmp_geq, intBinR, decide_eq_true_eq, decide_eq_false_iff_not, SI.val, SB.val, Num.eta, Iv.eta] at *)
  all_goals (refine Num.fin (t := ⟨_, _, _, _⟩) ?_; subst_vars; unfold Num.div)
  case' hK.hK.refine_1.hK => rw [if_pos ‹_›]
  case' hK.hK.refine_2.refine_1 => rw [if_neg ‹_›, if_pos (.inl ‹_›)]; rfl
  case' hK.hK.refine_2.refine_2.refine_1 => rw [if_neg ‹_›, if_pos (.inr ‹_›)]; rfl
  case' hK.hK.refine_2.refine_2.refine_2.refine_1.hK => rw [if_neg ‹_›, if_neg (by simp_all), if_pos ‹_›]; rfl
  all_goals (rw [if_neg ‹¬ b.fair.kind = 0›, if_neg (by simp_all), if_neg ‹¬ a.fair.kind = 2›])
  all_goals (have fa := Num.fin_of (n := a) ‹_› ‹_›; have fb := Num.fin_of (n := b) ‹_› ‹_›; simp only [shr1, shl63])
  all_goals (first | exact Num.div_lo (Num.fair_ok ha) fa.2.2 fb.2.2 ‹_› | exact Num.div_hi (Num.fair_ok ha) fa.2.2 fb.2.2 ‹_›)

end Go.Proofs.Ytaiillbjhdoikaa.Ev

/- Contracts: words and limbs. Printed by gen.py. -/
namespace Go.Proofs.Ytaiillbjhdoikaa.Ev
open Go Go.Proofs
set_option linter.unusedVariables false
set_option linter.unusedSimpArgs false


attribute [local irreducible] Lb
theorem word_next {a : List Int} {i n : Int} (ha : Lb a) (hl : a.length ≤ 2) (h1 : 0 ≤ i) (h2 : i < a.length) (hn : n = lv (a.take i.toNat)) {i' x v j : Int} (ei : i' = i) (ex : x = a.getD i.toNat 0)
    (ev : v = intBinR .or .u64 n (intBinR .shl .u64 (IntKind.u64.wrap x) (intBinR .mul .i64 32 i'))) (ej : j = intBinR .add .i64 i 1) :
    0 ≤ j ∧ j ≤ a.length ∧ ((a.length : Int) - j).toNat < ((a.length : Int) - i).toNat ∧ v = lv (a.take j.toNat) := by
  subst ei
  have hx := ha.getD i'.toNat
  have ej' : j = i' + 1 := by rw [ej]; show IntKind.i64.wrap (i' + 1) = _; rw [wi64_id (by omega) (by omega)]
  refine ⟨by omega, by omega, by omega, ?_⟩
  rw [ej', show (i' + 1).toNat = i'.toNat + 1 by omega, lv_take_succ (by omega), ← ex]
  rw [← ex] at hx
  rw [wu64_id hx.1 (by omega)] at ev
  rcases (show i' = 0 ∨ i' = 1 by omega) with rfl | rfl
  · have e0 : n = 0 := by rw [hn]; rfl
    have e1 : intBinR .shl .u64 x (intBinR .mul .i64 32 0) = x := by
      show IntKind.u64.wrap (x * 2 ^ min (IntKind.i64.wrap (32 * 0)).toNat IntKind.u64.bits) = _
      rw [show min (IntKind.i64.wrap (32 * 0)).toNat IntKind.u64.bits = 0 by decide, wu64]
      simp only [Int.pow_zero, Int.mul_one]
      omega
    rw [e1, e0] at ev
    have e2 : intBinR .or .u64 0 x = 0 + 2 ^ 0 * x := by
      have := or64 (l := x) (m := 0) hx.1 hx.2 (by omega) (by omega)
      show IntKind.u64.wrap ((BitVec.ofInt 64 0 ||| BitVec.ofInt 64 x).toNat : Int) = _
      rw [BitVec.or_comm]
      simp only [Int.zero_mul] at this
      rw [this]; omega
    rw [ev, e2, show (Int.toNat 0) = 0 by rfl, List.take_zero]
    simp only [lv, Nat.pow_zero]
    omega
  · have hn0 : 0 ≤ n ∧ n < 4294967296 := by
      have := lv_take_lt ha 1 (by omega)
      rw [show (1 : Int).toNat = 1 by rfl] at hn
      omega
    have e1 : intBinR .shl .u64 x (intBinR .mul .i64 32 1) = x * 4294967296 := by
      show IntKind.u64.wrap (x * 2 ^ min (IntKind.i64.wrap (32 * 1)).toNat IntKind.u64.bits) = _
      rw [show min (IntKind.i64.wrap (32 * 1)).toNat IntKind.u64.bits = 32 by decide, wu64]
      have : (2 : Int) ^ 32 = 4294967296 := by decide
      rw [this]; omega
    rw [e1] at ev
    have e2 : intBinR .or .u64 n (x * 4294967296) = n + x * 4294967296 := or64 hn0.1 hn0.2 hx.1 hx.2
    rw [ev, e2, show (Int.toNat 1) = 1 by rfl]
    rw [show (1 : Int).toNat = 1 by rfl] at hn
    rw [hn]
    omega

def wordS (E : Env) (a : List Int) : Int × Int → St := fun p => ⟨[(3, .int .u64 (.s p.2)), (6, .sli .u32 a), (7, .int .i64 (.s (E.len a))), (8, .int .i64 (.s p.1))], []⟩
theorem c_word (a : List Int) (ha : Lb a) (hl : a.length ≤ 2) : ∃ t : Int, t = lv a ∧ CallsA Try.prog 59 [.sli .u32 a] (.int .u64 (.s t)) := by
  refine ⟨_, rfl, ?_⟩
  generalize hr : (lv a : Int) = r
  obtain ⟨m, em⟩ : ∃ m : Int × Int → Nat, ∀ p, m p = (a.length - p.1).toNat := ⟨_, fun _ => rfl⟩
  obtain ⟨ok, eok⟩ : ∃ ok : Int × Int → Prop, ∀ p, ok p ↔ 0 ≤ p.1 ∧ p.1 ≤ a.length ∧ p.2 = lv (a.take p.1.toNat) := ⟨_, fun _ => Iff.rfl⟩
  refine callsA_of hG hm Try.func59 (by kernel_rfl) ?_
  intro E hE lp hl'
  cbv
  repeat' (first
    | (refine E_br hE (fun h => ?_) (fun h => ?_) <;> cbv)
    | (refine E_nm hE (fun v hv => ?_); cbv)
    | (refine E_nilS hE (fun b hb => ?_); cbv)
    | fail)
  refine E_loop hE hG hm hl' (wordS E a) m ok ⟨(0, 0), (eok _).2 ⟨by show (0 : Int) ≤ 0; omega, by show (0 : Int) ≤ a.length; omega, rfl⟩, stLe rfl ?_⟩ ?_
  · (repeat' (first | exact t_nil | apply t_cons | exact u2_sli | exact u2_int | exact u2_bool | exact u2_ms | exact u2_ptr | exact (rfl : sle2 .s0 .s0)))
  rintro ⟨i, n⟩ hok
  have h1 : 0 ≤ i := ((eok _).1 hok).1
  have h2 : i ≤ a.length := ((eok _).1 hok).2.1
  have hn : n = lv (a.take i.toNat) := ((eok _).1 hok).2.2
  have fin : ¬ i < a.length → n = r := by
    intro h
    rw [hn, show i.toNat = a.length by omega, List.take_length]; exact hr
  clear hok
  cbv
  repeat' (first
    | (refine E_br hE (fun h => ?_) (fun h => ?_) <;> cbv)
    | (refine E_nm hE (fun v hv => ?_); cbv)
    | (refine E_nilS hE (fun b hb => ?_); cbv)
    | fail)
  all_goals (try refine ⟨(E.bin .add .i64 i 1, v), ?_, ?_, stLe rfl ?_⟩)
  all_goals (try ((repeat' (first | exact t_nil | apply t_cons | exact u2_sli | exact u2_int | exact u2_bool | exact u2_ms | exact u2_ptr | exact (rfl : sle2 .s0 .s0))); done))
  all_goals (subst hE)
  all_goals (try (first
    | (rw [em, em]; exact (word_next ha hl h1 (lss_t ‹_›) hn ‹_ = i› ‹_› ‹_› rfl).2.2.1)
    | (rw [eok]; have q := word_next ha hl h1 (lss_t ‹_›) hn ‹_ = i› ‹_› ‹_› rfl; exact ⟨q.1, q.2.1, q.2.2.2⟩)
    | exact fin (lss_f ‹_›)
    | exact ‹_ = n›.trans (fin (lss_f ‹_›))))
  all_goals (clear fin eok em hn; simp only [NatCast.natCast, Int.ofNat_eq_natCast, realE, cmp_eql, cmp_neq, cmp_lss, cmp_leq, cmp_gtr, cmp_geq, intBinR, decide_eq_true_eq, decide_eq_false_iff_not, SI.val, SB.val, Num.eta, Iv.eta] at *; (try simp only [wi64] at *); omega)

theorem c_limbs (m : Int) (h0 : 0 ≤ m) (h1 : m < 18446744073709551616) : ∃ t : List Int, t = [m % 4294967296, m / 4294967296] ∧ CallsA Try.prog 58 [.int .u64 (.s m)] (.sli .u32 t) := by
  refine ⟨_, rfl, ?_⟩
  generalize hr : [m % 4294967296, m / 4294967296] = r
  refine callsA_of hG hm Try.func58 (by kernel_rfl) ?_
  intro E hE lp hl'
  cbv
  repeat' (first
    | (refine E_br hE (fun h => ?_) (fun h => ?_) <;> cbv)
    | (refine E_nm hE (fun v hv => ?_); cbv)
    | (refine E_nilS hE (fun b hb => ?_); cbv)
    | fail)
  rw [← hr]
  subst hE
  have e1 : intBinR .shr .u64 m 32 = m / 4294967296 := shr32 m
  show [IntKind.u32.wrap m, IntKind.u32.wrap (intBinR .shr .u64 m 32)] = _
  rw [e1, wu32, wu32, Int.emod_eq_of_lt (a := m / 4294967296) (by omega) (by omega)]

theorem limbs_lb {m : Int} (h0 : 0 ≤ m) (h1 : m < 18446744073709551616) : Lb [m % 4294967296, m / 4294967296] :=
  Lb.cons (by omega) (by omega) (Lb.cons (by omega) (by omega) Lb.nil)
theorem limbs_lv {m : Int} (h0 : 0 ≤ m) : lv [m % 4294967296, m / 4294967296] = m.toNat := by
  simp only [lv]; omega

/-- the root of a finite number -/
def Num.rootF (a : Num) (up : Bool) : Num :=
  if a.e % 2 = 0 then Num.grow false (nsqrt (a.m.toNat * 2 ^ 64)) ((a.e - 64) / 2) (!decide (nsqrt (a.m.toNat * 2 ^ 64) * nsqrt (a.m.toNat * 2 ^ 64) = a.m.toNat * 2 ^ 64)) up
  else Num.grow false (nsqrt (a.m.toNat * 2 ^ 63)) ((a.e - 63) / 2) (!decide (nsqrt (a.m.toNat * 2 ^ 63) * nsqrt (a.m.toNat * 2 ^ 63) = a.m.toNat * 2 ^ 63)) up
def Num.root (a : Num) (up : Bool) : Num × Bool :=
  if a.fair.kind ≠ 0 ∧ a.fair.neg = true then (Num.zero, false) else if a.fair.kind ≠ 1 then (a.fair, true) else (Num.rootF a.fair up, true)

theorem root_sh {m n : Int} {l s : List Int} (h0 : 0 ≤ m) (h1 : m < 18446744073709551616) (hl : l = [m % 4294967296, m / 4294967296]) (hn : n = 64 ∨ n = 63)
    (hs : s = if n < 1 then lim (lv l) else if 16777216 < n then [] else lim (lv l * 2 ^ n.toNat)) : Lb s ∧ s.length < 524288 ∧ lv s = m.toNat * 2 ^ n.toNat ∧ Lb (lim (nsqrt (lv s))) ∧ (lim (nsqrt (lv s))).length ≤ 2 := by
  have lvl : lv l = m.toNat := by rw [hl]; exact limbs_lv h0
  rw [if_neg (by omega), if_neg (by omega), lvl] at hs
  have hm : m.toNat < 18446744073709551616 := by omega
  have hp : 2 ^ n.toNat ≤ 18446744073709551616 := by rcases hn with rfl | rfl <;> decide
  have hlt : m.toNat * 2 ^ n.toNat < 4294967296 ^ 4 := by
    have h2 : m.toNat * 2 ^ n.toNat ≤ m.toNat * 18446744073709551616 := Nat.mul_le_mul_left _ hp
    have h3 : (4294967296 : Nat) ^ 4 = 18446744073709551616 * 18446744073709551616 := by decide
    omega
  have hls := lim_length_le hlt
  have lvs : lv s = m.toNat * 2 ^ n.toNat := by rw [hs, lv_lim]
  refine ⟨by rw [hs]; exact lim_lb _, by rw [hs]; omega, lvs, lim_lb _, ?_⟩
  apply lim_length_le
  rw [lvs]
  have q := (nsqrt_spec (m.toNat * 2 ^ n.toNat)).1
  apply sq_lt
  have h3 : (4294967296 : Nat) ^ 4 = 4294967296 ^ 2 * 4294967296 ^ 2 := by decide
  omega
theorem parity (e : Int) : (intBinR .and .i64 e 1 = 0) ↔ e % 2 = 0 := by
  have h : intBinR .and .i64 e 1 = e % 2 := by
    show IntKind.i64.wrap ((BitVec.ofInt 64 e &&& BitVec.ofInt 64 1).toNat : Int) = _
    have h1 : (BitVec.ofInt 64 e &&& BitVec.ofInt 64 1).toNat = (BitVec.ofInt 64 e).toNat % 2 := by
      rw [BitVec.toNat_and, show (BitVec.ofInt 64 1).toNat = 2 ^ 1 - 1 by decide, Nat.and_two_pow_sub_one_eq_mod]
    rw [h1, wi64, BitVec.toNat_ofInt]
    omega
  rw [h]
theorem half_exact {e n : Int} (h0 : -1048576 ≤ e) (h1 : e ≤ 1048576) (hn : n = 64 ∨ n = 63) (hp : (e - n) % 2 = 0) : intBinR .quo .i64 (intBinR .sub .i64 e n) 2 = (e - n) / 2 := by
  have e1 : intBinR .sub .i64 e n = e - n := by show IntKind.i64.wrap (e - n) = _; rw [wi64]; omega
  show IntKind.i64.wrap ((intBinR .sub .i64 e n).tdiv 2) = _
  rw [e1]
  have e2 : (e - n).tdiv 2 = (e - n) / 2 := by
    obtain ⟨k, hk⟩ : ∃ k, e - n = 2 * k := ⟨(e - n) / 2, by omega⟩
    rw [hk, Int.mul_tdiv_cancel_left _ (by decide), Int.mul_ediv_cancel_left _ (by decide)]
  rw [e2, wi64]; omega

set_option maxHeartbeats 2000000 in
theorem c_quRoot (a : Num) (up : Bool) (ha : a.ok) : ∃ t : Num × Bool, t = Num.root a up ∧ CallsA Try.prog 24 [a.av, .bool (.s up)] (.tup [(t.1).av, .bool (.s t.2)]) := by
  refine ⟨_, rfl, ?_⟩
  generalize hr : Num.root a up = r
  refine callsA_of hG hm Try.func24 (by kernel_rfl) ?_
  intro E hE lp hl
  cbv
  (apply E_callX hE (c_quFair ⟨_, _, _, _⟩); (case hf => rfl); (case hc => (cbv <;> trivial)); (case hle => (repeat' (first | exact u_nil | apply u_cons | apply u2_agg | exact u2_int | exact u1_int | exact u2_bool | exact u1_bool))); intro t ht; cbv)
  replace ht : t = a.fair := ht
  have tok : t.ok := by rw [ht]; exact Num.fair_ok ha
  have neq_t : ∀ x y : Int, E.cmp .neq x y = true → x ≠ y := by subst hE; intro x y h; simpa only [realE, cmp_neq, decide_eq_true_eq] using h
  have neq_f : ∀ x y : Int, E.cmp .neq x y = false → x = y := by subst hE; intro x y h; simpa only [realE, cmp_neq, decide_eq_false_iff_not, ne_eq, Decidable.not_not] using h
  repeat' (first
    | (refine E_br hE (fun h => ?_) (fun h => ?_) <;> cbv)
    | (refine E_nm hE (fun v hv => ?_); cbv)
    | (refine E_nilS hE (fun b hb => ?_); cbv)
    | fail)
  · have h1 := neq_t _ _ ‹E.cmp .neq t.kind 0 = true›
    rw [← hr]; unfold Num.root
    rw [← ht, if_pos ⟨h1, h⟩]
    exact ⟨⟨rfl, rfl, rfl, rfl, trivial⟩, rfl, trivial⟩
  · have h1 := neq_t _ _ h
    rw [← hr]; unfold Num.root
    rw [← ht, if_neg (by rintro ⟨-, k⟩; rw [‹t.neg = false›] at k; cases k), if_pos h1]
    exact ⟨⟨rfl, rfl, rfl, rfl, trivial⟩, rfl, trivial⟩
  ·
    (apply E_callX hE (c_limbs t.m tok.1 tok.2); (case hf => rfl); (case hc => (cbv <;> trivial)); (case hle => exact ⟨u2_int, trivial⟩); intro l hl'; cbv)
    have len : l.length = 2 := by rw [hl']; rfl
    (apply E_callX hE (c_natShl l (63) (by rw [hl']; exact limbs_lb tok.1 tok.2) (by omega)); (case hf => rfl); (case hc => (cbv <;> trivial)); (case hle => exact ⟨u2_sli, u2_int, trivial⟩); intro s hs; cbv)
    have hn : (63 : Int) = 64 ∨ (63 : Int) = 63 := by exact .inr rfl
    have f := root_sh tok.1 tok.2 hl' hn hs
    (apply E_callX hE (c_natRoot s f.1 f.2.1); (case hf => rfl); (case hc => (cbv <;> trivial)); (case hle => exact ⟨u2_sli, trivial⟩); intro q hq; cbv)
    have q1 : q.1 = lim (nsqrt (lv s)) := by rw [hq]
    (apply E_pcallX hE (c_word q.1 (by rw [q1]; exact f.2.2.2.1) (by rw [q1]; exact f.2.2.2.2)); (case hm => rfl); (case hle => exact ⟨u2_sli, trivial⟩); intro w hw; cbv)
    (apply E_pcallX hE (c_Grow _ _ _ _ _); (case hm => rfl); (case hle => exact ⟨u2_bool, u2_int, u2_int, u2_bool, u2_bool, trivial⟩); intro g hg; cbv)
    have k1 : t.kind = 1 := neq_f _ _ ‹E.cmp .neq t.kind 1 = false›
    have fe : -1048576 ≤ t.e ∧ t.e ≤ 1048576 := by
      have := Num.fin_of (n := a) (by rw [← ht, k1]; decide) (by rw [← ht, k1]; decide)
      rw [← ht] at this
      exact this.2.2
    have hp : (t.e - 63) % 2 = 0 := by have p := parity t.e; (have : ¬ t.e % 2 = 0 := fun k => by have q := p.2 k; subst hE; exact neq_t _ _ h q); omega
    have e1 : g = Num.rootF t up := by
      have hg' : g = Num.grow false w (intBinR .quo .i64 (intBinR .sub .i64 t.e 63) 2) (!q.2) up := by subst hE; exact hg
      have wv : w = nsqrt (t.m.toNat * 2 ^ 63) := by rw [hw, q1, lv_lim, f.2.2.1]; rfl
      have q2 : q.2 = decide (nsqrt (t.m.toNat * 2 ^ 63) * nsqrt (t.m.toNat * 2 ^ 63) = t.m.toNat * 2 ^ 63) := by
        rw [hq]; show decide _ = _; rw [f.2.2.1]; rfl
      rw [hg', half_exact fe.1 fe.2 hn hp, wv, q2]
      unfold Num.rootF
      rw [if_neg (by omega)]
    rw [← hr]; unfold Num.root
    rw [← ht, if_neg (by rintro ⟨-, k⟩; rw [‹t.neg = false›] at k; cases k), if_neg (by rw [k1]; decide), e1]
    exact ⟨⟨rfl, rfl, rfl, rfl, trivial⟩, rfl, trivial⟩

  ·
    (apply E_callX hE (c_limbs t.m tok.1 tok.2); (case hf => rfl); (case hc => (cbv <;> trivial)); (case hle => exact ⟨u2_int, trivial⟩); intro l hl'; cbv)
    have len : l.length = 2 := by rw [hl']; rfl
    (apply E_callX hE (c_natShl l (64) (by rw [hl']; exact limbs_lb tok.1 tok.2) (by omega)); (case hf => rfl); (case hc => (cbv <;> trivial)); (case hle => exact ⟨u2_sli, u2_int, trivial⟩); intro s hs; cbv)
    have hn : (64 : Int) = 64 ∨ (64 : Int) = 63 := by exact .inl rfl
    have f := root_sh tok.1 tok.2 hl' hn hs
    (apply E_callX hE (c_natRoot s f.1 f.2.1); (case hf => rfl); (case hc => (cbv <;> trivial)); (case hle => exact ⟨u2_sli, trivial⟩); intro q hq; cbv)
    have q1 : q.1 = lim (nsqrt (lv s)) := by rw [hq]
    (apply E_pcallX hE (c_word q.1 (by rw [q1]; exact f.2.2.2.1) (by rw [q1]; exact f.2.2.2.2)); (case hm => rfl); (case hle => exact ⟨u2_sli, trivial⟩); intro w hw; cbv)
    (apply E_pcallX hE (c_Grow _ _ _ _ _); (case hm => rfl); (case hle => exact ⟨u2_bool, u2_int, u2_int, u2_bool, u2_bool, trivial⟩); intro g hg; cbv)
    have k1 : t.kind = 1 := neq_f _ _ ‹E.cmp .neq t.kind 1 = false›
    have fe : -1048576 ≤ t.e ∧ t.e ≤ 1048576 := by
      have := Num.fin_of (n := a) (by rw [← ht, k1]; decide) (by rw [← ht, k1]; decide)
      rw [← ht] at this
      exact this.2.2
    have hp : (t.e - 64) % 2 = 0 := by (have : t.e % 2 = 0 := (parity t.e).1 (by subst hE; exact neq_f _ _ h)); omega
    have e1 : g = Num.rootF t up := by
      have hg' : g = Num.grow false w (intBinR .quo .i64 (intBinR .sub .i64 t.e 64) 2) (!q.2) up := by subst hE; exact hg
      have wv : w = nsqrt (t.m.toNat * 2 ^ 64) := by rw [hw, q1, lv_lim, f.2.2.1]; rfl
      have q2 : q.2 = decide (nsqrt (t.m.toNat * 2 ^ 64) * nsqrt (t.m.toNat * 2 ^ 64) = t.m.toNat * 2 ^ 64) := by
        rw [hq]; show decide _ = _; rw [f.2.2.1]; rfl
      rw [hg', half_exact fe.1 fe.2 hn hp, wv, q2]
      unfold Num.rootF
      rw [if_pos (by omega)]
    rw [← hr]; unfold Num.root
    rw [← ht, if_neg (by rintro ⟨-, k⟩; rw [‹t.neg = false›] at k; cases k), if_neg (by rw [k1]; decide), e1]
    exact ⟨⟨rfl, rfl, rfl, rfl, trivial⟩, rfl, trivial⟩

  · have k0 := neq_f _ _ ‹E.cmp .neq t.kind 0 = false›
    rw [← hr]; unfold Num.root
    rw [← ht, if_neg (by rintro ⟨k, -⟩; exact k k0), if_pos (by rw [k0]; decide)]
    exact ⟨⟨rfl, rfl, rfl, rfl, trivial⟩, rfl, trivial⟩
  all_goals (exfalso; have k0 := neq_f _ _ ‹E.cmp .neq t.kind 0 = false›; have k1 := neq_f _ _ ‹E.cmp .neq t.kind 1 = false›; omega)

end Go.Proofs.Ytaiillbjhdoikaa.Ev

/- Contracts: whole numbers of 64 bits, of what sign; ten, so many times. Printed by gen.py. -/
namespace Go.Proofs.Ytaiillbjhdoikaa.Ev
open Go Go.Proofs
set_option linter.unusedVariables false
set_option linter.unusedSimpArgs false

attribute [local irreducible] Lb
theorem c_wFrom (n : Int) (h1 : -9223372036854775808 ≤ n) (h2 : n < 9223372036854775808) : ∃ t : Bool × List Int, t = (decide (n < 0), lim n.natAbs) ∧ CallsA Try.prog 15 [.int .i64 (.s n)] (.agg [.bool (.s t.1), .sli .u32 t.2]) := by
  refine ⟨_, rfl, ?_⟩
  generalize hr : ((decide (n < 0), lim n.natAbs) : Bool × List Int) = r
  have lb := limbs_lb (m := (n.natAbs : Int)) (by omega) (by omega)
  obtain ⟨m, em⟩ : ∃ m, m = [(n.natAbs : Int) % 4294967296, (n.natAbs : Int) / 4294967296] := ⟨_, rfl⟩
  rw [← em] at lb
  have ll : m.length ≤ 268435456 := by rw [em]; show (2 : Nat) ≤ _; decide
  have fin : ∀ (c : Bool) (l : List Int) (t : Bool × List Int), c = decide (n < 0) → l = m → t = (c && decide (lv l ≠ 0), lim (lv l)) → t = r := by
    intro c l t hc hl ht
    rw [ht, hl, em, limbs_lv (by omega), ← hr, hc, show ((n.natAbs : Nat) : Int).toNat = n.natAbs from rfl]
    by_cases h : n < 0
    · rw [decide_eq_true (p := n.natAbs ≠ 0) (by omega), Bool.and_true]
    · rw [decide_eq_false h, Bool.false_and]
  have wn : ∀ x : Int, x = (n.natAbs : Int) → [IntKind.u32.wrap x, IntKind.u32.wrap (intBinR .shr .u64 x 32)] = m := by
    intro x hx
    have e1 : intBinR .shr .u64 x 32 = x / 4294967296 := shr32 x
    rw [em, e1, hx, wu32, wu32, Int.emod_eq_of_lt (a := (n.natAbs : Int) / 4294967296) (by omega) (by omega)]
  clear hr em
  refine callsA_of hG hm Try.func15 (by kernel_rfl) ?_
  intro E hE lp hl'
  cbv
  refine E_nm hE (fun u hu => ?_); cbv
  refine E_br hE (fun g => ?_) (fun g => ?_) <;> cbv
  · have hn : n < 0 := by subst hE; exact lss_t g
    refine E_nm hE (fun v hv => ?_); cbv
    have k : E.sub [E.conv .u32 v, E.conv .u32 (E.bin .shr .u64 v 32)] 0 2 = m := by
      subst hE
      exact wn v (by have a : u = IntKind.u64.wrap n := hu; have b : v = IntKind.u64.wrap (0 - u) := hv; have c : (n.natAbs : Int) = -n := Int.ofNat_natAbs_of_nonpos (by omega); simp only [wu64] at a b; exact (show v = -n by omega).trans c.symm)
    (first | (apply E_pcallX hE (c_wMake _ _ ?_ ?_); (case hm => rfl); (case hle => (repeat' (first | exact u_nil | apply u_cons | apply u2_agg | exact u2_int | exact u1_int | exact u2_bool | exact u1_bool | exact u2_sli | exact u1_sli | exact u2_s0 | exact u1_s0))); all_goals (first | (intro t ht; cbv) | (first | exact k ▸ lb | exact k ▸ ll))) | (apply E_callX hE (c_wMake _ _ ?_ ?_); (case hf => rfl); (case hc => (cbv <;> trivial)); (case hle => (repeat' (first | exact u_nil | apply u_cons | apply u2_agg | exact u2_int | exact u1_int | exact u2_bool | exact u1_bool | exact u2_sli | exact u1_sli | exact u2_s0 | exact u1_s0))); all_goals (first | (intro t ht; cbv) | (first | exact k ▸ lb | exact k ▸ ll))))
    rw [← fin _ _ t (by subst hE; rfl) k ht]; exact ⟨rfl, rfl, trivial⟩
  · have hn : ¬ n < 0 := by subst hE; exact lss_f g
    have k : E.sub [E.conv .u32 u, E.conv .u32 (E.bin .shr .u64 u 32)] 0 2 = m := by
      subst hE
      exact wn u (by have a : u = IntKind.u64.wrap n := hu; have c : (n.natAbs : Int) = n := Int.natAbs_of_nonneg (by omega); simp only [wu64] at a; exact (show u = n by omega).trans c.symm)
    (first | (apply E_pcallX hE (c_wMake _ _ ?_ ?_); (case hm => rfl); (case hle => (repeat' (first | exact u_nil | apply u_cons | apply u2_agg | exact u2_int | exact u1_int | exact u2_bool | exact u1_bool | exact u2_sli | exact u1_sli | exact u2_s0 | exact u1_s0))); all_goals (first | (intro t ht; cbv) | (first | exact k ▸ lb | exact k ▸ ll))) | (apply E_callX hE (c_wMake _ _ ?_ ?_); (case hf => rfl); (case hc => (cbv <;> trivial)); (case hle => (repeat' (first | exact u_nil | apply u_cons | apply u2_agg | exact u2_int | exact u1_int | exact u2_bool | exact u1_bool | exact u2_sli | exact u1_sli | exact u2_s0 | exact u1_s0))); all_goals (first | (intro t ht; cbv) | (first | exact k ▸ lb | exact k ▸ ll))))
    rw [← fin _ _ t (by subst hE; rfl) k ht]; exact ⟨rfl, rfl, trivial⟩

theorem c_wSign (na : Bool) (a : List Int) (ha : Lb a) (hla : a.length < 67108864) : ∃ t : Int, t = (if lv a = 0 then 0 else if na then -1 else 1) ∧ CallsA Try.prog 16 [.agg [.bool (.s na), .sli .u32 a]] (.int .i64 (.s t)) := by
  refine ⟨_, rfl, ?_⟩
  generalize hr : (if lv a = 0 then 0 else if na then -1 else 1 : Int) = r
  have z : lv a = 0 → 0 = r := fun h => by rw [← hr, if_pos h]
  have o : lv a ≠ 0 → na = true → -1 = r := fun h k => by rw [← hr, if_neg h, if_pos k]
  have p : lv a ≠ 0 → na = false → 1 = r := fun h k => by rw [← hr, if_neg h, k]; rfl
  have bz : blen (lv a : Int) = 0 ↔ lv a = 0 := by
    constructor
    · intro h
      rcases Nat.eq_zero_or_pos (lv a) with k | k
      · exact k
      · obtain ⟨n, hn, _⟩ := blen_pos (x := (lv a : Int)) (by omega); omega
    · intro h; rw [h]; rfl
  clear hr
  refine callsA_of hG hm Try.func16 (by kernel_rfl) ?_
  intro E hE lp hl'
  cbv
  (first | (apply E_pcallX hE (c_natLen a ha hla); (case hm => rfl); (case hle => (repeat' (first | exact u_nil | apply u_cons | apply u2_agg | exact u2_int | exact u1_int | exact u2_bool | exact u1_bool | exact u2_sli | exact u1_sli | exact u2_s0 | exact u1_s0))); all_goals (first | (intro t ht; cbv) | (assumption))) | (apply E_callX hE (c_natLen a ha hla); (case hf => rfl); (case hc => (cbv <;> trivial)); (case hle => (repeat' (first | exact u_nil | apply u_cons | apply u2_agg | exact u2_int | exact u1_int | exact u2_bool | exact u1_bool | exact u2_sli | exact u1_sli | exact u2_s0 | exact u1_s0))); all_goals (first | (intro t ht; cbv) | (assumption))))
  have ht : t = blen (lv a : Int) := ht
  refine E_br hE (fun g => ?_) (fun g => ?_) <;> cbv
  · rw [← z (bz.1 (ht ▸ (by subst hE; exact eql_t g)))]
  have nz : lv a ≠ 0 := fun h => (show ¬ t = 0 by subst hE; exact eql_f g) (ht.trans (bz.2 h))
  refine E_br hE (fun g => ?_) (fun g => ?_) <;> cbv
  · rw [← o nz g]
  · rw [← p nz g]

end Go.Proofs.Ytaiillbjhdoikaa.Ev

/- Laws: a natural number as 64 bits of which the highest is 1, and an exponent; the ratio of two natural numbers. -/
namespace Go.Proofs.Ytaiillbjhdoikaa.Ev
open Go Go.Proofs
set_option linter.unusedVariables false
set_option linter.unusedSimpArgs false
attribute [local irreducible] Lb
theorem wi64_in {n : Int} (h0 : -9223372036854775808 ≤ n) (h1 : n < 9223372036854775808) : IntKind.i64.wrap n = n := by rw [wi64]; omega
/-- a natural number as 64 bits of which the highest is 1, and an exponent; was something cut off? -/
def natu (n : Nat) : Nat × Int × Bool :=
  if blen (n : Int) ≤ 64 then (n * 2 ^ (64 - blen (n : Int)).toNat, blen (n : Int) - 64, false)
  else (n / 2 ^ (blen (n : Int) - 64).toNat, blen (n : Int) - 64, decide (n / 2 ^ (blen (n : Int) - 64).toNat * 2 ^ (blen (n : Int) - 64).toNat ≠ n))
theorem blen_lt {n : Nat} : n < 2 ^ (blen (n : Int)).toNat := by
  rcases Nat.eq_zero_or_pos n with h | h
  · rw [h]; decide
  · obtain ⟨k, hk, _, h2⟩ := blen_rng h
    rw [hk, show ((k : Int) + 1).toNat = k + 1 by omega]; exact h2
theorem blen_le_len {m : List Int} (h : Lb m) : blen (lv m : Int) ≤ 32 * m.length := by
  have := blen_le (x := (lv m : Int)) (32 * m.length) (by
    have h1 := lv_lt h
    rw [show (4294967296 : Nat) = 2 ^ 32 by rfl, ← Nat.pow_mul] at h1
    exact_mod_cast h1)
  omega
theorem two64 {n : Nat} (h : n < 2 ^ 64) : (lim n).length ≤ 2 := lim_length_le (by rw [show (4294967296 : Nat) ^ 2 = 2 ^ 64 by decide +kernel]; exact h)
theorem natu_lo {n : Nat} (h : blen (n : Int) ≤ 64) : n * 2 ^ (64 - blen (n : Int)).toNat < 2 ^ 64 := by
  have b0 := blen_nonneg (n : Int)
  have h1 := blen_lt (n := n)
  calc n * 2 ^ (64 - blen (n : Int)).toNat < 2 ^ (blen (n : Int)).toNat * 2 ^ (64 - blen (n : Int)).toNat := Nat.mul_lt_mul_of_pos_right h1 (Nat.two_pow_pos _)
    _ = 2 ^ 64 := by rw [← Nat.pow_add]; congr 1; omega
theorem natu_hi {n : Nat} (h : 64 < blen (n : Int)) : n / 2 ^ (blen (n : Int) - 64).toNat < 2 ^ 64 := by
  have h1 := blen_lt (n := n)
  refine Nat.div_lt_of_lt_mul ?_
  rw [← Nat.pow_add, show (blen (n : Int) - 64).toNat + 64 = (blen (n : Int)).toNat by omega]; exact h1
theorem natu_e {n : Nat} (h : (lim n).length ≤ 200004) : -64 ≤ (natu n).2.1 ∧ (natu n).2.1 ≤ 6400128 := by
  have b0 := blen_nonneg (n : Int)
  have b1 := blen_le_len (lim_lb n)
  rw [lv_lim] at b1
  unfold natu
  split <;> constructor <;> dsimp only <;> omega
/-- the ratio of two natural numbers, of these signs -/
def ratioN (na : Bool) (a : Nat) (nb : Bool) (b : Nat) (up : Bool) : Num :=
  if b = 0 then Num.inf (!up) else if a = 0 then Num.zero else
    Num.grow (na != nb) ((natu (a * 2 ^ (max 0 (65 + blen (b : Int) - blen (a : Int))).toNat / b)).1 : Int) ((natu (a * 2 ^ (max 0 (65 + blen (b : Int) - blen (a : Int))).toNat / b)).2.1 - max 0 (65 + blen (b : Int) - blen (a : Int)))
      ((natu (a * 2 ^ (max 0 (65 + blen (b : Int) - blen (a : Int))).toNat / b)).2.2 || decide (a * 2 ^ (max 0 (65 + blen (b : Int) - blen (a : Int))).toNat % b ≠ 0)) (up != (na != nb))
end Go.Proofs.Ytaiillbjhdoikaa.Ev

/- Contracts: the ratio of whole numbers. Printed by gen.py. -/
namespace Go.Proofs.Ytaiillbjhdoikaa.Ev
open Go Go.Proofs
set_option linter.unusedVariables false
set_option linter.unusedSimpArgs false

attribute [local irreducible] Lb
theorem c_natural (m : List Int) (hm_ : Lb m) (hl : m.length ≤ 524288) : ∃ t : Nat × Int × Bool, t = natu (lv m) ∧ CallsA Try.prog 67 [.sli .u32 m] (.tup [.int .u64 (.s (t.1 : Int)), .int .i64 (.s t.2.1), .bool (.s t.2.2)]) := by
  refine ⟨_, rfl, ?_⟩
  generalize hr : natu (lv m) = r
  obtain ⟨L, eL⟩ : ∃ L : Int, L = blen (lv m : Int) := ⟨_, rfl⟩
  have bL : L ≤ 16777216 := by have := blen_le_len hm_; omega
  have b0 : 0 ≤ L := by rw [eL]; exact blen_nonneg _
  have lo : L ≤ 64 → r = (lv m * 2 ^ (64 - L).toNat, L - 64, false) := fun h => by rw [← hr, eL]; unfold natu; rw [if_pos (eL ▸ h)]
  have hi : 64 < L → r = (lv m / 2 ^ (L - 64).toNat, L - 64, decide (lv m / 2 ^ (L - 64).toNat * 2 ^ (L - 64).toNat ≠ lv m)) := fun h => by rw [← hr, eL]; unfold natu; rw [if_neg (by omega)]
  have l64 : L ≤ 64 → lv m * 2 ^ (64 - L).toNat < 2 ^ 64 := fun h => by rw [eL]; exact natu_lo (eL ▸ h)
  have h64 : 64 < L → lv m / 2 ^ (L - 64).toNat < 2 ^ 64 := fun h => by rw [eL]; exact natu_hi (eL ▸ h)
  have ml : m.length < 67108864 := by omega
  clear hr
  refine callsA_of hG hm Try.func67 (by kernel_rfl) ?_
  intro E hE lp hl'
  cbv
  (first | (apply E_pcallX hE (c_natLen m hm_ ml); (case hm => rfl); (case hle => (repeat' (first | exact u_nil | apply u_cons | apply u2_agg | exact u2_int | exact u1_int | exact u2_bool | exact u1_bool | exact u2_sli | exact u1_sli | exact u2_s0 | exact u1_s0))); all_goals (first | (intro t ht; cbv) | (assumption))) | (apply E_callX hE (c_natLen m hm_ ml); (case hf => rfl); (case hc => (cbv <;> trivial)); (case hle => (repeat' (first | exact u_nil | apply u_cons | apply u2_agg | exact u2_int | exact u1_int | exact u2_bool | exact u1_bool | exact u2_sli | exact u1_sli | exact u2_s0 | exact u1_s0))); all_goals (first | (intro t ht; cbv) | (assumption))))
  have et : t = L := Eq.trans ht eL.symm
  clear ht eL
  have eb : E.bin .sub .i64 t 64 = L - 64 := by subst hE; show IntKind.i64.wrap (t - 64) = _; rw [et, wi64_in (by omega) (by omega)]
  refine E_nm hE (fun y hy' => ?_); cbv
  have hy : y = L - 64 := hy'.trans eb
  clear eb hy' et
  refine E_br hE (fun g => ?_) (fun g => ?_) <;> cbv
  · have g : y ≤ 0 := by subst hE; exact leq_t g
    have en : E.bin .sub .i64 0 y = 64 - L := by subst hE; show IntKind.i64.wrap (0 - y) = _; rw [wi64_in (by omega) (by omega)]; omega
    have l64 := l64 (by omega)
    have sh : (if 64 - L < 1 then lim (lv m) else if 16777216 < 64 - L then [] else lim (lv m * 2 ^ (64 - L).toNat)) = lim (lv m * 2 ^ (64 - L).toNat) := by
      split
      · rw [show (64 - L).toNat = 0 by omega, Nat.pow_zero, Nat.mul_one]
      · rw [if_neg (by omega)]
    have R := lo (by omega)
    (first | (apply E_pcallX hE (c_natShl m _ hm_ ml); (case hm => rfl); (case hle => (repeat' (first | exact u_nil | apply u_cons | apply u2_agg | exact u2_int | exact u1_int | exact u2_bool | exact u1_bool | exact u2_sli | exact u1_sli | exact u2_s0 | exact u1_s0))); all_goals (first | (intro u hu; cbv) | (assumption))) | (apply E_callX hE (c_natShl m _ hm_ ml); (case hf => rfl); (case hc => (cbv <;> trivial)); (case hle => (repeat' (first | exact u_nil | apply u_cons | apply u2_agg | exact u2_int | exact u1_int | exact u2_bool | exact u1_bool | exact u2_sli | exact u1_sli | exact u2_s0 | exact u1_s0))); all_goals (first | (intro u hu; cbv) | (assumption))))
    have hu : u = lim (lv m * 2 ^ (64 - L).toNat) := by
      have k : u = (if E.bin .sub .i64 0 y < 1 then lim (lv m) else if 16777216 < E.bin .sub .i64 0 y then [] else lim (lv m * 2 ^ (E.bin .sub .i64 0 y).toNat)) := hu
      rw [en] at k
      exact k.trans sh
    have ul : Lb u := by rw [hu]; exact lim_lb _
    have u2 : u.length ≤ 2 := by rw [hu]; exact two64 l64
    (first | (apply E_pcallX hE (c_word u ul u2); (case hm => rfl); (case hle => (repeat' (first | exact u_nil | apply u_cons | apply u2_agg | exact u2_int | exact u1_int | exact u2_bool | exact u1_bool | exact u2_sli | exact u1_sli | exact u2_s0 | exact u1_s0))); all_goals (first | (intro v hv; cbv) | (assumption))) | (apply E_callX hE (c_word u ul u2); (case hf => rfl); (case hc => (cbv <;> trivial)); (case hle => (repeat' (first | exact u_nil | apply u_cons | apply u2_agg | exact u2_int | exact u1_int | exact u2_bool | exact u1_bool | exact u2_sli | exact u1_sli | exact u2_s0 | exact u1_s0))); all_goals (first | (intro v hv; cbv) | (assumption))))
    have hv : v = ((lv m * 2 ^ (64 - L).toNat : Nat) : Int) := by have k : v = lv u := hv; rw [k, hu, lv_lim]
    refine E_nm hE (fun q1 h1q => ?_); cbv
    refine E_nm hE (fun q2 h2q => ?_); cbv
    rw [R]
    exact ⟨h1q.trans hv, h2q.trans hy, rfl, trivial⟩
  · have g : ¬ y ≤ 0 := by subst hE; exact leq_f g
    have R := hi (by omega)
    have h64 := h64 (by omega)
    rw [← hy] at R h64
    have yb : y ≤ 16777216 := by omega
    have y1 : ¬ y < 1 := by omega
    (first | (apply E_pcallX hE (c_natShr m y hm_ ml); (case hm => rfl); (case hle => (repeat' (first | exact u_nil | apply u_cons | apply u2_agg | exact u2_int | exact u1_int | exact u2_bool | exact u1_bool | exact u2_sli | exact u1_sli | exact u2_s0 | exact u1_s0))); all_goals (first | (intro u hu; cbv) | (assumption))) | (apply E_callX hE (c_natShr m y hm_ ml); (case hf => rfl); (case hc => (cbv <;> trivial)); (case hle => (repeat' (first | exact u_nil | apply u_cons | apply u2_agg | exact u2_int | exact u1_int | exact u2_bool | exact u1_bool | exact u2_sli | exact u1_sli | exact u2_s0 | exact u1_s0))); all_goals (first | (intro u hu; cbv) | (assumption))))
    have hu : u = lim (lv m / 2 ^ y.toNat) := hu
    have u2 : u.length ≤ 2 := by rw [hu]; exact two64 h64
    have ul : Lb u := by rw [hu]; exact lim_lb _
    have uv : lv u = lv m / 2 ^ y.toNat := by rw [hu, lv_lim]
    have uk : u.length < 67108864 := by omega
    (first | (apply E_pcallX hE (c_word u ul u2); (case hm => rfl); (case hle => (repeat' (first | exact u_nil | apply u_cons | apply u2_agg | exact u2_int | exact u1_int | exact u2_bool | exact u1_bool | exact u2_sli | exact u1_sli | exact u2_s0 | exact u1_s0))); all_goals (first | (intro v hv; cbv) | (assumption))) | (apply E_callX hE (c_word u ul u2); (case hf => rfl); (case hc => (cbv <;> trivial)); (case hle => (repeat' (first | exact u_nil | apply u_cons | apply u2_agg | exact u2_int | exact u1_int | exact u2_bool | exact u1_bool | exact u2_sli | exact u1_sli | exact u2_s0 | exact u1_s0))); all_goals (first | (intro v hv; cbv) | (assumption))))
    have hv : v = ((lv m / 2 ^ y.toNat : Nat) : Int) := by have k : v = lv u := hv; rw [k, uv]
    (first | (apply E_pcallX hE (c_natShl u y ul uk); (case hm => rfl); (case hle => (repeat' (first | exact u_nil | apply u_cons | apply u2_agg | exact u2_int | exact u1_int | exact u2_bool | exact u1_bool | exact u2_sli | exact u1_sli | exact u2_s0 | exact u1_s0))); all_goals (first | (intro s hs; cbv) | (assumption))) | (apply E_callX hE (c_natShl u y ul uk); (case hf => rfl); (case hc => (cbv <;> trivial)); (case hle => (repeat' (first | exact u_nil | apply u_cons | apply u2_agg | exact u2_int | exact u1_int | exact u2_bool | exact u1_bool | exact u2_sli | exact u1_sli | exact u2_s0 | exact u1_s0))); all_goals (first | (intro s hs; cbv) | (assumption))))
    have hs : s = lim (lv m / 2 ^ y.toNat * 2 ^ y.toNat) := by
      have k : s = (if y < 1 then lim (lv u) else if 16777216 < y then [] else lim (lv u * 2 ^ y.toNat)) := hs
      rw [k, if_neg y1, if_neg (by omega), uv]
    have sl : s.length ≤ 268435456 := by
      have := lim_mono (Nat.div_mul_le_self (lv m) (2 ^ y.toNat))
      have := lim_length_le' hm_
      rw [hs]; omega
    have sb : Lb s := by rw [hs]; exact lim_lb _
    have ml2 : m.length ≤ 268435456 := by omega
    (first | (apply E_pcallX hE (c_natCmp s m sb hm_ sl ml2); (case hm => rfl); (case hle => (repeat' (first | exact u_nil | apply u_cons | apply u2_agg | exact u2_int | exact u1_int | exact u2_bool | exact u1_bool | exact u2_sli | exact u1_sli | exact u2_s0 | exact u1_s0))); all_goals (first | (intro c hc; cbv) | (assumption))) | (apply E_callX hE (c_natCmp s m sb hm_ sl ml2); (case hf => rfl); (case hc => (cbv <;> trivial)); (case hle => (repeat' (first | exact u_nil | apply u_cons | apply u2_agg | exact u2_int | exact u1_int | exact u2_bool | exact u1_bool | exact u2_sli | exact u1_sli | exact u2_s0 | exact u1_s0))); all_goals (first | (intro c hc; cbv) | (assumption))))
    refine E_nm hE (fun q1 h1q => ?_); cbv
    refine E_nm hE (fun q2 h2q => ?_); cbv
    rw [R]
    refine ⟨h1q.trans hv, h2q, ?_, trivial⟩
    have hc : c = (if lv s < lv m then -1 else if lv m < lv s then 1 else 0 : Int) := hc
    rw [hs, lv_lim] at hc
    subst hE
    show cmpR .neq c 0 = decide (lv m / 2 ^ y.toNat * 2 ^ y.toNat ≠ lv m)
    rw [cmp_neq]
    apply decide_eq_decide.2
    have := Nat.div_mul_le_self (lv m) (2 ^ y.toNat)
    generalize lv m / 2 ^ y.toNat * 2 ^ y.toNat = q at *
    rw [hc]
    split
    · constructor <;> intro _ <;> omega
    · rw [if_neg (by omega)]; constructor
      · intro h; exact absurd rfl h
      · intro h; omega

theorem c_qRatio (na : Bool) (a : List Int) (nb : Bool) (b : List Int) (up : Bool) (ha : Lb a) (hb : Lb b) (hla : a.length ≤ 100000) (hlb : b.length ≤ 100000) :
    ∃ t : Num, t = ratioN na (lv a) nb (lv b) up ∧ CallsA Try.prog 26 [.agg [.bool (.s na), .sli .u32 a], .agg [.bool (.s nb), .sli .u32 b], .bool (.s up)] t.av := by
  refine ⟨_, rfl, ?_⟩
  generalize hr : ratioN na (lv a) nb (lv b) up = r
  obtain ⟨LA, eA⟩ : ∃ L : Int, L = blen (lv a : Int) := ⟨_, rfl⟩
  obtain ⟨LB, eB⟩ : ∃ L : Int, L = blen (lv b : Int) := ⟨_, rfl⟩
  have ba : LA ≤ 3200000 := by have := blen_le_len ha; omega
  have bb : LB ≤ 3200000 := by have := blen_le_len hb; omega
  have ba0 : 0 ≤ LA := by rw [eA]; exact blen_nonneg _
  have bb0 : 0 ≤ LB := by rw [eB]; exact blen_nonneg _
  have la1 : a.length < 67108864 := by omega
  have lb1 : b.length < 67108864 := by omega
  have lb2 : b.length < 33554432 := by omega
  have fb : lv b = 0 → r = Num.inf (!up) := fun h => by rw [← hr]; unfold ratioN; rw [if_pos h]
  have fa : lv b ≠ 0 → lv a = 0 → Num.zero = r := fun h k => by rw [← hr]; unfold ratioN; rw [if_neg h, if_pos k]
  have fin0 : lv b ≠ 0 → lv a ≠ 0 → ∀ B : Int, B = max 0 (65 + LB - LA) → r = Num.grow (na != nb) ((natu (lv a * 2 ^ B.toNat / lv b)).1 : Int) ((natu (lv a * 2 ^ B.toNat / lv b)).2.1 - B) ((natu (lv a * 2 ^ B.toNat / lv b)).2.2 || decide (lv a * 2 ^ B.toNat % lv b ≠ 0)) (up != (na != nb)) :=
    fun h k B hB => by rw [← hr, hB, eA, eB]; unfold ratioN; rw [if_neg h, if_neg k]
  clear hr
  refine callsA_of hG hm Try.func26 (by kernel_rfl) ?_
  intro E hE lp hl'
  have ex : ∀ x y : Int, 0 ≤ x → x ≤ 3200000 → 0 ≤ y → y ≤ 3200000 → E.bin .sub .i64 (E.bin .add .i64 65 x) y = 65 + x - y := by
    intro x y h1 h2 h3 h4
    subst hE
    show IntKind.i64.wrap (IntKind.i64.wrap (65 + x) - y) = _
    rw [wi64_in (n := 65 + x) (by omega) (by omega), wi64_in (by omega) (by omega)]
  cbv
  (first | (apply E_pcallX hE (c_wSign nb b hb lb1); (case hm => rfl); (case hle => (repeat' (first | exact u_nil | apply u_cons | apply u2_agg | exact u2_int | exact u1_int | exact u2_bool | exact u1_bool | exact u2_sli | exact u1_sli | exact u2_s0 | exact u1_s0))); all_goals (first | (intro s hs; cbv) | (assumption))) | (apply E_callX hE (c_wSign nb b hb lb1); (case hf => rfl); (case hc => (cbv <;> trivial)); (case hle => (repeat' (first | exact u_nil | apply u_cons | apply u2_agg | exact u2_int | exact u1_int | exact u2_bool | exact u1_bool | exact u2_sli | exact u1_sli | exact u2_s0 | exact u1_s0))); all_goals (first | (intro s hs; cbv) | (assumption))))
  have hs : s = (if lv b = 0 then 0 else if nb then -1 else 1) := hs
  refine E_br hE (fun g => ?_) (fun g => ?_) <;> cbv
  · have nb0 : lv b = 0 := by
      have g : s = 0 := by subst hE; exact eql_t g
      rw [hs] at g
      by_cases h : lv b = 0
      · exact h
      · rw [if_neg h] at g; split at g <;> cases g
    (first | (apply E_pcallX hE (c_Inf _); (case hm => rfl); (case hle => (repeat' (first | exact u_nil | apply u_cons | apply u2_agg | exact u2_int | exact u1_int | exact u2_bool | exact u1_bool | exact u2_sli | exact u1_sli | exact u2_s0 | exact u1_s0))); all_goals (first | (intro z hz; cbv) | (assumption))) | (apply E_callX hE (c_Inf _); (case hf => rfl); (case hc => (cbv <;> trivial)); (case hle => (repeat' (first | exact u_nil | apply u_cons | apply u2_agg | exact u2_int | exact u1_int | exact u2_bool | exact u1_bool | exact u2_sli | exact u1_sli | exact u2_s0 | exact u1_s0))); all_goals (first | (intro z hz; cbv) | (assumption))))
    rw [fb nb0, ← show z = Num.inf (!up) by subst hE; exact hz]
    exact ⟨rfl, rfl, rfl, rfl, trivial⟩
  have nb0 : lv b ≠ 0 := by
    intro h
    have g : ¬ s = 0 := by subst hE; exact eql_f g
    rw [hs, if_pos h] at g; exact g rfl
  clear hs g
  (first | (apply E_pcallX hE (c_wSign na a ha la1); (case hm => rfl); (case hle => (repeat' (first | exact u_nil | apply u_cons | apply u2_agg | exact u2_int | exact u1_int | exact u2_bool | exact u1_bool | exact u2_sli | exact u1_sli | exact u2_s0 | exact u1_s0))); all_goals (first | (intro s2 hs2; cbv) | (assumption))) | (apply E_callX hE (c_wSign na a ha la1); (case hf => rfl); (case hc => (cbv <;> trivial)); (case hle => (repeat' (first | exact u_nil | apply u_cons | apply u2_agg | exact u2_int | exact u1_int | exact u2_bool | exact u1_bool | exact u2_sli | exact u1_sli | exact u2_s0 | exact u1_s0))); all_goals (first | (intro s2 hs2; cbv) | (assumption))))
  have hs2 : s2 = (if lv a = 0 then 0 else if na then -1 else 1) := hs2
  refine E_br hE (fun g => ?_) (fun g => ?_) <;> cbv
  · have na0 : lv a = 0 := by
      have g : s2 = 0 := by subst hE; exact eql_t g
      rw [hs2] at g
      by_cases h : lv a = 0
      · exact h
      · rw [if_neg h] at g; split at g <;> cases g
    rw [← fa nb0 na0]
    exact ⟨rfl, rfl, rfl, rfl, trivial⟩
  have na0 : lv a ≠ 0 := by
    intro h
    have g : ¬ s2 = 0 := by subst hE; exact eql_f g
    rw [hs2, if_pos h] at g; exact g rfl
  clear hs2 g
  have fin := fin0 nb0 na0
  clear fin0 fa fb
  (first | (apply E_pcallX hE (c_natLen b hb lb1); (case hm => rfl); (case hle => (repeat' (first | exact u_nil | apply u_cons | apply u2_agg | exact u2_int | exact u1_int | exact u2_bool | exact u1_bool | exact u2_sli | exact u1_sli | exact u2_s0 | exact u1_s0))); all_goals (first | (intro tb htb; cbv) | (assumption))) | (apply E_callX hE (c_natLen b hb lb1); (case hf => rfl); (case hc => (cbv <;> trivial)); (case hle => (repeat' (first | exact u_nil | apply u_cons | apply u2_agg | exact u2_int | exact u1_int | exact u2_bool | exact u1_bool | exact u2_sli | exact u1_sli | exact u2_s0 | exact u1_s0))); all_goals (first | (intro tb htb; cbv) | (assumption))))
  have htb : tb = LB := Eq.trans htb eB.symm
  (first | (apply E_pcallX hE (c_natLen a ha la1); (case hm => rfl); (case hle => (repeat' (first | exact u_nil | apply u_cons | apply u2_agg | exact u2_int | exact u1_int | exact u2_bool | exact u1_bool | exact u2_sli | exact u1_sli | exact u2_s0 | exact u1_s0))); all_goals (first | (intro ta hta; cbv) | (assumption))) | (apply E_callX hE (c_natLen a ha la1); (case hf => rfl); (case hc => (cbv <;> trivial)); (case hle => (repeat' (first | exact u_nil | apply u_cons | apply u2_agg | exact u2_int | exact u1_int | exact u2_bool | exact u1_bool | exact u2_sli | exact u1_sli | exact u2_s0 | exact u1_s0))); all_goals (first | (intro ta hta; cbv) | (assumption))))
  have hta : ta = LA := Eq.trans hta eA.symm
  rw [← htb, ← hta] at fin
  have eX := ex tb ta (by omega) (by omega) (by omega) (by omega)
  obtain ⟨B, eB⟩ : ∃ B, B = max 0 (65 + tb - ta) := ⟨_, rfl⟩
  have hB := eB
  have B0 : 0 ≤ B := by omega
  have B1 : B ≤ 3200065 := by omega
  refine E_br hE (fun g => ?_) (fun g => ?_) <;> cbv
  · have g : 0 < 65 + tb - ta := by rw [← eX]; subst hE; exact gtr_t g
    refine E_nm hE (fun y hy => ?_); cbv
    have eB : B = y := by have k : y = 65 + tb - ta := hy.trans eX; omega
    (first | (apply E_pcallX hE (c_natShl a y ha la1); (case hm => rfl); (case hle => (repeat' (first | exact u_nil | apply u_cons | apply u2_agg | exact u2_int | exact u1_int | exact u2_bool | exact u1_bool | exact u2_sli | exact u1_sli | exact u2_s0 | exact u1_s0))); all_goals (first | (intro u hu; cbv) | (assumption))) | (apply E_callX hE (c_natShl a y ha la1); (case hf => rfl); (case hc => (cbv <;> trivial)); (case hle => (repeat' (first | exact u_nil | apply u_cons | apply u2_agg | exact u2_int | exact u1_int | exact u2_bool | exact u1_bool | exact u2_sli | exact u1_sli | exact u2_s0 | exact u1_s0))); all_goals (first | (intro u hu; cbv) | (assumption))))
    have hu : u = lim (lv a * 2 ^ B.toNat) := by
      have k : u = (if y < 1 then lim (lv a) else if 16777216 < y then [] else lim (lv a * 2 ^ (y : Int).toNat)) := hu
      rw [k, eB]
      split
      · rw [show (y : Int).toNat = 0 by omega, Nat.pow_zero, Nat.mul_one]
      · rw [if_neg (by omega)]
    have lu : Lb u := by rw [hu]; exact lim_lb _
    have vu : lv u = lv a * 2 ^ B.toNat := by rw [hu, lv_lim]
    have uu : u.length ≤ 200004 := by
      have k : ∀ M : Nat, B.toNat ≤ 32 * M → u.length ≤ a.length + M := by
        intro M hM
        rw [hu]
        refine lim_length_le ?_
        have h1 := lv_lt ha
        calc lv a * 2 ^ B.toNat < 4294967296 ^ a.length * 2 ^ B.toNat := Nat.mul_lt_mul_of_pos_right h1 (Nat.two_pow_pos _)
          _ ≤ 4294967296 ^ a.length * 2 ^ (32 * M) := Nat.mul_le_mul_left _ (Nat.pow_le_pow_right (by decide) hM)
          _ = 4294967296 ^ (a.length + M) := by rw [Nat.pow_mul, show (2 : Nat) ^ 32 = 4294967296 by rfl, Nat.pow_add]
      have := k 100003 (by omega)
      omega
    have ul1 : u.length < 33554432 := by omega
    (first | (apply E_pcallX hE (c_natDiv u b lu hb ul1 lb2); (case hm => rfl); (case hle => (repeat' (first | exact u_nil | apply u_cons | apply u2_agg | exact u2_int | exact u1_int | exact u2_bool | exact u1_bool | exact u2_sli | exact u1_sli | exact u2_s0 | exact u1_s0))); all_goals (first | (intro t ht; cbv) | (assumption))) | (apply E_callX hE (c_natDiv u b lu hb ul1 lb2); (case hf => rfl); (case hc => (cbv <;> trivial)); (case hle => (repeat' (first | exact u_nil | apply u_cons | apply u2_agg | exact u2_int | exact u1_int | exact u2_bool | exact u1_bool | exact u2_sli | exact u1_sli | exact u2_s0 | exact u1_s0))); all_goals (first | (intro t ht; cbv) | (assumption))))
    have ht : t = (lim (lv u / lv b), lim (lv u % lv b), true) := by
      have k : t = (if lv b = 0 then ([], [], false) else (lim (lv u / lv b), lim (lv u % lv b), true)) := ht
      rw [k, if_neg nb0]
    have lq : Lb t.1 := by rw [ht]; exact lim_lb _
    have qq : t.1.length ≤ 200004 := by
      rw [ht]; show (lim (lv u / lv b)).length ≤ 200004; have := lim_mono (Nat.div_le_self (lv u) (lv b)); have := lim_length_le' lu; omega
    have vq : lv t.1 = lv a * 2 ^ B.toNat / lv b := by rw [ht, lv_lim, vu]
    have nq := natu_e (n := lv t.1) (Nat.le_trans (lim_length_le' lq) qq)
    have ql1 : t.1.length ≤ 524288 := by omega
    (first | (apply E_pcallX hE (c_natural t.1 lq ql1); (case hm => rfl); (case hle => (repeat' (first | exact u_nil | apply u_cons | apply u2_agg | exact u2_int | exact u1_int | exact u2_bool | exact u1_bool | exact u2_sli | exact u1_sli | exact u2_s0 | exact u1_s0))); all_goals (first | (intro n hn; cbv) | (assumption))) | (apply E_callX hE (c_natural t.1 lq ql1); (case hf => rfl); (case hc => (cbv <;> trivial)); (case hle => (repeat' (first | exact u_nil | apply u_cons | apply u2_agg | exact u2_int | exact u1_int | exact u2_bool | exact u1_bool | exact u2_sli | exact u1_sli | exact u2_s0 | exact u1_s0))); all_goals (first | (intro n hn; cbv) | (assumption))))
    have hn : n = natu (lv a * 2 ^ B.toNat / lv b) := by have k : n = natu (lv t.1) := hn; rw [k, vq]
    rw [vq, ← hn] at nq
    have F := fin B hB
    rw [← hn] at F
    refine E_nm hE (fun q1 h1q => ?_); cbv
    refine E_nm hE (fun q2 h2q => ?_); cbv
    have h1q : q1 = (n.1 : Int) := h1q
    have h2q : q2 = n.2.1 := h2q
    have ee : E.bin .sub .i64 q2 y = n.2.1 - B := by subst hE; rw [eB, h2q]; show IntKind.i64.wrap (n.2.1 - y) = _; rw [wi64_in (by omega) (by omega)]
    have rr : E.cmp .gtr (E.len t.2.1) 0 = decide (lv a * 2 ^ B.toNat % lv b ≠ 0) := by
      subst hE
      show decide ((0 : Int) < (t.2.1.length : Int)) = _
      rw [ht, vu]
      apply decide_eq_decide.2
      have := limp (lv a * 2 ^ B.toNat % lv b)
      constructor
      · intro h; exact this.1 (by exact_mod_cast h)
      · intro h; exact_mod_cast this.2 h
    refine E_br hE (fun c => ?_) (fun c => ?_) <;> cbv
    · rw [c, Bool.true_or, ← ee, ← h1q] at F
      (first | (apply E_pcallX hE (c_Grow _ _ _ _ _); (case hm => rfl); (case hle => (repeat' (first | exact u_nil | apply u_cons | apply u2_agg | exact u2_int | exact u1_int | exact u2_bool | exact u1_bool | exact u2_sli | exact u1_sli | exact u2_s0 | exact u1_s0))); all_goals (first | (intro z hz; cbv) | (assumption))) | (apply E_callX hE (c_Grow _ _ _ _ _); (case hf => rfl); (case hc => (cbv <;> trivial)); (case hle => (repeat' (first | exact u_nil | apply u_cons | apply u2_agg | exact u2_int | exact u1_int | exact u2_bool | exact u1_bool | exact u2_sli | exact u1_sli | exact u2_s0 | exact u1_s0))); all_goals (first | (intro z hz; cbv) | (assumption))))
      have k : z = r := hz.trans (F.trans (by subst hE; rfl)).symm
      rw [← k]
      exact ⟨rfl, rfl, rfl, rfl, trivial⟩
    · rw [c, Bool.false_or, ← rr, ← ee, ← h1q] at F
      (first | (apply E_pcallX hE (c_Grow _ _ _ _ _); (case hm => rfl); (case hle => (repeat' (first | exact u_nil | apply u_cons | apply u2_agg | exact u2_int | exact u1_int | exact u2_bool | exact u1_bool | exact u2_sli | exact u1_sli | exact u2_s0 | exact u1_s0))); all_goals (first | (intro z hz; cbv) | (assumption))) | (apply E_callX hE (c_Grow _ _ _ _ _); (case hf => rfl); (case hc => (cbv <;> trivial)); (case hle => (repeat' (first | exact u_nil | apply u_cons | apply u2_agg | exact u2_int | exact u1_int | exact u2_bool | exact u1_bool | exact u2_sli | exact u1_sli | exact u2_s0 | exact u1_s0))); all_goals (first | (intro z hz; cbv) | (assumption))))
      have k : z = r := hz.trans (F.trans (by subst hE; rfl)).symm
      rw [← k]
      exact ⟨rfl, rfl, rfl, rfl, trivial⟩

  · have g : ¬ 0 < 65 + tb - ta := by rw [← eX]; subst hE; exact gtr_f g
    have eB : B = 0 := by omega
    (first | (apply E_pcallX hE (c_natShl a 0 ha la1); (case hm => rfl); (case hle => (repeat' (first | exact u_nil | apply u_cons | apply u2_agg | exact u2_int | exact u1_int | exact u2_bool | exact u1_bool | exact u2_sli | exact u1_sli | exact u2_s0 | exact u1_s0))); all_goals (first | (intro u hu; cbv) | (assumption))) | (apply E_callX hE (c_natShl a 0 ha la1); (case hf => rfl); (case hc => (cbv <;> trivial)); (case hle => (repeat' (first | exact u_nil | apply u_cons | apply u2_agg | exact u2_int | exact u1_int | exact u2_bool | exact u1_bool | exact u2_sli | exact u1_sli | exact u2_s0 | exact u1_s0))); all_goals (first | (intro u hu; cbv) | (assumption))))
    have hu : u = lim (lv a * 2 ^ B.toNat) := by
      have k : u = (if 0 < 1 then lim (lv a) else if 16777216 < 0 then [] else lim (lv a * 2 ^ (0 : Int).toNat)) := hu
      rw [k, eB]
      split
      · rw [show (0 : Int).toNat = 0 by omega, Nat.pow_zero, Nat.mul_one]
      · rw [if_neg (by omega)]
    have lu : Lb u := by rw [hu]; exact lim_lb _
    have vu : lv u = lv a * 2 ^ B.toNat := by rw [hu, lv_lim]
    have uu : u.length ≤ 200004 := by
      have k : ∀ M : Nat, B.toNat ≤ 32 * M → u.length ≤ a.length + M := by
        intro M hM
        rw [hu]
        refine lim_length_le ?_
        have h1 := lv_lt ha
        calc lv a * 2 ^ B.toNat < 4294967296 ^ a.length * 2 ^ B.toNat := Nat.mul_lt_mul_of_pos_right h1 (Nat.two_pow_pos _)
          _ ≤ 4294967296 ^ a.length * 2 ^ (32 * M) := Nat.mul_le_mul_left _ (Nat.pow_le_pow_right (by decide) hM)
          _ = 4294967296 ^ (a.length + M) := by rw [Nat.pow_mul, show (2 : Nat) ^ 32 = 4294967296 by rfl, Nat.pow_add]
      have := k 100003 (by omega)
      omega
    have ul1 : u.length < 33554432 := by omega
    (first | (apply E_pcallX hE (c_natDiv u b lu hb ul1 lb2); (case hm => rfl); (case hle => (repeat' (first | exact u_nil | apply u_cons | apply u2_agg | exact u2_int | exact u1_int | exact u2_bool | exact u1_bool | exact u2_sli | exact u1_sli | exact u2_s0 | exact u1_s0))); all_goals (first | (intro t ht; cbv) | (assumption))) | (apply E_callX hE (c_natDiv u b lu hb ul1 lb2); (case hf => rfl); (case hc => (cbv <;> trivial)); (case hle => (repeat' (first | exact u_nil | apply u_cons | apply u2_agg | exact u2_int | exact u1_int | exact u2_bool | exact u1_bool | exact u2_sli | exact u1_sli | exact u2_s0 | exact u1_s0))); all_goals (first | (intro t ht; cbv) | (assumption))))
    have ht : t = (lim (lv u / lv b), lim (lv u % lv b), true) := by
      have k : t = (if lv b = 0 then ([], [], false) else (lim (lv u / lv b), lim (lv u % lv b), true)) := ht
      rw [k, if_neg nb0]
    have lq : Lb t.1 := by rw [ht]; exact lim_lb _
    have qq : t.1.length ≤ 200004 := by
      rw [ht]; show (lim (lv u / lv b)).length ≤ 200004; have := lim_mono (Nat.div_le_self (lv u) (lv b)); have := lim_length_le' lu; omega
    have vq : lv t.1 = lv a * 2 ^ B.toNat / lv b := by rw [ht, lv_lim, vu]
    have nq := natu_e (n := lv t.1) (Nat.le_trans (lim_length_le' lq) qq)
    have ql1 : t.1.length ≤ 524288 := by omega
    (first | (apply E_pcallX hE (c_natural t.1 lq ql1); (case hm => rfl); (case hle => (repeat' (first | exact u_nil | apply u_cons | apply u2_agg | exact u2_int | exact u1_int | exact u2_bool | exact u1_bool | exact u2_sli | exact u1_sli | exact u2_s0 | exact u1_s0))); all_goals (first | (intro n hn; cbv) | (assumption))) | (apply E_callX hE (c_natural t.1 lq ql1); (case hf => rfl); (case hc => (cbv <;> trivial)); (case hle => (repeat' (first | exact u_nil | apply u_cons | apply u2_agg | exact u2_int | exact u1_int | exact u2_bool | exact u1_bool | exact u2_sli | exact u1_sli | exact u2_s0 | exact u1_s0))); all_goals (first | (intro n hn; cbv) | (assumption))))
    have hn : n = natu (lv a * 2 ^ B.toNat / lv b) := by have k : n = natu (lv t.1) := hn; rw [k, vq]
    rw [vq, ← hn] at nq
    have F := fin B hB
    rw [← hn] at F
    refine E_nm hE (fun q1 h1q => ?_); cbv
    refine E_nm hE (fun q2 h2q => ?_); cbv
    have h1q : q1 = (n.1 : Int) := h1q
    have h2q : q2 = n.2.1 := h2q
    have ee : E.bin .sub .i64 q2 0 = n.2.1 - B := by subst hE; rw [eB, h2q]; show IntKind.i64.wrap (n.2.1 - 0) = _; rw [wi64_in (by omega) (by omega)]
    have rr : E.cmp .gtr (E.len t.2.1) 0 = decide (lv a * 2 ^ B.toNat % lv b ≠ 0) := by
      subst hE
      show decide ((0 : Int) < (t.2.1.length : Int)) = _
      rw [ht, vu]
      apply decide_eq_decide.2
      have := limp (lv a * 2 ^ B.toNat % lv b)
      constructor
      · intro h; exact this.1 (by exact_mod_cast h)
      · intro h; exact_mod_cast this.2 h
    refine E_br hE (fun c => ?_) (fun c => ?_) <;> cbv
    · rw [c, Bool.true_or, ← ee, ← h1q] at F
      (first | (apply E_pcallX hE (c_Grow _ _ _ _ _); (case hm => rfl); (case hle => (repeat' (first | exact u_nil | apply u_cons | apply u2_agg | exact u2_int | exact u1_int | exact u2_bool | exact u1_bool | exact u2_sli | exact u1_sli | exact u2_s0 | exact u1_s0))); all_goals (first | (intro z hz; cbv) | (assumption))) | (apply E_callX hE (c_Grow _ _ _ _ _); (case hf => rfl); (case hc => (cbv <;> trivial)); (case hle => (repeat' (first | exact u_nil | apply u_cons | apply u2_agg | exact u2_int | exact u1_int | exact u2_bool | exact u1_bool | exact u2_sli | exact u1_sli | exact u2_s0 | exact u1_s0))); all_goals (first | (intro z hz; cbv) | (assumption))))
      have k : z = r := hz.trans (F.trans (by subst hE; rfl)).symm
      rw [← k]
      exact ⟨rfl, rfl, rfl, rfl, trivial⟩
    · rw [c, Bool.false_or, ← rr, ← ee, ← h1q] at F
      (first | (apply E_pcallX hE (c_Grow _ _ _ _ _); (case hm => rfl); (case hle => (repeat' (first | exact u_nil | apply u_cons | apply u2_agg | exact u2_int | exact u1_int | exact u2_bool | exact u1_bool | exact u2_sli | exact u1_sli | exact u2_s0 | exact u1_s0))); all_goals (first | (intro z hz; cbv) | (assumption))) | (apply E_callX hE (c_Grow _ _ _ _ _); (case hf => rfl); (case hc => (cbv <;> trivial)); (case hle => (repeat' (first | exact u_nil | apply u_cons | apply u2_agg | exact u2_int | exact u1_int | exact u2_bool | exact u1_bool | exact u2_sli | exact u1_sli | exact u2_s0 | exact u1_s0))); all_goals (first | (intro z hz; cbv) | (assumption))))
      have k : z = r := hz.trans (F.trans (by subst hE; rfl)).symm
      rw [← k]
      exact ⟨rfl, rfl, rfl, rfl, trivial⟩

end Go.Proofs.Ytaiillbjhdoikaa.Ev

/- Contracts: the next number, a half; a number divided by ten. Printed by gen.py. -/
namespace Go.Proofs.Ytaiillbjhdoikaa.Ev
open Go Go.Proofs
set_option linter.unusedVariables false
set_option linter.unusedSimpArgs false

attribute [local irreducible] Lb
/-- the next number above, or below -/
def Num.next (n : Num) (up : Bool) : Num :=
  if n.fair.kind = 0 then Num.tiny (!up)
  else if n.fair.kind = 2 then (if n.fair.neg = up then Num.huge n.fair.neg else n.fair)
  else if n.fair.neg ≠ up then Num.grow n.fair.neg n.fair.m n.fair.e true true
  else if n.fair.m = 9223372036854775808 then Num.bound n.fair.neg 18446744073709551615 (IntKind.i64.wrap (n.fair.e - 1)) false
  else ⟨n.fair.kind, n.fair.neg, IntKind.u64.wrap (n.fair.m - 1), n.fair.e⟩

theorem c_Next (n : Num) (up : Bool)  : ∃ t : Num, t = Num.next n up ∧ CallsA Try.prog 36 [n.av, .bool (.s up)] (t.av) := by
  refine ⟨_, rfl, ?_⟩
  generalize hr : Num.next n up = r
  refine callsA_of hG hm Try.func36 (by kernel_rfl) ?_
  intro E hE lp hl
  cbv
  repeat' (first
    | (refine E_br hE (fun h => ?_) (fun h => ?_) <;> cbv)
    | (refine E_nm hE (fun v hv => ?_); cbv)
    | (apply E_callX hE (c_fair ⟨_, _, _, _⟩); (case hf => rfl); (case hc => (cbv <;> trivial)); (case hle => (repeat' (first | exact u_nil | apply u_cons | apply u2_agg | exact u2_int | exact u1_int | exact u2_bool | exact u1_bool | exact u2_sli | exact u1_sli | exact u2_s0 | exact u1_s0))); intro t ht; cbv)
    | (apply E_pcallX hE (c_fair ⟨_, _, _, _⟩); (case hm => rfl); (case hle => (repeat' (first | exact u_nil | apply u_cons | apply u2_agg | exact u2_int | exact u1_int | exact u2_bool | exact u1_bool | exact u2_sli | exact u1_sli | exact u2_s0 | exact u1_s0))); intro t ht; cbv)
    | (apply E_callX hE (c_tiny _); (case hf => rfl); (case hc => (cbv <;> trivial)); (case hle => (repeat' (first | exact u_nil | apply u_cons | apply u2_agg | exact u2_int | exact u1_int | exact u2_bool | exact u1_bool | exact u2_sli | exact u1_sli | exact u2_s0 | exact u1_s0))); intro t ht; cbv)
    | (apply E_pcallX hE (c_tiny _); (case hm => rfl); (case hle => (repeat' (first | exact u_nil | apply u_cons | apply u2_agg | exact u2_int | exact u1_int | exact u2_bool | exact u1_bool | exact u2_sli | exact u1_sli | exact u2_s0 | exact u1_s0))); intro t ht; cbv)
    | (apply E_callX hE (c_huge _); (case hf => rfl); (case hc => (cbv <;> trivial)); (case hle => (repeat' (first | exact u_nil | apply u_cons | apply u2_agg | exact u2_int | exact u1_int | exact u2_bool | exact u1_bool | exact u2_sli | exact u1_sli | exact u2_s0 | exact u1_s0))); intro t ht; cbv)
    | (apply E_pcallX hE (c_huge _); (case hm => rfl); (case hle => (repeat' (first | exact u_nil | apply u_cons | apply u2_agg | exact u2_int | exact u1_int | exact u2_bool | exact u1_bool | exact u2_sli | exact u1_sli | exact u2_s0 | exact u1_s0))); intro t ht; cbv)
    | (apply E_callX hE (c_Bound _ _ _ _); (case hf => rfl); (case hc => (cbv <;> trivial)); (case hle => (repeat' (first | exact u_nil | apply u_cons | apply u2_agg | exact u2_int | exact u1_int | exact u2_bool | exact u1_bool | exact u2_sli | exact u1_sli | exact u2_s0 | exact u1_s0))); intro t ht; cbv)
    | (apply E_pcallX hE (c_Bound _ _ _ _); (case hm => rfl); (case hle => (repeat' (first | exact u_nil | apply u_cons | apply u2_agg | exact u2_int | exact u1_int | exact u2_bool | exact u1_bool | exact u2_sli | exact u1_sli | exact u2_s0 | exact u1_s0))); intro t ht; cbv)
    | (apply E_callX hE (c_Grow _ _ _ _ _); (case hf => rfl); (case hc => (cbv <;> trivial)); (case hle => (repeat' (first | exact u_nil | apply u_cons | apply u2_agg | exact u2_int | exact u1_int | exact u2_bool | exact u1_bool | exact u2_sli | exact u1_sli | exact u2_s0 | exact u1_s0))); intro t ht; cbv)
    | (apply E_pcallX hE (c_Grow _ _ _ _ _); (case hm => rfl); (case hle => (repeat' (first | exact u_nil | apply u_cons | apply u2_agg | exact u2_int | exact u1_int | exact u2_bool | exact u1_bool | exact u2_sli | exact u1_sli | exact u2_s0 | exact u1_s0))); intro t ht; cbv)
    | fail)
  all_goals (subst hE; subst hr)
  all_goals (try simp only [realE, cmp_eql, cmp_neq, cmp_lss, cmp_leq, cmp_gtr, cmp_geq, intBinR, decide_eq_true_eq, decide_eq_false_iff_not, SI.val, SB.val, Num.eta, Iv.eta] at *)
  all_goals (try simp_all [Num.next])
  all_goals (try omega)
  all_goals (try simp only [Bool.and_assoc])
  all_goals (try rfl)
  all_goals ((repeat' split) <;> (try simp_all) <;> (try omega))


theorem c_Half (a : Num) (up : Bool) (ha : a.ok) : ∃ t : Num, t = Num.mul a ⟨1, false, 9223372036854775808, -64⟩ up ∧ CallsA Try.prog 47 [a.av, .bool (.s up)] t.av := by
  refine ⟨_, rfl, ?_⟩
  generalize hr : Num.mul a ⟨1, false, 9223372036854775808, -64⟩ up = r
  refine callsA_of hG hm Try.func47 (by kernel_rfl) ?_
  intro E hE lp hl'
  cbv
  (first | (apply E_pcallX hE (c_Of 1 (by decide) (by decide)); (case hm => rfl); (case hle => (repeat' (first | exact u_nil | apply u_cons | apply u2_agg | exact u2_int | exact u1_int | exact u2_bool | exact u1_bool | exact u2_sli | exact u1_sli | exact u2_s0 | exact u1_s0))); all_goals (first | (intro t ht; cbv) | (assumption))) | (apply E_callX hE (c_Of 1 (by decide) (by decide)); (case hf => rfl); (case hc => (cbv <;> trivial)); (case hle => (repeat' (first | exact u_nil | apply u_cons | apply u2_agg | exact u2_int | exact u1_int | exact u2_bool | exact u1_bool | exact u2_sli | exact u1_sli | exact u2_s0 | exact u1_s0))); all_goals (first | (intro t ht; cbv) | (assumption))))
  have ht : t = ⟨1, false, 9223372036854775808, -63⟩ := ht.trans (by decide +kernel)
  subst ht
  have e : E.bin .sub .i64 (-63) 1 = -64 := by subst hE; rfl
  have hk : (⟨1, false, 9223372036854775808, E.bin .sub .i64 (-63) 1⟩ : Num).ok := ⟨(by decide : (0 : Int) ≤ 9223372036854775808), (by decide : (9223372036854775808 : Int) < 18446744073709551616)⟩
  cbv
  (first | (apply E_pcallX hE (c_arMul ⟨_, _, _, _⟩ ⟨1, false, 9223372036854775808, E.bin .sub .i64 (-63) 1⟩ _ ha hk); (case hm => rfl); (case hle => (repeat' (first | exact u_nil | apply u_cons | apply u2_agg | exact u2_int | exact u1_int | exact u2_bool | exact u1_bool | exact u2_sli | exact u1_sli | exact u2_s0 | exact u1_s0))); all_goals (first | (intro z hz; cbv) | (assumption))) | (apply E_callX hE (c_arMul ⟨_, _, _, _⟩ ⟨1, false, 9223372036854775808, E.bin .sub .i64 (-63) 1⟩ _ ha hk); (case hf => rfl); (case hc => (cbv <;> trivial)); (case hle => (repeat' (first | exact u_nil | apply u_cons | apply u2_agg | exact u2_int | exact u1_int | exact u2_bool | exact u1_bool | exact u2_sli | exact u1_sli | exact u2_s0 | exact u1_s0))); all_goals (first | (intro z hz; cbv) | (assumption))))
  have k : z = r := by
    rw [← hr]
    have k2 : z = Num.mul a ⟨1, false, 9223372036854775808, E.bin .sub .i64 (-63) 1⟩ up := hz
    rw [k2, e]
  rw [← k]
  exact ⟨rfl, rfl, rfl, rfl, trivial⟩
theorem lim_small {k : Nat} (h0 : k ≠ 0) (h : k < 4294967296) : lim k = [(k : Int)] := by
  have l : (lim k).length ≤ 1 := lim_length_le (by rw [Nat.pow_one]; exact h)
  have p := (limp k).2 h0
  have v := lv_lim k
  match hq : lim k, l, p, v with
  | [x], _, _, v =>
    have b := (hq ▸ lim_lb k : Lb [x]).getD 0
    have b : 0 ≤ x := b.1
    have : x = (k : Int) := by simp only [lv] at v; omega
    rw [this]
theorem c_divide (m : List Int) (hm_ : Lb m) (hl : m.length < 33554432) : ∃ t : List Int × Int, t = (lim (lv m / 10), ((lv m % 10 : Nat) : Int)) ∧ CallsA Try.prog 116 [.sli .u32 m] (.tup [.sli .u32 t.1, .int .u32 (.s t.2)]) := by
  refine ⟨_, rfl, ?_⟩
  generalize hr : (lim (lv m / 10), ((lv m % 10 : Nat) : Int)) = r
  have lt : Lb [(10 : Int)] := Lb.cons (by decide) (by decide) Lb.nil
  have vt : lv [(10 : Int)] = 10 := rfl
  refine callsA_of hG hm Try.func116 (by kernel_rfl) ?_
  intro E hE lp hl'
  have es : E.sub [10] 0 1 = [10] := by subst hE; rfl
  cbv
  (first | (apply E_pcallX hE (c_natDiv m _ hm_ ?_ hl ?_); (case hm => rfl); (case hle => (repeat' (first | exact u_nil | apply u_cons | apply u2_agg | exact u2_int | exact u1_int | exact u2_bool | exact u1_bool | exact u2_sli | exact u1_sli | exact u2_s0 | exact u1_s0))); all_goals (first | (intro t ht; cbv) | (first | (show Lb (E.sub [10] 0 1); rw [es]; exact lt) | (show (E.sub [10] 0 1).length < 33554432; rw [es]; decide)))) | (apply E_callX hE (c_natDiv m _ hm_ ?_ hl ?_); (case hf => rfl); (case hc => (cbv <;> trivial)); (case hle => (repeat' (first | exact u_nil | apply u_cons | apply u2_agg | exact u2_int | exact u1_int | exact u2_bool | exact u1_bool | exact u2_sli | exact u1_sli | exact u2_s0 | exact u1_s0))); all_goals (first | (intro t ht; cbv) | (first | (show Lb (E.sub [10] 0 1); rw [es]; exact lt) | (show (E.sub [10] 0 1).length < 33554432; rw [es]; decide)))))
  have ht : t = (lim (lv m / 10), lim (lv m % 10), true) := by
    have k : t = (if lv (E.sub [10] 0 1) = 0 then ([], [], false) else (lim (lv m / lv (E.sub [10] 0 1)), lim (lv m % lv (E.sub [10] 0 1)), true)) := ht
    rw [es, vt] at k
    exact k
  have h1 : t.1 = lim (lv m / 10) := by rw [ht]
  have h2 : t.2.1 = lim (lv m % 10) := by rw [ht]
  clear ht
  refine E_br hE (fun g => ?_) (fun g => ?_) <;> cbv
  · have g : lv m % 10 = 0 := by
      have g : (t.2.1.length : Int) = 0 := by subst hE; exact eql_t g
      rw [h2] at g
      have := limp (lv m % 10)
      by_cases h : lv m % 10 = 0
      · exact h
      · have := this.2 h; omega
    rw [← hr, g]
    exact ⟨h1, rfl, trivial⟩
  · have g : lv m % 10 ≠ 0 := by
      intro h
      have g : ¬ (t.2.1.length : Int) = 0 := by subst hE; exact eql_f g
      rw [h2, h] at g; exact g rfl
    have e := lim_small g (by have := Nat.mod_lt (lv m) (show 0 < 10 by decide); omega)
    repeat' (first
    | (refine E_br hE (fun h => ?_) (fun h => ?_) <;> cbv)
    | (refine E_nm hE (fun v hv => ?_); cbv)
    | (refine E_nilS hE (fun b hb => ?_); cbv)
    | fail)
    · rw [← hr]
      refine ⟨h1, ?_, trivial⟩
      refine ‹v = _›.trans ?_
      subst hE
      show (t.2.1).getD (Int.toNat _) 0 = _
      rw [h2, e]; rfl
    · exfalso
      subst hE
      have := lss_f ‹_›
      rw [show (realE Try.prog).len t.2.1 = (t.2.1.length : Int) from rfl, h2, e] at this
      exact this (show (0 : Int) < 1 by decide)

end Go.Proofs.Ytaiillbjhdoikaa.Ev

/- Contracts of strings.Builder's copyCheck and String: walked by hand, told over the caller's memory. -/
namespace Go.Proofs.Ytaiillbjhdoikaa.Ev
open Go Go.Proofs Go.RowKit
set_option linter.unusedVariables false
set_option linter.unusedSimpArgs false

theorem lies_self (P : Program) (t n : Nat) (hd : 2 ≤ P.depth) (hn : 1 ≤ n) (hs : P.cellsOf t ≠ 0) (hl : sameLayout P P.depth t t = true) : liesAt P P.depth t n 0 t 1 = true := by
  obtain ⟨d, hd⟩ : ∃ d, P.depth = d + 1 := ⟨P.depth - 1, by omega⟩
  have : Go.rowAt P (sameLayout P P.depth · t) P.depth t n 0 1 = true := by
    rw [hd] at hl ⊢
    simp only [Go.rowAt, if_neg hs, Nat.zero_div, Nat.zero_mod, Nat.zero_add]
    simp [hl, hn]
  generalize hq : P.depth = D at this ⊢
  cases D with
  | zero => omega
  | succ D => simp only [liesAt]; rw [hq]; rw [this]; rfl
set_option maxHeartbeats 1000000 in
set_option maxRecDepth 100000 in
theorem copyUsed_walk (b : Nat) (w : World) (h0 : w.cell? ⟨b, 0, none⟩ = some (.pointer (some ⟨b, 0, none⟩))) :
    Calls Try.prog 131 #[.pointer (some ⟨b, 0, none⟩)] w fun e w' => e = .returned (.tuple #[]) ∧ w' = w := by
  obtain ⟨j, hj, _⟩ := Option.map_eq_some_iff.1 (show (Try.prog.info? 129).map (·.size) = some 2 from by kernel_rfl)
  go_enter Try.func131, Try.ntmps131
  go_wp2
  rw [Lib.run_neq_ptr_same w _ Try.underlying127 hj]
  go_wp2
  go_end0
  exact ⟨rfl, rfl⟩
set_option maxHeartbeats 1000000 in
set_option maxRecDepth 100000 in
theorem copyFresh_walk (b m : Nat) (w : World) (h0 : w.cell? ⟨b, 0, none⟩ = some (.pointer none)) (hsh : w.shape? b = some (129, m)) (hm : 2 ≤ m) (hfz : w.frozen? ⟨b, 0, none⟩ = false) :
    Calls Try.prog 131 #[.pointer (some ⟨b, 0, none⟩)] w fun e w' => e = .returned (.tuple #[]) ∧ w' = w.setCell ⟨b, 0, none⟩ (.pointer (some ⟨b, 0, none⟩)) := by
  obtain ⟨j, hj, hjs⟩ := Option.map_eq_some_iff.1 (show (Try.prog.info? 129).map (·.size) = some 2 from by kernel_rfl)
  have hc : Try.prog.cellsOf 129 = 2 := by kernel_rfl
  have hl : liesAt Try.prog Try.prog.depth 129 (m / Try.prog.cellsOf 129) 0 129 1 = true :=
    lies_self _ _ _ (Nat.le_of_ble_eq_true (by kernel_rfl)) (by rw [hc]; omega) (by rw [hc]; decide) (by kernel_rfl)
  go_enter Try.func131, Try.ntmps131
  go_wp2
  rw [Lib.run_to_unsafe w ⟨b, 0, none⟩ Try.underlying127 Try.underlying135 hj (by rw [hjs]; decide) hsh (show 0 < m by omega)]
  simp only [Result.andThen]
  rw [Oper.upon_value]
  go_wp2
  rw [run_callFunc_extern Try.func134 (by kernel_rfl) (by kernel_rfl) (by kernel_rfl) (e := Extern.AbiNoEscape.same) (by kernel_rfl)]
  rw [Lib.run_noEscape]
  simp only [Result.andThen]
  rw [Oper.upon_value]
  go_wp2
  rw [Lib.run_from_unsafe w ⟨b, 0, none⟩ Try.underlying135 Try.underlying127 hj hsh hl]
  simp only [Result.andThen]
  rw [Oper.upon_value]
  go_wp2
  go_end0
  exact ⟨rfl, rfl⟩
set_option maxHeartbeats 1000000 in
set_option maxRecDepth 100000 in
theorem string_walk (b g cap cells : Nat) (l : List UInt8) (w : World) (h1 : w.cell? ⟨b, 1, none⟩ = some (.slice (some ⟨g, 0, none⟩) l.length cap)) (hcap : cap ≠ 0) (hsh : w.shape? g = some (5, cells)) (h0 : l ≠ []) (hn : l.length ≤ cells)
    (h63 : l.length ≤ 9223372036854775807) (hcell : ∀ j x, l[j]? = some x → w.cell? ((⟨g, 0, none⟩ : Addr).add j) = some (.int .u8 x.toNat)) :
    Calls Try.prog 128 #[.pointer (some ⟨b, 0, none⟩)] w fun e w' => e = .returned (.string ⟨l.toArray⟩) ∧ w' = w.drew.freeze ⟨g, 0, none⟩ l.length := by
  have c1 : w.drew.cell? ⟨b, 1, none⟩ = some (.slice (some ⟨g, 0, none⟩) l.length cap) := h1
  have hSD : (Builtin.unsafeSliceData_ #[126] 133 #[.slice (some ⟨g, 0, none⟩) l.length cap]).run Try.prog w.drew = .ok (.pointer (some ⟨g, 0, none⟩)) w.drew :=
    Lib.run_unsafeSliceData_row _ _ _ _ _ _ (by omega)
  have hUS := Lib.run_unsafeString_row (P := Try.prog) w.drew 133 3 9 5 Try.underlying133 (by kernel_rfl) g cells (by exact hsh) l h0 hn h63 hcell
  go_enter Try.func128, Try.ntmps128
  go_wp2
  go_region
  all_goals (go_wp2; go_ret; exact ⟨rfl, rfl⟩)

/-- a builder's noughts -/
def BD : List AV := [.lit (.pointer none), .s0]
theorem BD_need : bldNeed BD = some [129] := rfl
theorem u8_need : intNeed .u8 = some [5] := rfl
theorem memN_one {e t : Nat} (h : memN e [t] = true) : e = t := by
  simp only [memN] at h
  cases hb : Nat.beq e t with
  | true => exact Nat.eq_of_beq_eq_true hb
  | false => rw [hb] at h; cases h
theorem one_val {x : X} {b sz : Nat} {vals : Array Value} (hl : [AV.ptr b sz (.l 0) 0].length = vals.size) (hr : ∀ (j : Nat) (c : AV), [AV.ptr b sz (.l 0) 0][j]? = some c → RelV x c (vals.getD j undef)) :
    b < x.h.length ∧ vals = #[.pointer (some ⟨x.μ b, 0, none⟩)] := by
  have h0 := hr 0 _ rfl
  obtain ⟨h1, _, h2, _⟩ := (show LeafR x (.ptr b sz (.l 0) 0) _ from h0)
  refine ⟨h1, ?_⟩
  obtain ⟨l⟩ := vals
  rcases l with _ | ⟨a, _ | ⟨c, r⟩⟩ <;> simp at hl
  simp only [SI.val, Int.toNat_zero, Nat.zero_mul, Nat.zero_add, Nat.add_zero] at h2
  simp at h2
  rw [h2]
theorem cell_of {w : World} {g i : Nat} {c : Array Value} {e : TypeId} {fr : Nat × Nat} (h : w.heap[g]? = some (.cells c e fr)) : w.cell? ⟨g, i, none⟩ = c[i]? := by simp [World.cell?, h]
theorem FOK.copy : FOK Try.prog 131 := ⟨_, Try.func131, by kernel_rfl, by kernel_rfl⟩
theorem FOK.str : FOK Try.prog 128 := ⟨_, Try.func128, by kernel_rfl, by kernel_rfl⟩

/-- copyCheck of a fresh builder -/
theorem h_copyFresh (h : List Blk) (b : Nat) (c2 : AV) (hb : getBlk h b = .rows true 2 BD [[.lit (.pointer none), c2]]) :
    CallsH Try.prog 131 [.ptr b 2 (.l 0) 0] h (fun v h' => v = .tup [] ∧ h' = setBlk h b (.rows true 2 BD [[.ptr b 2 (.l 0) 0, c2]])) := by
  intro base O0 μ w vals H hl hr
  obtain ⟨hbl, rfl⟩ := one_val hl hr
  have hb' := getBlk_some hb (by simp)
  obtain ⟨hd, c, e, hcell, hrows⟩ := H.blk b _ hb'
  have hcw : w.heap[μ b]? = some (.cells c e (0, 0)) := hcell
  obtain ⟨_, hr0⟩ := hrows 0 _ rfl
  obtain ⟨y0, hy0, hl0⟩ := hr0 0 _ rfl
  obtain ⟨y1, hy1, hl1⟩ := hr0 1 _ rfl
  have e0 : y0 = .pointer none := by cases (show RoV _ _ (.lit (.pointer none)) y0 from hl0); rfl
  subst e0
  obtain ⟨e', m, hsh, hmem⟩ := H.ty b _ hb' _ BD_need
  have := memN_one hmem
  subst this
  have hm : m = c.size ∧ e = 129 := by
    simp only [World.shape?, hcw] at hsh
    injection hsh with hsh
    injection hsh with h1 h2
    exact ⟨h2.symm, h1⟩
  simp only [Nat.zero_mul, Nat.zero_add] at hy0 hy1
  have hc2 : 1 < c.size := (Array.getElem?_eq_some_iff.1 hy1).1
  have hdim : dimB h b = some (1, 2) := by simp [dimB, hb', Blk.dim]
  have hwr : wrB h b = true := by simp [wrB, hb', Blk.wr]
  have W := copyFresh_walk (μ b) m w (by rw [cell_of hcw]; exact hy0) hsh (by omega) (by simp [World.frozen?, hcw])
  refine .inl ⟨FOK.copy, W.mono ?_⟩
  rintro e1 w' ⟨rfl, rfl⟩
  have hcw' : (w.setCell ⟨μ b, 0, none⟩ (.pointer (some ⟨μ b, 0, none⟩))).heap[μ b]? = some (.cells (c.setIfInBounds 0 (.pointer (some ⟨μ b, 0, none⟩))) e (0, 0)) := by
    simp only [World.setCell, Array.getElem?_modify, if_pos trivial, hcw]
    rfl
  have T : Turned (μ b) w (w.setCell ⟨μ b, 0, none⟩ (.pointer (some ⟨μ b, 0, none⟩))) c (c.setIfInBounds 0 (.pointer (some ⟨μ b, 0, none⟩))) e :=
    ⟨by simp [World.setCell], fun k hk => Below.heap_setCell _ _ _ _ (by exact hk), rfl, rfl, rfl, hcw', by simp⟩
  have ex := Ext.turn H (b := b) (x := .rows true 2 BD [[.ptr b 2 (.l 0) 0, c2]]) (.inl hwr) (fun _ => hwr) (.inr (by rw [hdim]; rfl)) T.size T.other (T.shape hcw)
  have hx : BlkR (mkX base O0 μ (h.set b (.rows true 2 BD [[.ptr b 2 (.l 0) 0, c2]])) (w.setCell ⟨μ b, 0, none⟩ (.pointer (some ⟨μ b, 0, none⟩)))) (μ b) (.rows true 2 BD [[.ptr b 2 (.l 0) 0, c2]]) := by
    refine ⟨rfl, _, _, hcw', fun i r hi => ?_⟩
    match i, hi with
    | 0, hi =>
      simp only [List.getElem?_cons_zero, Option.some.injEq] at hi
      subst hi
      refine ⟨rfl, fun j a ha => ?_⟩
      match j, ha with
      | 0, ha =>
        simp only [List.getElem?_cons_zero, Option.some.injEq] at ha
        subst ha
        refine ⟨.pointer (some ⟨μ b, 0, none⟩), by simp [show 0 < c.size by omega], ?_⟩
        refine ⟨by simp [mkX]; exact hbl, by simp [SI.val], by simp [mkX, SI.val], fun n s hn => ?_⟩
        have hn' : dimB (h.set b (.rows true 2 BD [[.ptr b 2 (.l 0) 0, c2]])) b = some (n, s) := hn
        have hbl' : b < h.length := hbl
        unfold dimB at hn'
        rw [List.getElem?_set, if_pos rfl, if_pos hbl'] at hn'
        simp only [Option.getD_some, Blk.dim, List.length_singleton, Option.some.injEq, Prod.mk.injEq] at hn'
        exact ⟨by simp [SI.val]; omega, hn'.2.symm⟩
      | 1, ha =>
        simp only [List.getElem?_cons_succ, List.getElem?_cons_zero, Option.some.injEq] at ha
        subst ha
        exact ⟨y1, by simp only [Nat.zero_mul, Nat.zero_add]; rw [Array.getElem?_setIfInBounds_ne (by omega)]; exact hy1, hl1.mono ex⟩
      | j + 2, ha => simp at ha
    | i + 1, hi => simp at hi
  exact ⟨_, .tup [], _, μ, rfl, ⟨rfl, by rw [setBlk_eq]⟩, ⟨#[], rfl, rfl, fun j c hj => by simp at hj⟩,
    HR.turn H hbl (.inl hwr) (fun _ => hwr) (.inr (by rw [hdim]; rfl)) T.size T.other (T.shape hcw) hx (.inr ⟨_, hb', rfl⟩), ex, T.below (H.low b (by rw [hdim]; simp))⟩

/-- copyCheck of a builder that has been used -/
theorem h_copyUsed (h : List Blk) (b : Nat) (c2 : AV) (w : Bool) (d : List AV) (hb : getBlk h b = .rows w 2 d [[.ptr b 2 (.l 0) 0, c2]]) :
    CallsH Try.prog 131 [.ptr b 2 (.l 0) 0] h (fun v h' => v = .tup [] ∧ h' = h) := by
  intro base O0 μ w vals H hl hr
  obtain ⟨hbl, rfl⟩ := one_val hl hr
  have hb' := getBlk_some hb (by simp)
  obtain ⟨hd, c, e, hcell, hrows⟩ := H.blk b _ hb'
  have hcw : w.heap[μ b]? = some (.cells c e (0, 0)) := hcell
  obtain ⟨_, hr0⟩ := hrows 0 _ rfl
  obtain ⟨y0, hy0, hl0⟩ := hr0 0 _ rfl
  obtain ⟨_, _, e0, _⟩ := (show LeafR _ (.ptr b 2 (.l 0) 0) y0 from hl0)
  subst e0
  simp only [Nat.zero_mul, Nat.zero_add, SI.val, Int.toNat_zero] at hy0
  have W := copyUsed_walk (μ b) w (by rw [cell_of hcw]; exact hy0)
  refine .inl ⟨FOK.copy, W.mono ?_⟩
  rintro e1 w' ⟨rfl, rfl⟩
  exact ⟨_, .tup [], _, μ, rfl, ⟨rfl, rfl⟩, ⟨#[], rfl, rfl, fun j c hj => by simp at hj⟩, H, Ext.refl _, Below.refl _ _⟩

/-- bytes, as a string -/
def byteArr (l : List Int) : ByteArray := ⟨(l.map fun n => UInt8.ofNat n.toNat).toArray⟩
theorem byteArr_size (l : List Int) : (byteArr l).size = l.length := by
  show (l.map _).toArray.size = _
  simp
theorem h_string (h : List Blk) (b g : Nat) (p : AV) (w : Bool) (d : List AV) (wg : Bool) (n : SI) (l : List Int) (hb : getBlk h b = .rows w 2 d [[p, .ms g 1 (.l 0) n]]) (hg : getBlk h g = .ints true .u8 l)
    (hn : n.val = l.length) (h0 : 0 < l.length) (hl63 : (l.length : Int) ≤ most) (hby : ∀ x ∈ l, 0 ≤ x ∧ x < 256) :
    CallsH Try.prog 128 [.ptr b 2 (.l 0) 0] h (fun v h' => v = .str (byteArr l) ∧ h' = setBlk h g .dead) := by
  intro base O0 μ w vals H hl hr
  obtain ⟨hbl, rfl⟩ := one_val hl hr
  have hmost : most = 17179869184 := rfl
  have hb' := getBlk_some hb (by simp)
  have hg' := getBlk_some hg (by simp)
  obtain ⟨hd, c, e, hcell, hrows⟩ := H.blk b _ hb'
  have hcw : w.heap[μ b]? = some (.cells c e (0, 0)) := hcell
  obtain ⟨_, hr0⟩ := hrows 0 _ rfl
  obtain ⟨y1, hy1, hl1⟩ := hr0 1 _ rfl
  simp only [Nat.zero_mul, Nat.zero_add] at hy1
  obtain ⟨hgl, _, hn0, A, cap, rfl, hle, hA, hds⟩ := (show LeafR _ (.ms g 1 (.l 0) n) y1 from hl1)
  have hgl' : g < h.length := hgl
  have hdim : dimB h g = some (l.length, 1) := by simp [dimB, hg', Blk.dim]
  have hwr : wrB h g = true := by simp [wrB, hg', Blk.wr]
  obtain ⟨_, _, e2, m, hsh2, hcm⟩ := hds _ _ hdim
  obtain ⟨e', m', hsh, hmem⟩ := H.ty g _ hg' _ u8_need
  have := memN_one hmem
  subst this
  have hsh2' : w.shape? (μ g) = some (e2, m) := hsh2
  have hmm : m = m' := by rw [hsh2'] at hsh; injection hsh with hsh; injection hsh
  subst hmm
  obtain ⟨cg, eg, hcg, hints⟩ := H.blk g _ hg'
  have hcgw : w.heap[μ g]? = some (.cells cg eg (0, 0)) := hcg
  have hnl : n.val.toNat = l.length := by omega
  have hcap : 0 < cap := by omega
  rw [hA hcap] at hy1
  simp only [SI.val, Int.toNat_zero, Nat.zero_mul, Nat.zero_add, Nat.mul_one] at hcm
  have hlen : (l.map fun n => UInt8.ofNat n.toNat).length = l.length := by simp
  have W := string_walk (μ b) (μ g) cap m (l.map fun n => UInt8.ofNat n.toNat) w (by rw [cell_of hcw, hy1, hlen, ← hnl]; simp [SI.val, mkX]) (by omega) hsh (by intro hq; rw [hq] at hlen; simp at hlen; omega) (by rw [hlen]; omega) (by rw [hlen]; omega)
    (fun j x hx => by
      rw [List.getElem?_map, Option.map_eq_some_iff] at hx
      obtain ⟨k, hk, rfl⟩ := hx
      rw [addr_add rfl, cell_of hcgw, Nat.zero_add, hints j k hk]
      have := hby k (List.mem_of_getElem? hk)
      congr 2
      have e3 : (UInt8.ofNat k.toNat).toNat = k.toNat := by simp [UInt8.toNat_ofNat']; omega
      rw [e3]; omega)
  refine .inl ⟨FOK.str, W.mono ?_⟩
  rintro e1 w' ⟨rfl, rfl⟩
  have H1 := H.drew
  have hfz : w.drew.freeze ⟨μ g, 0, none⟩ (l.map fun n => UInt8.ofNat n.toNat).length = (drewW w).freeze ⟨μ g, 0, none⟩ (l.map fun n => UInt8.ofNat n.toNat).length := rfl
  rw [hfz]
  generalize hw' : (drewW w).freeze ⟨μ g, 0, none⟩ (l.map fun n => UInt8.ofNat n.toNat).length = w'
  have f1 : w'.heap.size = (drewW w).heap.size := by
    rw [← hw']; unfold World.freeze; split <;> simp
  have f2 : ∀ k, k ≠ μ g → w'.heap[k]? = (drewW w).heap[k]? := by
    intro k hk
    rw [← hw']; unfold World.freeze
    split
    · rfl
    · simp only [Array.getElem?_modify]
      rw [if_neg (fun e => hk e.symm)]
  have f3 : ∀ s, (drewW w).shape? (μ g) = some s → w'.shape? (μ g) = some s := by
    intro s hs
    rw [← hw']; unfold World.freeze
    split
    · exact hs
    · unfold World.shape? at hs ⊢
      have hcgd : (drewW w).heap[μ g]? = some (.cells cg eg (0, 0)) := hcgw
      simp only [Array.getElem?_modify, if_pos trivial, hcgd] at hs ⊢
      exact hs
  have f4 : Below base w w' := by
    rw [← hw']
    exact Lib.below_freeze (below_drew base w) (p := ⟨μ g, 0, none⟩) (H.low g (by rw [hdim]; simp)) _
  have hwr1 : wrB h g = true := hwr
  have ex := Ext.turn H1 (b := g) (x := .dead) (w' := w') (.inl hwr1) (fun h => by simp [Blk.wr] at h) (.inl rfl) f1 f2 f3
  exact ⟨_, .str (byteArr l), _, μ, rfl, ⟨rfl, by rw [setBlk_eq]⟩, RoV.str _,
    HR.turn H1 (x := .dead) hgl' (.inl hwr1) (fun h => by simp [Blk.wr] at h) (.inl rfl) f1 f2 f3 trivial (.inl rfl), (Ext.drew H).trans ex, f4⟩
end Go.Proofs.Ytaiillbjhdoikaa.Ev

/- Contract of strings.Builder's WriteByte, over a memory of three blocks: the caller's bytes, the builder, the builder's bytes. -/
namespace Go.Proofs.Ytaiillbjhdoikaa.Ev
open Go Go.Proofs Go.RowKit
set_option linter.unusedVariables false
set_option linter.unusedSimpArgs false

section
variable {P : Program} {G : Nat → TI}
theorem callsH_turn2 {f : FuncId} {args : List AV} {h : List Blk} {K K' : AV → List Blk → Prop} (hC : CallsH P f args h K')
    (hK : ∀ v h1, K' v h1 → ∃ b x y, h1[b]? = some y ∧ x.wr = y.wr ∧ (x.dim = y.dim ∧ x.need = y.need) ∧ (∀ X g, BlkR X g y → BlkR X g x) ∧ K v (h1.set b x)) : CallsH P f args h K := by
  intro base O0 μ w vals H hl ha
  refine (hC base O0 μ w vals H hl ha).mono ?_
  rintro e w' ⟨val, v, h1, μ1, rfl, hk, hv, H1, X1, hB⟩
  obtain ⟨b, x, y, hb, hw, ⟨hd, hn⟩, hr, hK⟩ := hK v h1 hk
  have hb0 : b < h1.length := (List.getElem?_eq_some_iff.1 hb).1
  have hdim : x.dim = dimB h1 b := by rw [hd]; simp [dimB, hb]
  have hwr : x.wr = true → wrB h1 b = true := by intro k; rw [hw] at k; simp [wrB, hb, k]
  have e := Ext.turn H1 (b := b) (x := x) (.inr rfl) hwr (.inr hdim) rfl (fun _ _ => rfl) (fun _ h => h)
  exact ⟨val, v, h1.set b x, μ1, rfl, hK, hv.mono e, HR.turn H1 hb0 (.inr rfl) hwr (.inr hdim) rfl (fun _ _ => rfl) (fun _ h => h) ((hr _ _ (H1.blk b y hb)).mono e rfl) (.inr ⟨_, hb, hn⟩), X1.trans e, hB⟩
theorem bld_lit {w : Bool} {d : List AV} {p : AV} {b sz : Nat} {r : SI} {n : Int} (X : X) (g : Nat) (h : BlkR X g (.rows w 2 d [[p, .ms b sz r (.l n)]])) : BlkR X g (.rows w 2 d [[p, .ms b sz r (.s n)]]) := by
  obtain ⟨h1, c, e, h2, h3⟩ := h
  refine ⟨h1, c, e, h2, fun i r hr => ?_⟩
  match i, hr with
  | 0, hr =>
    simp only [List.getElem?_cons_zero, Option.some.injEq] at hr
    subst hr
    obtain ⟨_, h4⟩ := h3 0 _ rfl
    refine ⟨rfl, fun j a ha => ?_⟩
    match j, ha with
    | 0, ha =>
      simp only [List.getElem?_cons_zero, Option.some.injEq] at ha
      subst ha
      exact h4 0 _ rfl
    | 1, ha =>
      simp only [List.getElem?_cons_succ, List.getElem?_cons_zero, Option.some.injEq] at ha
      subst ha
      obtain ⟨y, q1, q2⟩ := h4 1 _ rfl
      exact ⟨y, q1, q2⟩
    | j + 2, ha => simp at ha
  | i + 1, hr => simp at hr
end

/-- a fresh builder -/
theorem h_wb0 (l : List Int) (c : Int) : CallsH Try.prog 127 [.ptr 1 2 (.l 0) 0, .int .u8 (.s c)] [.ints true .u8 l, .rows true 2 BD [[.lit (.pointer none), .s0]]]
    (fun v h => v = .lit .nilIface ∧ ∃ L, h = [.ints true .u8 l, .rows true 2 BD [[.ptr 1 2 (.l 0) 0, .ms 2 1 (.l 0) (.s 1)]], .ints true .u8 L] ∧ L = [c]) := by
  refine callsH_turn2 (K' := fun v h => v = .lit .nilIface ∧ ∃ L, h = [.ints true .u8 l, .rows true 2 BD [[.ptr 1 2 (.l 0) 0, .ms 2 1 (.l 0) (.l 1)]], .ints true .u8 L] ∧ L = [c]) ?_ ?_
  · refine callsH_named (callsH_of (K := fun v h => v = .lit .nilIface ∧ ∃ B L, h = [.ints true .u8 l, .rows true 2 BD [[.ptr 1 2 (.l 0) 0, .ms 3 1 (.l 0) (.l 1)]], B, .ints true .u8 L] ∧ L = [c]) hG hm Try.func127 (by kernel_rfl) ?_) ?_
    · intro E hE lp hl'
      cbv
      refine E_callH hE (h_copyFresh [.ints true .u8 l, .rows true 2 BD [[.lit (.pointer none), .s0]]] 1 .s0 rfl) ?_
      intro v h e
      rw [e.1, e.2]
      cbv
      refine ⟨rfl, _, _, rfl, ?_⟩
      subst hE
      rfl
    · rintro v h ⟨rfl, B, L, rfl, hL⟩
      exact ⟨[0, 1, 3], .lit .nilIface, [.ints true .u8 l, .rows true 2 BD [[.ptr 1 2 (.l 0) 0, .ms 2 1 (.l 0) (.l 1)]], .ints true .u8 L], ⟨⟨rfl, rfl, rfl, trivial⟩, rfl, rfl, Nat.le_of_ble_eq_true rfl, ⟨rfl, trivial⟩, fun x val hv => hv, rfl⟩, rfl, L, rfl, hL⟩
  · rintro v h ⟨rfl, L, rfl, hL⟩
    exact ⟨1, .rows true 2 BD [[.ptr 1 2 (.l 0) 0, .ms 2 1 (.l 0) (.s 1)]], _, rfl, rfl, ⟨rfl, rfl⟩, fun X g hb => bld_lit X g hb, rfl, L, rfl, hL⟩

/-- a builder that holds bytes -/
theorem h_wb1 (l bs : List Int) (c n : Int) (hn : n = bs.length) (hm1 : (bs.length : Int) < 17179869184) : CallsH Try.prog 127 [.ptr 1 2 (.l 0) 0, .int .u8 (.s c)] [.ints true .u8 l, .rows true 2 BD [[.ptr 1 2 (.l 0) 0, .ms 2 1 (.l 0) (.s n)]], .ints true .u8 bs]
    (fun v h => v = .lit .nilIface ∧ ∃ L k, h = [.ints true .u8 l, .rows true 2 BD [[.ptr 1 2 (.l 0) 0, .ms 3 1 (.l 0) (.s k)]], .dead, .ints true .u8 L] ∧ L = bs ++ [c] ∧ k = L.length) := by
  refine callsH_named (callsH_of (K := fun v h => v = .lit .nilIface ∧ ∃ B L k, h = [.ints true .u8 l, .rows true 2 BD [[.ptr 1 2 (.l 0) 0, .ms 4 1 (.l 0) (.s k)]], .dead, B, .ints true .u8 L] ∧ L = bs ++ [c] ∧ k = L.length) hG hm Try.func127 (by kernel_rfl) ?_) ?_
  · intro E hE lp hl'
    cbv
    refine E_callH hE (h_copyUsed [.ints true .u8 l, .rows true 2 BD [[.ptr 1 2 (.l 0) 0, .ms 2 1 (.l 0) (.s n)]], .ints true .u8 bs] 1 _ true BD rfl) ?_
    intro v h e
    rw [e.1, e.2]
    cbv
    refine E_br hE (fun g => ?_) (fun g => ?_) <;> cbv
    · refine ⟨rfl, _, _, _, rfl, ?_, ?_⟩
      · subst hE
        show (bs.drop (0 : Int).toNat).take n.toNat ++ [c] = _
        rw [hn]; simp
      · subst hE
        show n + 1 = (((bs.drop (0 : Int).toNat).take n.toNat ++ [c]).length : Int)
        rw [hn]; simp
    · subst hE
      have g := leq_f g
      apply g
      show n + 1 ≤ 17179869184
      omega
  · rintro v h ⟨rfl, B, L, k, rfl, hL, hk⟩
    exact ⟨[0, 1, 2, 4], .lit .nilIface, [.ints true .u8 l, .rows true 2 BD [[.ptr 1 2 (.l 0) 0, .ms 3 1 (.l 0) (.s k)]], .dead, .ints true .u8 L], ⟨⟨rfl, rfl, rfl, trivial⟩, rfl, rfl, Nat.le_of_ble_eq_true rfl, ⟨rfl, trivial⟩, fun x val hv => hv, rfl⟩, rfl, L, k, rfl, hL, hk⟩
end Go.Proofs.Ytaiillbjhdoikaa.Ev

/- Contract of decimal.Digits: the digits of a number. Printed by gen.py. -/
namespace Go.Proofs.Ytaiillbjhdoikaa.Ev
open Go Go.Proofs
set_option linter.unusedVariables false
set_option linter.unusedSimpArgs false

attribute [local irreducible] Lb
/-- digits, the lowest first, as bytes -/
def digR (n : Nat) : List Int := if h : n = 0 then [] else (48 + ((n % 10 : Nat) : Int)) :: digR (n / 10)
termination_by n
decreasing_by omega
theorem digR_zero : digR 0 = [] := by rw [digR]; rfl
theorem digR_pos {n : Nat} (h : n ≠ 0) : digR n = (48 + ((n % 10 : Nat) : Int)) :: digR (n / 10) := by rw [digR, dif_neg h]
/-- the digits of a number, as it is written -/
def decS (n : Nat) : List Int := if n = 0 then [48] else (digR n).reverse
theorem digR_len : ∀ (k n : Nat), n < 10 ^ k → (digR n).length ≤ k
  | 0, n, h => by rw [show n = 0 by simp at h; exact h, digR_zero]; exact Nat.le_refl _
  | k + 1, n, h => by
    by_cases h0 : n = 0
    · rw [h0, digR_zero]; exact Nat.zero_le _
    · rw [digR_pos h0]
      have := digR_len k (n / 10) (by rw [Nat.pow_succ] at h; omega)
      simp; omega
theorem digR_byte (n : Nat) : ∀ x ∈ digR n, 48 ≤ x ∧ x ≤ 57 := by
  induction n using Nat.strongRecOn with
  | ind n ih =>
    intro x hx
    by_cases h0 : n = 0
    · rw [h0, digR_zero] at hx; cases hx
    · rw [digR_pos h0] at hx
      rcases List.mem_cons.1 hx with rfl | hx
      · omega
      · exact ih (n / 10) (by omega) x hx
theorem limbs_digits {m : List Int} (h : Lb m) : (digR (lv m)).length ≤ 10 * m.length := by
  refine digR_len _ _ ?_
  have := lv_lt h
  have e : (4294967296 : Nat) ^ m.length ≤ 10 ^ (10 * m.length) := by
    rw [Nat.pow_mul]
    exact Nat.pow_le_pow_left (by decide) _
  omega
def dgL (o : Option (List Int × Int)) : List Int := match o with
  | none => []
  | some (l, _) => l
def dgN (o : Option (List Int × Int)) : Int := match o with
  | none => 0
  | some (_, k) => k
def dgS : List Int × Option (List Int × Int) → St
  | (m, none) => ⟨[(0, .sli .u32 m), (3, .s0)], []⟩
  | (m, some (l, k)) => ⟨[(0, .sli .u32 m), (3, .ms 0 1 (.l 0) (.s k))], [.ints true .u8 l]⟩
def dgT (l : List Int) (n : Int) : Int × Option (List Int × Int) → St
  | (i, none) => ⟨[(3, .ms 0 1 (.l 0) (.s n)), (6, .ptr 1 2 (.l 0) 0), (29, .int .i64 (.s n)), (30, .int .i64 (.s i))], [.ints true .u8 l, .rows true 2 BD [[.lit (.pointer none), .s0]]]⟩
  | (i, some (b, k)) => ⟨[(3, .ms 0 1 (.l 0) (.s n)), (6, .ptr 1 2 (.l 0) 0), (29, .int .i64 (.s n)), (30, .int .i64 (.s i))], [.ints true .u8 l, .rows true 2 BD [[.ptr 1 2 (.l 0) 0, .ms 2 1 (.l 0) (.s k)]], .ints true .u8 b]⟩
theorem dg_sub {l : List Int} {n : Int} (h : n = l.length) : (l.drop (0 : Int).toNat).take n.toNat = l := by rw [h]; simp
theorem conv_u8 {n : Int} (h0 : 0 ≤ n) (h1 : n < 256) : IntKind.u8.wrap n = n := by
  show n % 256 = n
  omega
theorem dg_byte {n : Nat} : IntKind.u8.wrap (48 + IntKind.u8.wrap ((n % 10 : Nat) : Int)) = 48 + ((n % 10 : Nat) : Int) := by
  rw [conv_u8 (n := ((n % 10 : Nat) : Int)) (by omega) (by omega), conv_u8 (by omega) (by omega)]
set_option maxHeartbeats 2000000 in
theorem c_Digits (m : List Int) (hm_ : Lb m) (hl_ : m.length < 33554432) : ∃ t : ByteArray, t = byteArr (decS (lv m)) ∧ CallsA Try.prog 117 [.sli .u32 m] (.str t) := by
  refine ⟨_, rfl, ?_⟩
  generalize hr : byteArr (decS (lv m)) = r
  obtain ⟨N, hN⟩ : ∃ N, lv m = N := ⟨_, rfl⟩
  have hml : m.length ≤ 268435456 := by omega
  have dl := limbs_digits hm_
  rw [hN] at dl hr
  have ml := lim_length_le' hm_
  rw [hN] at ml
  have r0 : N = 0 → byteArr [48] = r := by intro h; rw [← hr, h]; rfl
  obtain ⟨ms, em⟩ : ∃ ms : List Int × Option (List Int × Int) → Nat, ∀ p, ms p = lv p.1 := ⟨_, fun _ => rfl⟩
  obtain ⟨ok, eok⟩ : ∃ ok : List Int × Option (List Int × Int) → Prop, ∀ p, ok p ↔ (p.1 = lim (lv p.1) ∧ lv p.1 ≤ N ∧ digR N = dgL p.2 ++ digR (lv p.1) ∧ dgN p.2 = (dgL p.2).length) := ⟨_, fun _ => Iff.rfl⟩
  have bnd : ∀ a o, ok (a, o) → Lb a ∧ a.length < 33554432 ∧ 0 ≤ dgN o ∧ dgN o < 17179869184 ∧ dgN o = (dgL o).length := by
    intro a o h
    obtain ⟨h1, h2, h3, h4⟩ := (eok _).1 h
    dsimp only at h1 h2 h3 h4
    have q : (dgL o).length ≤ (digR N).length := by rw [h3]; simp
    have mono := lim_mono h2
    refine ⟨by rw [h1]; exact lim_lb _, by rw [h1]; omega, by omega, by omega, h4⟩
  have start : ∀ a, a = lim N → ok (a, none) := by
    intro a h
    refine (eok _).2 ⟨by rw [h, lv_lim], by rw [h, lv_lim]; exact Nat.le_refl _, by rw [h, lv_lim]; rfl, rfl⟩
  have next : ∀ a o, ok (a, o) → 0 < a.length → ∀ x, x = IntKind.u8.wrap (48 + IntKind.u8.wrap ((lv a % 10 : Nat) : Int)) →
      ms (lim (lv a / 10), some (dgL o ++ [x], dgN o + 1)) < ms (a, o) ∧ ok (lim (lv a / 10), some (dgL o ++ [x], dgN o + 1)) := by
    intro a o h hp x hx
    obtain ⟨h1, h2, h3, h4⟩ := (eok _).1 h
    dsimp only at h1 h2 h3 h4
    have hp' : lv a ≠ 0 := by intro z; rw [h1, z] at hp; exact absurd hp (by decide)
    rw [dg_byte] at hx
    refine ⟨by rw [em, em]; dsimp only; rw [lv_lim]; omega, (eok _).2 ⟨by dsimp only; rw [lv_lim], by dsimp only; rw [lv_lim]; omega, ?_, ?_⟩⟩
    · dsimp only
      rw [lv_lim, h3, digR_pos hp', hx]
      show _ = (dgL o ++ [_]) ++ _
      simp
    · show dgN o + 1 = ((dgL o ++ [x]).length : Int)
      rw [h4]; simp
  have stop : ∀ a o, ok (a, o) → ¬ 0 < a.length → dgL o = digR N ∧ dgN o = (digR N).length := by
    intro a o h hp
    obtain ⟨h1, h2, h3, h4⟩ := (eok _).1 h
    dsimp only at h1 h2 h3 h4
    have z : lv a = 0 := by
      have : a = [] := by cases a with
        | nil => rfl
        | cons x r => exact absurd (Nat.zero_lt_succ _) hp
      rw [this]; rfl
    rw [z, digR_zero, List.append_nil] at h3
    exact ⟨h3.symm, by rw [h4, ← h3]⟩
  obtain ⟨D, hD⟩ : ∃ D, digR N = D := ⟨_, rfl⟩
  have dby : ∀ x ∈ D, 0 ≤ x ∧ x < 256 := fun x hx => by have := digR_byte N x (hD ▸ hx); omega
  rw [hD] at stop dl
  have fin : N ≠ 0 → byteArr D.reverse = r := by intro h; rw [← hr, ← hD]; unfold decS; rw [if_neg h]
  have dne : N ≠ 0 → 0 < D.length := by intro h; rw [← hD, digR_pos h]; exact Nat.zero_lt_succ _
  obtain ⟨ms2, em2⟩ : ∃ ms2 : Int × Option (List Int × Int) → Nat, ∀ p, ms2 p = ((D.length : Int) - p.1).toNat := ⟨_, fun _ => rfl⟩
  obtain ⟨ok2, eok2⟩ : ∃ ok2 : Int × Option (List Int × Int) → Prop, ∀ p, ok2 p ↔ (0 ≤ p.1 ∧ p.1 ≤ D.length ∧ dgL p.2 = D.reverse.take p.1.toNat ∧ dgN p.2 = p.1 ∧ (p.2 = none → p.1 = 0)) := ⟨_, fun _ => Iff.rfl⟩
  have bnd2 : ∀ i o, ok2 (i, o) → 0 ≤ i ∧ i ≤ D.length ∧ dgN o = (dgL o).length ∧ ((dgL o).length : Int) ≤ D.length := by
    intro i o h
    obtain ⟨h1, h2, h3, h4, h5⟩ := (eok2 _).1 h
    dsimp only at h1 h2 h3 h4 h5
    have q : (dgL o).length = i.toNat := by rw [h3, List.length_take, List.length_reverse]; omega
    exact ⟨h1, h2, by rw [h4, q]; omega, by rw [q]; omega⟩
  have next2 : ∀ i o, ok2 (i, o) → i < D.length → ∀ x, x = D.getD (IntKind.i64.wrap (IntKind.i64.wrap ((D.length : Int) - 1) - i)).toNat 0 → ∀ k, k = ((dgL o ++ [x]).length : Int) →
      0 ≤ IntKind.i64.wrap (IntKind.i64.wrap ((D.length : Int) - 1) - i) ∧ IntKind.i64.wrap (IntKind.i64.wrap ((D.length : Int) - 1) - i) < D.length ∧
      ms2 (IntKind.i64.wrap (i + 1), some (dgL o ++ [x], k)) < ms2 (i, o) ∧ ok2 (IntKind.i64.wrap (i + 1), some (dgL o ++ [x], k)) := by
    intro i o h hlt x hx k hk
    obtain ⟨h1, h2, h3, h4, h5⟩ := (eok2 _).1 h
    dsimp only at h1 h2 h3 h4 h5
    rw [wi64_id (n := (D.length : Int) - 1) (by omega) (by omega), wi64_id (by omega) (by omega)] at hx
    rw [wi64_id (n := (D.length : Int) - 1) (by omega) (by omega), wi64_id (n := (D.length : Int) - 1 - i) (by omega) (by omega), wi64_id (n := i + 1) (by omega) (by omega)]
    have q : (dgL o).length = i.toNat := by rw [h3, List.length_take, List.length_reverse]; omega
    refine ⟨by omega, by omega, by rw [em2, em2]; dsimp only; omega, (eok2 _).2 ⟨by dsimp only; omega, by dsimp only; omega, ?_, ?_, fun h => by cases h⟩⟩
    · show dgL o ++ [x] = _
      dsimp only
      rw [show (i + 1).toNat = i.toNat + 1 by omega, List.take_add_one, h3]
      congr 1
      rw [List.getElem?_reverse (by omega), hx, show D.length - 1 - i.toNat = ((D.length : Int) - 1 - i).toNat by omega, List.getElem?_eq_getElem (by omega)]
      simp [List.getD, List.getElem?_eq_getElem (show ((D.length : Int) - 1 - i).toNat < D.length by omega)]
    · show k = i + 1
      rw [hk, List.length_append, q]; simp; omega
  have stop2 : ∀ i o, ok2 (i, o) → ¬ i < D.length → dgL o = D.reverse ∧ i = D.length := by
    intro i o h hp
    obtain ⟨h1, h2, h3, h4, h5⟩ := (eok2 _).1 h
    dsimp only at h1 h2 h3 h4 h5
    have q : D.reverse.take i.toNat = D.reverse := List.take_of_length_le (by rw [List.length_reverse]; omega)
    rw [q] at h3
    exact ⟨h3, by omega⟩
  have start2 : ok2 (0, none) := (eok2 _).2 ⟨Int.le_refl _, Int.natCast_nonneg _, by simp [dgL], rfl, fun _ => rfl⟩
  clear hr dl hl_ ml
  refine callsA_of hG hm Try.func117 (by kernel_rfl) ?_
  intro E hE lp hl
  cbv
  (first | (apply E_pcallX hE (c_Trim m hm_ hml); (case hm => rfl); (case hle => (repeat' (first | exact u_nil | apply u_cons | apply u2_agg | exact u2_int | exact u1_int | exact u2_bool | exact u1_bool | exact u2_sli | exact u1_sli | exact u2_s0 | exact u1_s0))); all_goals (first | (intro t ht; cbv) | (assumption))) | (apply E_callX hE (c_Trim m hm_ hml); (case hf => rfl); (case hc => (cbv <;> trivial)); (case hle => (repeat' (first | exact u_nil | apply u_cons | apply u2_agg | exact u2_int | exact u1_int | exact u2_bool | exact u1_bool | exact u2_sli | exact u1_sli | exact u2_s0 | exact u1_s0))); all_goals (first | (intro t ht; cbv) | (assumption))))
  refine E_br hE (fun g0 => ?_) (fun g0 => ?_) <;> cbv
  · have z : N = 0 := by
      subst hE
      have g0 : (t.length : Int) = 0 := eql_t g0
      rw [ht, hN] at g0
      exact lim_eq_nil.1 (List.length_eq_zero_iff.1 (by omega))
    rw [← r0 z]; rfl
  have n0 : N ≠ 0 := by
    subst hE
    intro z
    have g0 : ¬ (t.length : Int) = 0 := eql_f g0
    apply g0; rw [ht, hN, z]; rfl
  have dn := dne n0
  have fn := fin n0
  rw [hN] at ht
  refine E_loopM hE hG hm hl dgS ms ok ⟨(t, none), [], start _ ht, stLeM trivial rfl rfl rfl trivial ?_⟩ ?_
  · (repeat' (first | exact m_nil | refine m_consA (ms_le rfl rfl) rfl ?_ | refine m_cons ?_ rfl ?_ | exact u2_int | exact u2_bool | exact u2_sli | exact (rfl : sle2 .s0 .s0) | exact (rfl : sle2 (.ptr 1 2 (.l 0) 0) (.ptr 1 2 (.l 0) 0))))
  rintro ⟨a, (_ | ⟨l, k⟩)⟩ hok
  · have nx := next a none hok
    have bd := bnd a none hok
    have sp := stop a none hok
    clear next bnd start stop hok ht g0
    cbv
    refine E_br hE (fun g => ?_) (fun g => ?_) <;> cbv
    · have g' : 0 < a.length := by subst hE; have q : (0 : Int) < (a.length : Int) := gtr_t g; omega
      have nx := nx g'
      (first | (apply E_pcallX hE (c_divide a bd.1 bd.2.1); (case hm => rfl); (case hle => (repeat' (first | exact u_nil | apply u_cons | apply u2_agg | exact u2_int | exact u1_int | exact u2_bool | exact u1_bool | exact u2_sli | exact u1_sli | exact u2_s0 | exact u1_s0))); all_goals (first | (intro u hu; cbv) | (assumption))) | (apply E_callX hE (c_divide a bd.1 bd.2.1); (case hf => rfl); (case hc => (cbv <;> trivial)); (case hle => (repeat' (first | exact u_nil | apply u_cons | apply u2_agg | exact u2_int | exact u1_int | exact u2_bool | exact u1_bool | exact u2_sli | exact u1_sli | exact u2_s0 | exact u1_s0))); all_goals (first | (intro u hu; cbv) | (assumption))))
      refine E_nm hE (fun v hv => ?_); cbv
      have e1 : u.1 = lim (lv a / 10) := by rw [hu]
      have e2 : E.sub [E.bin .add .u8 48 (E.conv .u8 v)] 0 1 = [IntKind.u8.wrap (48 + IntKind.u8.wrap ((lv a % 10 : Nat) : Int))] := by subst hE; rw [hv, hu]; rfl
      have q := nx _ rfl
      refine ⟨(u.1, some (E.sub [E.bin .add .u8 48 (E.conv .u8 v)] 0 1, 1)), [1], ?_, ?_, stLeM ⟨rfl, trivial⟩ rfl rfl rfl trivial ?_⟩
      · rw [e1, e2]; exact q.1
      · rw [e1, e2]; exact q.2
      · (repeat' (first | exact m_nil | refine m_consA (ms_le rfl rfl) rfl ?_ | refine m_cons ?_ rfl ?_ | exact u2_int | exact u2_bool | exact u2_sli | exact (rfl : sle2 .s0 .s0) | exact (rfl : sle2 (.ptr 1 2 (.l 0) 0) (.ptr 1 2 (.l 0) 0))))
    · exfalso
      subst hE
      have g' : ¬ 0 < a.length := by have q : ¬ (0 : Int) < (a.length : Int) := gtr_f g; omega
      have := (sp g').1
      rw [← this] at dn
      exact absurd dn (by decide)
  · have nx := next a (some (l, k)) hok
    have bd := bnd a (some (l, k)) hok
    have sp := stop a (some (l, k)) hok
    have sl : (l.drop (0 : Int).toNat).take k.toNat = l := dg_sub bd.2.2.2.2
    clear next bnd start stop hok ht g0
    cbv
    refine E_br hE (fun g => ?_) (fun g => ?_) <;> cbv
    · have g' : 0 < a.length := by subst hE; have q : (0 : Int) < (a.length : Int) := gtr_t g; omega
      have nx := nx g'
      (first | (apply E_pcallX hE (c_divide a bd.1 bd.2.1); (case hm => rfl); (case hle => (repeat' (first | exact u_nil | apply u_cons | apply u2_agg | exact u2_int | exact u1_int | exact u2_bool | exact u1_bool | exact u2_sli | exact u1_sli | exact u2_s0 | exact u1_s0))); all_goals (first | (intro u hu; cbv) | (assumption))) | (apply E_callX hE (c_divide a bd.1 bd.2.1); (case hf => rfl); (case hc => (cbv <;> trivial)); (case hle => (repeat' (first | exact u_nil | apply u_cons | apply u2_agg | exact u2_int | exact u1_int | exact u2_bool | exact u1_bool | exact u2_sli | exact u1_sli | exact u2_s0 | exact u1_s0))); all_goals (first | (intro u hu; cbv) | (assumption))))
      refine E_nm hE (fun v hv => ?_); cbv
      have e1 : u.1 = lim (lv a / 10) := by rw [hu]
      have e2 : E.app (E.sub l 0 k) (E.sub [E.bin .add .u8 48 (E.conv .u8 v)] 0 1) = l ++ [IntKind.u8.wrap (48 + IntKind.u8.wrap ((lv a % 10 : Nat) : Int))] := by
        subst hE; rw [hv, hu]; show (l.drop (0 : Int).toNat).take k.toNat ++ _ = _; rw [sl]; rfl
      have e3 : E.plus k 1 = k + 1 := by subst hE; rfl
      have q := nx _ rfl
      refine E_br hE (fun g2 => ?_) (fun g2 => ?_) <;> cbv
      · refine ⟨(u.1, some (E.app (E.sub l 0 k) (E.sub [E.bin .add .u8 48 (E.conv .u8 v)] 0 1), E.plus k 1)), [2], ?_, ?_, stLeM ⟨rfl, trivial⟩ rfl rfl rfl trivial ?_⟩
        · rw [e1, e2, e3]; exact q.1
        · rw [e1, e2, e3]; exact q.2
        · (repeat' (first | exact m_nil | refine m_consA (ms_le rfl rfl) rfl ?_ | refine m_cons ?_ rfl ?_ | exact u2_int | exact u2_bool | exact u2_sli | exact (rfl : sle2 .s0 .s0) | exact (rfl : sle2 (.ptr 1 2 (.l 0) 0) (.ptr 1 2 (.l 0) 0))))
      · subst hE
        have g2 := leq_f g2
        have b := bd.2.2.2.1
        apply g2
        show k + 1 ≤ 17179869184
        have b : k < 17179869184 := b
        omega
    · have g' : ¬ 0 < a.length := by subst hE; have q : ¬ (0 : Int) < (a.length : Int) := gtr_f g; omega
      have spg := sp g'
      have el : l = D := spg.1
      have ek : k = (D.length : Int) := spg.2
      have bk : k < 17179869184 := bd.2.2.2.1
      clear nx sp spg bd sl hm_ hml g g'
      subst el
      refine E_loopM hE hG hm hl (dgT l k) ms2 ok2 ⟨(0, none), [0, 1], start2, stLeM ⟨rfl, rfl, trivial⟩ rfl rfl rfl ⟨rfl, trivial⟩ ?_⟩ ?_
      · (repeat' (first | exact m_nil | refine m_consA (ms_le rfl rfl) rfl ?_ | refine m_cons ?_ rfl ?_ | exact u2_int | exact u2_bool | exact u2_sli | exact (rfl : sle2 .s0 .s0) | exact (rfl : sle2 (.ptr 1 2 (.l 0) 0) (.ptr 1 2 (.l 0) 0))))
      rintro ⟨i, (_ | ⟨B, j⟩)⟩ hok
      · have nx := next2 i none hok
        have sp := stop2 i none hok
        have bd := bnd2 i none hok
        clear next2 stop2 start2 bnd2
        cbv
        refine E_br hE (fun g => ?_) (fun g => ?_) <;> cbv
        · have g' : i < (l.length : Int) := by subst hE; exact Int.lt_of_lt_of_le (lss_t g) (Int.le_of_eq ek)
          refine E_nm hE (fun v hv => ?_); cbv
          have nx := nx g' (l.getD (IntKind.i64.wrap (IntKind.i64.wrap ((l.length : Int) - 1) - i)).toNat 0) rfl
          have ix : E.bin .sub .i64 (E.bin .sub .i64 k 1) v = IntKind.i64.wrap (IntKind.i64.wrap ((l.length : Int) - 1) - i) := by rw [hv, ek]; subst hE; rfl
          have gt : E.get l (E.bin .sub .i64 (E.bin .sub .i64 k 1) v) = l.getD (IntKind.i64.wrap (IntKind.i64.wrap ((l.length : Int) - 1) - i)).toNat 0 := by rw [ix]; subst hE; rfl
          have ai : E.bin .add .i64 i 1 = IntKind.i64.wrap (i + 1) := by subst hE; rfl
          refine E_br hE (fun b1 => ?_) (fun b1 => ?_) <;> cbv
          · refine E_br hE (fun b2 => ?_) (fun b2 => ?_) <;> cbv
            · refine E_callH hE (h_wb0 l _) ?_
              intro v1 h1 e1
              obtain ⟨L, e2, e3⟩ := e1.2
              rw [e2]
              cbv
              refine ⟨(E.bin .add .i64 i 1, some (L, 1)), [0, 1, 2], ?_, ?_, stLeM ⟨rfl, rfl, rfl, trivial⟩ rfl rfl rfl ⟨rfl, trivial⟩ ?_⟩
              · rw [e3, gt, ai]; exact (nx 1 rfl).2.2.1
              · rw [e3, gt, ai]; exact (nx 1 rfl).2.2.2
              · (repeat' (first | exact m_nil | refine m_consA (ms_le rfl rfl) rfl ?_ | refine m_cons ?_ rfl ?_ | exact u2_int | exact u2_bool | exact u2_sli | exact (rfl : sle2 .s0 .s0) | exact (rfl : sle2 (.ptr 1 2 (.l 0) 0) (.ptr 1 2 (.l 0) 0))))
            · subst hE
              have b2 := lss_f b2
              rw [ix, ek] at b2
              exact b2 (nx _ rfl).2.1
          · subst hE
            have b1 := leq_f b1
            rw [ix] at b1
            exact b1 (nx _ rfl).1
        · have g' : ¬ i < (l.length : Int) := by subst hE; exact fun z => lss_f g (Int.lt_of_lt_of_le z (Int.le_of_eq ek.symm))
          have sp := sp g'
          exfalso
          have q : ([] : List Int) = l.reverse := sp.1
          rw [← List.length_reverse, ← q] at dn
          exact absurd dn (by decide)
      · have nx := next2 i (some (B, j)) hok
        have sp := stop2 i (some (B, j)) hok
        have bd := bnd2 i (some (B, j)) hok
        have ej : j = (B.length : Int) := bd.2.2.1
        clear next2 stop2 start2 bnd2
        cbv
        refine E_br hE (fun g => ?_) (fun g => ?_) <;> cbv
        · have g' : i < (l.length : Int) := by subst hE; exact Int.lt_of_lt_of_le (lss_t g) (Int.le_of_eq ek)
          refine E_nm hE (fun v hv => ?_); cbv
          have nx := nx g' (l.getD (IntKind.i64.wrap (IntKind.i64.wrap ((l.length : Int) - 1) - i)).toNat 0) rfl
          have ix : E.bin .sub .i64 (E.bin .sub .i64 k 1) v = IntKind.i64.wrap (IntKind.i64.wrap ((l.length : Int) - 1) - i) := by rw [hv, ek]; subst hE; rfl
          have gt : E.get l (E.bin .sub .i64 (E.bin .sub .i64 k 1) v) = l.getD (IntKind.i64.wrap (IntKind.i64.wrap ((l.length : Int) - 1) - i)).toNat 0 := by rw [ix]; subst hE; rfl
          have ai : E.bin .add .i64 i 1 = IntKind.i64.wrap (i + 1) := by subst hE; rfl
          refine E_br hE (fun b1 => ?_) (fun b1 => ?_) <;> cbv
          · refine E_br hE (fun b2 => ?_) (fun b2 => ?_) <;> cbv
            · refine E_callH hE (h_wb1 l B _ j ej (Int.lt_of_le_of_lt bd.2.2.2 (by rw [← ek]; exact bk))) ?_
              intro v1 h1 e1
              obtain ⟨L, j2, e2, e3, e4⟩ := e1.2
              rw [e2]
              cbv
              refine ⟨(E.bin .add .i64 i 1, some (L, j2)), [0, 1, 3], ?_, ?_, stLeM ⟨rfl, rfl, rfl, trivial⟩ rfl rfl rfl ⟨rfl, trivial⟩ ?_⟩
              · rw [e3] at e4 ⊢; rw [gt] at e4 ⊢; rw [ai]; exact (nx j2 e4).2.2.1
              · rw [e3] at e4 ⊢; rw [gt] at e4 ⊢; rw [ai]; exact (nx j2 e4).2.2.2
              · (repeat' (first | exact m_nil | refine m_consA (ms_le rfl rfl) rfl ?_ | refine m_cons ?_ rfl ?_ | exact u2_int | exact u2_bool | exact u2_sli | exact (rfl : sle2 .s0 .s0) | exact (rfl : sle2 (.ptr 1 2 (.l 0) 0) (.ptr 1 2 (.l 0) 0))))
            · subst hE
              have b2 := lss_f b2
              rw [ix, ek] at b2
              exact b2 (nx _ rfl).2.1
          · subst hE
            have b1 := leq_f b1
            rw [ix] at b1
            exact b1 (nx _ rfl).1
        · have g' : ¬ i < (l.length : Int) := by subst hE; exact fun z => lss_f g (Int.lt_of_lt_of_le z (Int.le_of_eq ek.symm))
          have sp := sp g'
          have q : B = l.reverse := sp.1
          refine E_callH hE (h_string [.ints true .u8 l, .rows true 2 BD [[.ptr 1 2 (.l 0) 0, .ms 2 1 (.l 0) (.s j)]], .ints true .u8 B] 1 2 _ true BD true (.s j) B rfl rfl ej ?_ ?_ ?_) ?_
          · rw [q, List.length_reverse]; exact dn
          · show (B.length : Int) ≤ 17179869184
            rw [q, List.length_reverse]; exact Int.le_trans (Int.le_of_eq ek.symm) (Int.le_of_lt bk)
          · intro x hx
            rw [q] at hx
            exact dby x (List.mem_reverse.1 hx)
          · intro v1 h1 e1
            have fn' : byteArr B = r := by rw [q]; exact fn
            rw [e1.1, e1.2, fn']
            cbv

end Go.Proofs.Ytaiillbjhdoikaa.Ev

/- Contracts: what is left of limbs. Printed by gen.py. -/
namespace Go.Proofs.Ytaiillbjhdoikaa.Ev
open Go Go.Proofs
set_option linter.unusedVariables false
set_option linter.unusedSimpArgs false


attribute [local irreducible] Lb
end Go.Proofs.Ytaiillbjhdoikaa.Ev

/- Contracts: whole numbers, by their values. Printed by gen.py. -/
namespace Go.Proofs.Ytaiillbjhdoikaa.Ev
open Go Go.Proofs
set_option linter.unusedVariables false
set_option linter.unusedSimpArgs false

attribute [local irreducible] Lb
/-- the value of a whole number -/
def wv (na : Bool) (a : List Int) : Int := if na then -(lv a : Int) else lv a
/-- a whole number, as it may be -/
def whN (z : Int) : Bool × List Int := (decide (z < 0), lim z.natAbs)
theorem whN_of (na : Bool) (n : Nat) : (na && decide (n ≠ 0), lim n) = whN (if na then -(n : Int) else n) := by
  unfold whN
  cases na
  · simp only [Bool.false_and, Bool.false_eq_true, if_false]
    rw [decide_eq_false (by omega), Int.natAbs_natCast]
  · simp only [Bool.true_and, if_true]
    rw [Int.natAbs_neg, Int.natAbs_natCast]
    congr 1
    apply decide_eq_decide.2; omega
theorem wv_whN (z : Int) : wv (whN z).1 (whN z).2 = z := by
  unfold wv whN
  simp only [lv_lim, decide_eq_true_eq]
  split <;> omega
theorem whN_lb (z : Int) : Lb (whN z).2 := lim_lb _
theorem c_wCmp (na : Bool) (a : List Int) (nb : Bool) (b : List Int) (ha : Lb a) (hb : Lb b) (hla : a.length < 67108864) (hlb : b.length < 67108864) :
    ∃ t : Int, t = (if wv na a < wv nb b then -1 else if wv nb b < wv na a then 1 else 0) ∧ CallsA Try.prog 13 [.agg [.bool (.s na), .sli .u32 a], .agg [.bool (.s nb), .sli .u32 b]] (.int .i64 (.s t)) := by
  refine ⟨_, rfl, ?_⟩
  generalize hr : (if wv na a < wv nb b then -1 else if wv nb b < wv na a then 1 else 0 : Int) = r
  have la : a.length ≤ 268435456 := by omega
  have lb : b.length ≤ 268435456 := by omega
  have one : ∀ x y : Int, x = (if lv a = 0 then 0 else if na then -1 else 1) → y = (if lv b = 0 then 0 else if nb then -1 else 1) → x < y → -1 = r := by
    intro x y hx hy h; rw [← hr]; unfold wv; subst hx hy
    cases na <;> cases nb <;> simp at h ⊢ <;> repeat' (first | omega | split at h | split)
  have two : ∀ x y : Int, x = (if lv a = 0 then 0 else if na then -1 else 1) → y = (if lv b = 0 then 0 else if nb then -1 else 1) → y < x → 1 = r := by
    intro x y hx hy h; rw [← hr]; unfold wv; subst hx hy
    cases na <;> cases nb <;> simp at h ⊢ <;> repeat' (first | omega | split at h | split)
  have three : ∀ x y c : Int, x = (if lv a = 0 then 0 else if na then -1 else 1) → y = (if lv b = 0 then 0 else if nb then -1 else 1) → ¬ x < y → ¬ y < x → c = (if lv a < lv b then -1 else if lv b < lv a then 1 else 0) → IntKind.i64.wrap (x * c) = r := by
    intro x y c hx hy h h' hc
    have e : x * c = r := by
      rw [← hr]; unfold wv; subst hx hy hc
      cases na <;> cases nb <;> simp at h h' ⊢ <;> repeat' (first | omega | split at h | split at h' | split)
    rw [e]
    rw [← hr]; split
    · rfl
    · split <;> rfl
  clear hr
  refine callsA_of hG hm Try.func13 (by kernel_rfl) ?_
  intro E hE lp hl'
  cbv
  (first | (apply E_pcallX hE (c_wSign na a ha hla); (case hm => rfl); (case hle => (repeat' (first | exact u_nil | apply u_cons | apply u2_agg | exact u2_int | exact u1_int | exact u2_bool | exact u1_bool | exact u2_sli | exact u1_sli | exact u2_s0 | exact u1_s0))); all_goals (first | (intro x hx; cbv) | (assumption))) | (apply E_callX hE (c_wSign na a ha hla); (case hf => rfl); (case hc => (cbv <;> trivial)); (case hle => (repeat' (first | exact u_nil | apply u_cons | apply u2_agg | exact u2_int | exact u1_int | exact u2_bool | exact u1_bool | exact u2_sli | exact u1_sli | exact u2_s0 | exact u1_s0))); all_goals (first | (intro x hx; cbv) | (assumption))))
  (first | (apply E_pcallX hE (c_wSign nb b hb hlb); (case hm => rfl); (case hle => (repeat' (first | exact u_nil | apply u_cons | apply u2_agg | exact u2_int | exact u1_int | exact u2_bool | exact u1_bool | exact u2_sli | exact u1_sli | exact u2_s0 | exact u1_s0))); all_goals (first | (intro y hy; cbv) | (assumption))) | (apply E_callX hE (c_wSign nb b hb hlb); (case hf => rfl); (case hc => (cbv <;> trivial)); (case hle => (repeat' (first | exact u_nil | apply u_cons | apply u2_agg | exact u2_int | exact u1_int | exact u2_bool | exact u1_bool | exact u2_sli | exact u1_sli | exact u2_s0 | exact u1_s0))); all_goals (first | (intro y hy; cbv) | (assumption))))
  have hx : x = (if lv a = 0 then 0 else if na then -1 else 1) := hx
  have hy : y = (if lv b = 0 then 0 else if nb then -1 else 1) := hy
  (try (refine E_nm hE (fun x1 e1 => ?_); cbv))
  (try (refine E_nm hE (fun y1 e2 => ?_); cbv))
  have hx1 : x1 = (if lv a = 0 then 0 else if na then -1 else 1) := e1.trans hx
  have hy1 : y1 = (if lv b = 0 then 0 else if nb then -1 else 1) := e2.trans hy
  refine E_br hE (fun g => ?_) (fun g => ?_) <;> cbv
  · rw [← one x1 y1 hx1 hy1 (by subst hE; exact lss_t g)]
  have g1 : ¬ x1 < y1 := by subst hE; exact lss_f g
  refine E_br hE (fun g => ?_) (fun g => ?_) <;> cbv
  · rw [← two x1 y1 hx1 hy1 (by subst hE; exact gtr_t g)]
  have g2 : ¬ y1 < x1 := by subst hE; exact gtr_f g
  (first | (apply E_pcallX hE (c_natCmp a b ha hb la lb); (case hm => rfl); (case hle => (repeat' (first | exact u_nil | apply u_cons | apply u2_agg | exact u2_int | exact u1_int | exact u2_bool | exact u1_bool | exact u2_sli | exact u1_sli | exact u2_s0 | exact u1_s0))); all_goals (first | (intro c hc; cbv) | (assumption))) | (apply E_callX hE (c_natCmp a b ha hb la lb); (case hf => rfl); (case hc => (cbv <;> trivial)); (case hle => (repeat' (first | exact u_nil | apply u_cons | apply u2_agg | exact u2_int | exact u1_int | exact u2_bool | exact u1_bool | exact u2_sli | exact u1_sli | exact u2_s0 | exact u1_s0))); all_goals (first | (intro c hc; cbv) | (assumption))))
  (try (refine E_nm hE (fun z ez => ?_); cbv))
  refine ez.trans ?_
  have k := three x1 y1 c hx1 hy1 g1 g2 hc
  rw [← k]; subst hE; rfl

end Go.Proofs.Ytaiillbjhdoikaa.Ev

/- Contracts of decimal.Make and decimal.May: a number times a power of ten. Printed by gen.py. -/
namespace Go.Proofs.Ytaiillbjhdoikaa.Ev
open Go Go.Proofs
set_option linter.unusedVariables false
set_option linter.unusedSimpArgs false

attribute [local irreducible] Lb
/-- how many noughts there are at the end -/
def t10 (n : Nat) : Nat := if h : 0 < n ∧ n % 10 = 0 then t10 (n / 10) + 1 else 0
termination_by n
decreasing_by omega
theorem t10_go {n : Nat} (h : 0 < n) (h2 : n % 10 = 0) : t10 n = t10 (n / 10) + 1 := by rw [t10, dif_pos ⟨h, h2⟩]
theorem t10_stop {n : Nat} (h2 : n % 10 ≠ 0) : t10 n = 0 := by rw [t10, dif_neg (fun k => h2 k.2)]
theorem t10_spec : ∀ (n : Nat), 0 < n → n / 10 ^ t10 n * 10 ^ t10 n = n ∧ n / 10 ^ t10 n % 10 ≠ 0 ∧ 10 ^ t10 n ≤ n := by
  intro n
  induction n using Nat.strongRecOn with
  | ind n ih =>
    intro h
    by_cases k : n % 10 = 0
    · rw [t10_go h k]
      obtain ⟨i1, i2, i3⟩ := ih (n / 10) (by omega) (by omega)
      rw [Nat.pow_succ, Nat.mul_comm (10 ^ _) 10, ← Nat.div_div_eq_div_mul]
      refine ⟨?_, i2, by omega⟩
      rw [Nat.mul_left_comm, i1]; omega
    · rw [t10_stop k]
      simp; omega
theorem t10_le {n k : Nat} (h0 : 0 < n) (h : n < 10 ^ k) : t10 n < k := by
  have := (t10_spec n h0).2.2
  rcases Nat.lt_or_ge (t10 n) k with j | j
  · exact j
  · have : (10 : Nat) ^ k ≤ 10 ^ t10 n := Nat.pow_le_pow_right (by decide) j
    omega
/-- a number times a power of ten, of which all tens are taken; or none -/
def decMake (neg : Bool) (N : Nat) (tens : Int) : (Bool × List Int × Int) × Int :=
  if N = 0 then ((false, [], 0), 0)
  else if 1000000 < tens ∨ tens < -1000000 then ((false, [], 0), 1)
  else if tens + t10 N < -400 ∨ 400 < tens + t10 N ∨ 5 < (lim (N / 10 ^ t10 N)).length ∨ 40 < (decS (N / 10 ^ t10 N)).length then ((false, [], 0), 1)
  else ((neg, lim (N / 10 ^ t10 N), tens + t10 N), 0)
def dmS (neg : Bool) : Int × List Int × Int × List Int → St
  | (tens, q, d, m) => ⟨[(1, .int .i64 (.s tens)), (2, .ptr 0 2 (.l 0) 0), (4, .ptr 1 3 (.l 0) 0), (6, .sli .u32 q), (7, .int .u32 (.s d))],
      [.rows true 2 [.bool (.l false), .s0] [[.bool (.s neg), .sli .u32 m]], .rows true 3 [.bool (.l false), .s0, .int .i64 (.l 0)] [[.bool (.l false), .s0, .int .i64 (.l 0)]]]⟩
theorem len0 {l : List Int} (h : (l.length : Int) = 0) : l.length = 0 := by omega
theorem lim_len_le {k : Nat} {m : List Int} (h : Lb m) (hk : k ≤ lv m) : (lim k).length ≤ m.length := lim_length_le (by have := lv_lt h; omega)
set_option maxHeartbeats 2000000 in
theorem c_decMake (neg : Bool) (m : List Int) (tens : Int) (hm_ : Lb m) (hl_ : m.length < 33554432) (ht0 : -9223372036854775808 ≤ tens) (ht1 : tens < 9223372036854775808) :
    ∃ t : (Bool × List Int × Int) × Int, t = decMake neg (lv m) tens ∧
    CallsA Try.prog 74 [.agg [.bool (.s neg), .sli .u32 m], .int .i64 (.s tens)] (.tup [.agg [.bool (.s t.1.1), .sli .u32 t.1.2.1, .int .i64 (.s t.1.2.2)], .int .i64 (.s t.2)]) := by
  refine ⟨_, rfl, ?_⟩
  generalize hr : decMake neg (lv m) tens = r
  obtain ⟨N, hN⟩ : ∃ N, lv m = N := ⟨_, rfl⟩
  have hml : m.length ≤ 268435456 := by omega
  rw [hN] at hr
  have bad0 : N = 0 → r = ((false, [], 0), 0) := by intro h; rw [← hr]; unfold decMake; rw [if_pos h]
  have bad1 : N ≠ 0 → (1000000 < tens ∨ tens < -1000000) → r = ((false, [], 0), 1) := by intro h g; rw [← hr]; unfold decMake; rw [if_neg h, if_pos g]
  have tl : N ≠ 0 → t10 N ≤ 10 * m.length := by
    intro h
    have := lv_lt hm_
    have e : (4294967296 : Nat) ^ m.length ≤ 10 ^ (10 * m.length) := by rw [Nat.pow_mul]; exact Nat.pow_le_pow_left (by decide) _
    exact Nat.le_of_lt (t10_le (by omega) (by omega))
  have ll : ∀ k, k ≤ N → (lim k).length < 33554432 := by intro k h; have := lim_len_le hm_ (k := k) (by omega); omega
  obtain ⟨ms, em⟩ : ∃ ms : Int × List Int × Int × List Int → Nat, ∀ p, ms p = lv p.2.2.2 := ⟨_, fun _ => rfl⟩
  obtain ⟨ok, eok⟩ : ∃ ok : Int × List Int × Int × List Int → Prop, ∀ p, ok p ↔ (∃ M j : Nat, 0 < M ∧ M = N / 10 ^ j ∧ M ≤ N ∧ t10 N = j + t10 M ∧ p.1 = tens + j ∧ p.2.1 = lim (M / 10) ∧ p.2.2.1 = ((M % 10 : Nat) : Int) ∧ p.2.2.2 = lim M) := ⟨_, fun _ => Iff.rfl⟩
  have start : N ≠ 0 → ∀ x q d, x = lim N → q = lim (lv x / 10) → d = ((lv x % 10 : Nat) : Int) → ok (tens, q, d, x) := by
    intro h x q d hx hq hd
    refine (eok _).2 ⟨N, 0, by omega, by simp, Nat.le_refl _, by simp, by simp, ?_, ?_, hx⟩
    · dsimp only; rw [hq, hx, lv_lim]
    · dsimp only; rw [hd, hx, lv_lim]
  have next : N ≠ 0 → ¬ (1000000 < tens ∨ tens < -1000000) → ∀ t q d x, ok (t, q, d, x) → d = 0 → ∀ q' d', q' = lim (lv q / 10) → d' = ((lv q % 10 : Nat) : Int) →
      Lb q ∧ q.length < 33554432 ∧ ms (IntKind.i64.wrap (t + 1), q', d', q) < ms (t, q, d, x) ∧ ok (IntKind.i64.wrap (t + 1), q', d', q) := by
    intro h g t q d x hok hd0 q' d' hq hd
    obtain ⟨M, j, k1, k2, k3, k4, k5, k6, k7, k8⟩ := (eok _).1 hok
    dsimp only at k5 k6 k7 k8
    have e : M % 10 = 0 := by omega
    have b := tl h
    have g2 := t10_go k1 e
    rw [k6, lv_lim] at hq hd
    rw [wi64_in (by omega) (by omega)]
    refine ⟨by rw [k6]; exact lim_lb _, by rw [k6]; exact ll _ (by omega), by rw [em, em]; dsimp only; rw [k6, k8, lv_lim, lv_lim]; omega, (eok _).2 ⟨M / 10, j + 1, by omega, ?_, by omega, by omega, by dsimp only; omega, hq, hd, k6⟩⟩
    rw [k2, Nat.div_div_eq_div_mul, Nat.pow_succ]
  have stop : N ≠ 0 → ¬ (1000000 < tens ∨ tens < -1000000) → ∀ t q d x, ok (t, q, d, x) → d ≠ 0 → Lb x ∧ x.length < 33554432 ∧
      ((t < -400 ∨ 400 < t ∨ (5 : Int) < x.length ∨ (40 : Int) < (byteArr (decS (lv x))).size) → r = ((false, [], 0), 1)) ∧ (¬ (t < -400 ∨ 400 < t ∨ (5 : Int) < x.length ∨ (40 : Int) < (byteArr (decS (lv x))).size) → r = ((neg, x, t), 0)) := by
    intro h g t q d x hok hd0
    obtain ⟨M, j, k1, k2, k3, k4, k5, k6, k7, k8⟩ := (eok _).1 hok
    dsimp only at k5 k6 k7 k8
    have e : M % 10 ≠ 0 := by omega
    rw [t10_stop e, Nat.add_zero] at k4
    rw [← k4] at k2 k5
    rw [byteArr_size]
    refine ⟨by rw [k8]; exact lim_lb _, by rw [k8]; exact ll _ k3, fun z => ?_, fun z => ?_⟩
    · rw [← hr]; unfold decMake; rw [if_neg h, if_neg g, if_pos]
      rw [← k2, ← k8]; rw [k8, lv_lim, ← k8] at z; rw [← k5]; omega
    · rw [← hr]; unfold decMake; rw [if_neg h, if_neg g, if_neg, ← k2, ← k8, ← k5]
      rw [← k2, ← k8]; rw [k8, lv_lim, ← k8] at z; rw [← k5]; omega
  clear hr tl eok
  refine callsA_of hG hm Try.func74 (by kernel_rfl) ?_
  intro E hE lp hl
  cbv
  (first | (apply E_pcallX hE (c_wMake neg m hm_ hml); (case hm => rfl); (case hle => (repeat' (first | exact u_nil | apply u_cons | apply u2_agg | exact u2_int | exact u1_int | exact u2_bool | exact u1_bool | exact u2_sli | exact u1_sli | exact u2_s0 | exact u1_s0))); all_goals (first | (intro w hw; cbv) | (assumption))) | (apply E_callX hE (c_wMake neg m hm_ hml); (case hf => rfl); (case hc => (cbv <;> trivial)); (case hle => (repeat' (first | exact u_nil | apply u_cons | apply u2_agg | exact u2_int | exact u1_int | exact u2_bool | exact u1_bool | exact u2_sli | exact u1_sli | exact u2_s0 | exact u1_s0))); all_goals (first | (intro w hw; cbv) | (assumption))))
  have W : w = (neg && decide (N ≠ 0), lim N) := by
    have k : w = (neg && decide (lv m ≠ 0), lim (lv m)) := hw
    rw [hN] at k; exact k
  clear hw
  (try (refine E_nm hE (fun v hv => ?_); cbv))
  refine E_br hE (fun g0 => ?_) (fun g0 => ?_) <;> cbv
  · have z : N = 0 := by
      subst hE
      have g0 : (w.2.length : Int) = 0 := eql_t g0
      rw [W] at g0
      exact lim_eq_nil.1 (List.length_eq_zero_iff.1 (len0 g0))
    rw [bad0 z]; exact ⟨⟨rfl, rfl, rfl, trivial⟩, rfl, trivial⟩
  have n0 : N ≠ 0 := by
    subst hE
    intro z
    have g0 : ¬ (w.2.length : Int) = 0 := eql_f g0
    apply g0; rw [W, z]; rfl
  have w1 : w.1 = neg := by rw [W]; simp [n0]
  have w2 : w.2 = lim N := by rw [W]
  have wb : Lb w.2 ∧ w.2.length < 33554432 := by rw [w2]; exact ⟨lim_lb _, ll _ (Nat.le_refl _)⟩
  clear W ll g0 bad0
  refine E_br hE (fun g1 => ?_) (fun g1 => ?_) <;> cbv
  · have g1 : 1000000 < tens := by subst hE; exact gtr_t g1
    rw [bad1 n0 (.inl g1)]; exact ⟨⟨rfl, rfl, rfl, trivial⟩, rfl, trivial⟩
  refine E_br hE (fun g2 => ?_) (fun g2 => ?_) <;> cbv
  · have g2 : tens < -1000000 := by subst hE; exact lss_t g2
    rw [bad1 n0 (.inr g2)]; exact ⟨⟨rfl, rfl, rfl, trivial⟩, rfl, trivial⟩
  have g3 : ¬ (1000000 < tens ∨ tens < -1000000) := by
    subst hE
    rintro (z | z)
    · exact gtr_f g1 z
    · exact lss_f g2 z
  clear bad1 g1 g2
  (first | (apply E_pcallX hE (c_divide w.2 wb.1 wb.2); (case hm => rfl); (case hle => (repeat' (first | exact u_nil | apply u_cons | apply u2_agg | exact u2_int | exact u1_int | exact u2_bool | exact u1_bool | exact u2_sli | exact u1_sli | exact u2_s0 | exact u1_s0))); all_goals (first | (intro u hu; cbv) | (assumption))) | (apply E_callX hE (c_divide w.2 wb.1 wb.2); (case hf => rfl); (case hc => (cbv <;> trivial)); (case hle => (repeat' (first | exact u_nil | apply u_cons | apply u2_agg | exact u2_int | exact u1_int | exact u2_bool | exact u1_bool | exact u2_sli | exact u1_sli | exact u2_s0 | exact u1_s0))); all_goals (first | (intro u hu; cbv) | (assumption))))
  refine E_nm hE (fun v hv => ?_); cbv
  have st := start n0 w.2 u.1 v w2 (by rw [hu]) (by rw [hv, hu])
  refine E_loopM hE hG hm hl (dmS w.1) ms ok ⟨(tens, u.1, v, w.2), [0, 1], st, stLeM ⟨rfl, rfl, trivial⟩ rfl rfl rfl ⟨rfl, rfl, trivial⟩ ?_⟩ ?_
  · (repeat' (first | exact m_nil | refine m_cons ?_ rfl ?_ | exact u2_int | exact u2_bool | exact u2_sli | exact (rfl : sle2 (.ptr 0 2 (.l 0) 0) (.ptr 0 2 (.l 0) 0)) | exact (rfl : sle2 (.ptr 1 3 (.l 0) 0) (.ptr 1 3 (.l 0) 0))))
  have nx := next n0 g3
  have sp := stop n0 g3
  clear next stop start st hu hv
  rintro ⟨t, q, d, x⟩ hok
  have nx := nx t q d x hok
  have sp := sp t q d x hok
  clear hok
  cbv
  refine E_br hE (fun g => ?_) (fun g => ?_) <;> cbv
  · have d0 : d = 0 := by subst hE; exact eql_t g
    have nx := nx d0
    have qb := nx _ _ rfl rfl
    refine E_nm hE (fun t1 ht1' => ?_); cbv
    (first | (apply E_pcallX hE (c_divide q qb.1 qb.2.1); (case hm => rfl); (case hle => (repeat' (first | exact u_nil | apply u_cons | apply u2_agg | exact u2_int | exact u1_int | exact u2_bool | exact u1_bool | exact u2_sli | exact u1_sli | exact u2_s0 | exact u1_s0))); all_goals (first | (intro u2 hu2; cbv) | (assumption))) | (apply E_callX hE (c_divide q qb.1 qb.2.1); (case hf => rfl); (case hc => (cbv <;> trivial)); (case hle => (repeat' (first | exact u_nil | apply u_cons | apply u2_agg | exact u2_int | exact u1_int | exact u2_bool | exact u1_bool | exact u2_sli | exact u1_sli | exact u2_s0 | exact u1_s0))); all_goals (first | (intro u2 hu2; cbv) | (assumption))))
    refine E_nm hE (fun v2 hv2 => ?_); cbv
    have et : t1 = IntKind.i64.wrap (t + 1) := by subst hE; exact ht1'
    have q2 := nx u2.1 v2 (by rw [hu2]) (by rw [hv2, hu2])
    refine ⟨(t1, u2.1, v2, q), [0, 1], ?_, ?_, stLeM ⟨rfl, rfl, trivial⟩ rfl rfl rfl ⟨rfl, rfl, trivial⟩ ?_⟩
    · rw [et]; exact q2.2.2.1
    · rw [et]; exact q2.2.2.2
    · (repeat' (first | exact m_nil | refine m_cons ?_ rfl ?_ | exact u2_int | exact u2_bool | exact u2_sli | exact (rfl : sle2 (.ptr 0 2 (.l 0) 0) (.ptr 0 2 (.l 0) 0)) | exact (rfl : sle2 (.ptr 1 3 (.l 0) 0) (.ptr 1 3 (.l 0) 0))))
  · have d0 : d ≠ 0 := by subst hE; exact eql_f g
    have sp := sp d0
    have xb := sp.1
    have xl := sp.2.1
    have s1 := sp.2.2.1
    have s2 := sp.2.2.2
    clear nx sp
    refine E_br hE (fun g1 => ?_) (fun g1 => ?_) <;> cbv
    · rw [s1 (.inl (by subst hE; exact lss_t g1))]; exact ⟨⟨rfl, rfl, rfl, trivial⟩, rfl, trivial⟩
    refine E_br hE (fun g2 => ?_) (fun g2 => ?_) <;> cbv
    · rw [s1 (.inr (.inl (by subst hE; exact gtr_t g2)))]; exact ⟨⟨rfl, rfl, rfl, trivial⟩, rfl, trivial⟩
    refine E_br hE (fun g4 => ?_) (fun g4 => ?_) <;> cbv
    · rw [s1 (.inr (.inr (.inl (by subst hE; exact gtr_t g4))))]; exact ⟨⟨rfl, rfl, rfl, trivial⟩, rfl, trivial⟩
    (first | (apply E_pcallX hE (c_Digits x xb xl); (case hm => rfl); (case hle => (repeat' (first | exact u_nil | apply u_cons | apply u2_agg | exact u2_int | exact u1_int | exact u2_bool | exact u1_bool | exact u2_sli | exact u1_sli | exact u2_s0 | exact u1_s0))); all_goals (first | (intro z hz; cbv) | (assumption))) | (apply E_callX hE (c_Digits x xb xl); (case hf => rfl); (case hc => (cbv <;> trivial)); (case hle => (repeat' (first | exact u_nil | apply u_cons | apply u2_agg | exact u2_int | exact u1_int | exact u2_bool | exact u1_bool | exact u2_sli | exact u1_sli | exact u2_s0 | exact u1_s0))); all_goals (first | (intro z hz; cbv) | (assumption))))
    refine E_br hE (fun g5 => ?_) (fun g5 => ?_) <;> cbv
    · rw [s1 (.inr (.inr (.inr (by rw [← hz]; subst hE; exact gtr_t g5))))]; exact ⟨⟨rfl, rfl, rfl, trivial⟩, rfl, trivial⟩
    · rw [s2 (by
        rw [← hz]
        subst hE
        rintro (k | k | k | k)
        · exact lss_f g1 k
        · exact gtr_f g2 k
        · exact gtr_f g4 k
        · exact gtr_f g5 k)]
      exact ⟨⟨w1, rfl, rfl, trivial⟩, rfl, trivial⟩

end Go.Proofs.Ytaiillbjhdoikaa.Ev

/- Contracts: the scale of fixed numbers, a number so many times; quotients of numbers above nought. Printed by gen.py. -/
namespace Go.Proofs.Ytaiillbjhdoikaa.Ev
open Go Go.Proofs
set_option linter.unusedVariables false
set_option linter.unusedSimpArgs false

attribute [local irreducible] Lb
def piOne : Nat := 2 ^ 192
theorem mulN (na : Bool) (a : List Int) (nb : Bool) (b : List Int) : ((na != nb) && decide (lv a * lv b ≠ 0), lim (lv a * lv b)) = whN (wv na a * wv nb b) := by
  rw [whN_of]; unfold wv; congr 1
  cases na <;> cases nb <;> simp [Int.neg_mul, Int.mul_neg, Int.neg_neg]
end Go.Proofs.Ytaiillbjhdoikaa.Ev

/- Contract of whole.May. Printed by gen.py. -/
namespace Go.Proofs.Ytaiillbjhdoikaa.Ev
open Go Go.Proofs
set_option linter.unusedVariables false
set_option linter.unusedSimpArgs false

attribute [local irreducible] Lb
def wMayB (neg : Bool) (m : List Int) : Bool := if m.length = 0 then !neg else decide (m.getD (m.length - 1) 0 ≠ 0)
theorem c_wMay (neg : Bool) (m : List Int) (hl_ : m.length < 4611686018427387904) : ∃ t : Bool, t = wMayB neg m ∧ CallsA Try.prog 75 [.agg [.bool (.s neg), .sli .u32 m]] (.bool (.s t)) := by
  refine ⟨_, rfl, ?_⟩
  generalize hr : wMayB neg m = r
  have z0 : (m.length : Int) = 0 → (!neg) = r := by intro h; rw [← hr]; unfold wMayB; rw [if_pos (by omega)]
  have z1 : ¬ (m.length : Int) = 0 → IntKind.i64.wrap ((m.length : Int) - 1) = (m.length : Int) - 1 ∧ 0 ≤ (m.length : Int) - 1 ∧ (m.length : Int) - 1 < m.length ∧ ∀ x : Bool, x = decide (m.getD ((m.length : Int) - 1).toNat 0 ≠ 0) → x = r := by
    intro h
    refine ⟨wi64_in (by omega) (by omega), by omega, by omega, fun x hx => ?_⟩
    rw [hx, ← hr]; unfold wMayB; rw [if_neg (by omega), show ((m.length : Int) - 1).toNat = m.length - 1 by omega]
  clear hr
  refine callsA_of hG hm Try.func75 (by kernel_rfl) ?_
  intro E hE lp hl
  cbv
  refine E_br hE (fun g => ?_) (fun g => ?_) <;> cbv
  · subst hE; exact z0 (eql_t g)
  · have z1 := z1 (by subst hE; exact eql_f g)
    have es : E.bin .sub .i64 (E.len m) 1 = (m.length : Int) - 1 := by subst hE; exact z1.1
    refine E_br hE (fun b1 => ?_) (fun b1 => ?_) <;> cbv
    · refine E_br hE (fun b2 => ?_) (fun b2 => ?_) <;> cbv
      · refine z1.2.2.2 _ ?_
        show E.cmp .neq (E.get m (E.bin .sub .i64 (E.len m) 1)) 0 = _
        rw [es]
        subst hE
        exact cmp_neq _ _
      · rw [es] at b2
        subst hE
        exact lss_f b2 z1.2.2.1
    · rw [es] at b1
      subst hE
      exact leq_f b1 z1.2.1

end Go.Proofs.Ytaiillbjhdoikaa.Ev

/- Contracts: decimal.May, powers of ten, decimal numbers rounded. Printed by gen.py. -/
namespace Go.Proofs.Ytaiillbjhdoikaa.Ev
open Go Go.Proofs
set_option linter.unusedVariables false
set_option linter.unusedSimpArgs false

attribute [local irreducible] Lb
/-- may a decimal number be? -/
def decMayB (neg : Bool) (m : List Int) (tens : Int) : Bool :=
  if m.length = 0 then (!neg && decide (tens = 0)) else (wMayB neg m && decide ((decMake neg (lv m) tens).2 = 0) && decide ((decMake neg (lv m) tens).1.2.2 = tens))
theorem decMay_ok {neg : Bool} {m : List Int} {tens : Int} (h : Lb m) (k : decMayB neg m tens = true) : m.length ≤ 5 ∧ -400 ≤ tens ∧ tens ≤ 400 ∧ m = lim (lv m) ∧ (lv m = 0 → neg = false ∧ tens = 0) ∧ (lv m ≠ 0 → (decS (lv m)).length ≤ 40 ∧ lv m % 10 ≠ 0) := by
  unfold decMayB at k
  split at k
  · rename_i h0
    have : m = [] := List.length_eq_zero_iff.1 h0
    subst this
    simp only [Bool.and_eq_true, Bool.not_eq_true', decide_eq_true_eq] at k
    exact ⟨by decide, by omega, by omega, rfl, fun _ => k, fun z => absurd rfl z⟩
  · rename_i h0
    simp only [Bool.and_eq_true, decide_eq_true_eq] at k
    obtain ⟨⟨k1, k2⟩, k3⟩ := k
    unfold wMayB at k1
    rw [if_neg h0] at k1
    have cn : Cn m := Cn.of_last h (fun _ => by simpa using k1)
    have e := cn.eq_lim
    have n0 : lv m ≠ 0 := by intro z; rw [z] at e; rw [e] at h0; exact h0 rfl
    unfold decMake at k2 k3
    rw [if_neg n0] at k2 k3
    split at k2
    · cases k2
    · rename_i g1
      rw [if_neg g1] at k3
      split at k2
      · cases k2
      · rename_i g2
        rw [if_neg g2] at k3
        have t0 : t10 (lv m) = 0 := by have : tens + (t10 (lv m) : Int) = tens := k3; omega
        have s := (t10_spec (lv m) (by omega)).2.1
        rw [t0] at g2 s
        simp only [Nat.pow_zero, Nat.div_one] at g2 s
        rw [← e] at g2
        exact ⟨by omega, by omega, by omega, e, fun z => absurd z n0, fun _ => ⟨by omega, s⟩⟩
set_option maxHeartbeats 1000000 in
theorem c_decMay (neg : Bool) (m : List Int) (tens : Int) (hm_ : Lb m) (hl_ : m.length < 33554432) (ht0 : -9223372036854775808 ≤ tens) (ht1 : tens < 9223372036854775808) :
    ∃ t : Bool, t = decMayB neg m tens ∧ CallsA Try.prog 33 [.agg [.bool (.s neg), .sli .u32 m, .int .i64 (.s tens)]] (.bool (.s t)) := by
  refine ⟨_, rfl, ?_⟩
  generalize hr : decMayB neg m tens = r
  have hl2 : m.length < 4611686018427387904 := by omega
  have z0 : (m.length : Int) = 0 → (!neg && decide (tens = 0)) = r := by intro h; rw [← hr]; unfold decMayB; rw [if_pos (by omega)]
  have z1 : ¬ (m.length : Int) = 0 → (wMayB neg m && decide ((decMake neg (lv m) tens).2 = 0) && decide ((decMake neg (lv m) tens).1.2.2 = tens)) = r := by intro h; rw [← hr]; unfold decMayB; rw [if_neg (by omega)]
  clear hr
  refine callsA_of hG hm Try.func33 (by kernel_rfl) ?_
  intro E hE lp hl
  cbv
  refine E_br hE (fun g => ?_) (fun g => ?_) <;> cbv
  · have z0 := z0 (by subst hE; exact eql_t g)
    refine E_br hE (fun b1 => ?_) (fun b1 => ?_) <;> cbv
    · rw [← z0]
      subst hE
      have b1 : (!neg) = true := b1
      rw [b1, Bool.true_and]
      exact cmp_eql _ _
    · rw [← z0]
      subst hE
      have b1 : (!neg) = false := b1
      rw [b1]; rfl
  · have z1 := z1 (by subst hE; exact eql_f g)
    (first | (apply E_pcallX hE (c_decMake neg m tens hm_ hl_ ht0 ht1); (case hm => rfl); (case hle => (repeat' (first | exact u_nil | apply u_cons | apply u2_agg | exact u2_int | exact u1_int | exact u2_bool | exact u1_bool | exact u2_sli | exact u1_sli | exact u2_s0 | exact u1_s0))); all_goals (first | (intro u hu; cbv) | (assumption))) | (apply E_callX hE (c_decMake neg m tens hm_ hl_ ht0 ht1); (case hf => rfl); (case hc => (cbv <;> trivial)); (case hle => (repeat' (first | exact u_nil | apply u_cons | apply u2_agg | exact u2_int | exact u1_int | exact u2_bool | exact u1_bool | exact u2_sli | exact u1_sli | exact u2_s0 | exact u1_s0))); all_goals (first | (intro u hu; cbv) | (assumption))))
    (try (refine E_nm hE (fun v hv => ?_); cbv))
    (first | (apply E_pcallX hE (c_wMay neg m hl2); (case hm => rfl); (case hle => (repeat' (first | exact u_nil | apply u_cons | apply u2_agg | exact u2_int | exact u1_int | exact u2_bool | exact u1_bool | exact u2_sli | exact u1_sli | exact u2_s0 | exact u1_s0))); all_goals (first | (intro w hw; cbv) | (assumption))) | (apply E_callX hE (c_wMay neg m hl2); (case hf => rfl); (case hc => (cbv <;> trivial)); (case hle => (repeat' (first | exact u_nil | apply u_cons | apply u2_agg | exact u2_int | exact u1_int | exact u2_bool | exact u1_bool | exact u2_sli | exact u1_sli | exact u2_s0 | exact u1_s0))); all_goals (first | (intro w hw; cbv) | (assumption))))
    rw [← hw, ← hu] at z1
    refine E_br hE (fun b1 => ?_) (fun b1 => ?_) <;> cbv
    · refine E_br hE (fun b2 => ?_) (fun b2 => ?_) <;> cbv
      · have b2 : u.2 = 0 := by rw [← hv]; subst hE; exact eql_t b2
        rw [b1, b2] at z1
        rw [← z1]
        subst hE
        simp only [Bool.true_and, decide_true]
        exact cmp_eql _ _
      · have b2 : ¬ u.2 = 0 := by rw [← hv]; subst hE; exact eql_f b2
        rw [decide_eq_false b2, Bool.and_false, Bool.false_and] at z1
        exact z1
    · rw [b1, Bool.false_and, Bool.false_and] at z1
      exact z1

end Go.Proofs.Ytaiillbjhdoikaa.Ev
