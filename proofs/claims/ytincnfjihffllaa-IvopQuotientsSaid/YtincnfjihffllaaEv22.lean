/- Loops whose rounds make memory of their own: it is let go behind each. -/
import Derived.Test.YtincnfjihffllaaEv21
namespace Go.Proofs.Ytincnfjihffllaa.Ev
open Go Go.RowKit
set_option linter.unusedVariables false
set_option linter.unusedSimpArgs false

/-- does it look only at the first so many blocks? -/
def in1 (k : Nat) : AV → Bool
  | .ms b _ _ _ => Nat.blt b k
  | .ptr b _ _ _ => Nat.blt b k
  | _ => true
def in2 (k : Nat) : AV → Bool
  | .agg cs => allB (in1 k) cs
  | .fn _ cs => allB (in1 k) cs
  | x => in1 k x
def in3 (k : Nat) : AV → Bool
  | .tup cs => allB (in2 k) cs
  | x => in2 k x

def takeB : Nat → List Blk → List Blk
  | 0, _ => []
  | _, [] => []
  | n + 1, c :: r => c :: takeB n r
theorem takeB_eq : ∀ (n : Nat) (l : List Blk), takeB n l = l.take n
  | 0, l => by simp [takeB]
  | n + 1, [] => by simp [takeB]
  | n + 1, c :: r => by simp [takeB, takeB_eq n r]

/-- what lies in the blocks looks only at the first so many -/
def blksIn (k : Nat) : List Blk → Prop
  | [] => True
  | .rows _ _ _ l :: r => allB (allB (in1 k)) l = true ∧ blksIn k r
  | _ :: r => blksIn k r

theorem blksIn_at {k : Nat} : ∀ {h : List Blk} {b : Nat} {w : Bool} {sz : Nat} {d : List AV} {l : List (List AV)}, blksIn k h → h[b]? = some (.rows w sz d l) → allB (allB (in1 k)) l = true
  | [], b, _, _, _, _, _, hb => by simp at hb
  | c :: r, 0, _, _, _, _, h, hb => by
    simp at hb
    subst hb
    exact h.1
  | c :: r, b + 1, _, _, _, _, h, hb => by
    have : blksIn k r := by cases c <;> first | exact h | exact h.2
    exact blksIn_at this (by simpa using hb)

section
variable {P : Program} {G : Nat → TI} {base : Nat} {O0 : Nat → Prop} {μ : Nat → Nat} {hp : List Blk} {w w' : World}

theorem wr_take {k b : Nat} (h : wrB (hp.take k) b = true) : wrB hp b = true := by
  unfold wrB at *
  rw [List.getElem?_take] at h
  split at h
  · exact h
  · simp [Blk.wr] at h
theorem dim_take {k b : Nat} {n : Nat × Nat} (h : dimB (hp.take k) b = some n) : dimB hp b = some n := by
  unfold dimB at *
  rw [List.getElem?_take] at h
  split at h
  · exact h
  · simp [Blk.dim] at h
theorem ok_take {k n : Nat} (h : okO base O0 μ hp w n) : okO base O0 μ (hp.take k) w n := by
  rcases h with h | ⟨h1, h2, h3⟩
  · exact .inl h
  · exact .inr ⟨h1, h2, fun b hb => h3 b (wr_take hb)⟩

theorem leaf_take {k : Nat} {c : AV} {v : Value} (h : LeafR (mkX base O0 μ hp w) c v) (hi : in1 k c = true) : LeafR (mkX base O0 μ (hp.take k) w) c v := by
  unfold LeafR at *
  split at h
  · obtain ⟨hb, h0, h1, A, cap, rfl, hle, hA, hd⟩ := h
    have hbk := Nat.le_of_ble_eq_true hi
    refine ⟨by simp [mkX] at hb ⊢; omega, h0, h1, A, cap, rfl, hle, hA, fun n s hn => hd n s (dim_take hn)⟩
  · obtain ⟨hb, h0, rfl, hd⟩ := h
    have hbk := Nat.le_of_ble_eq_true hi
    exact ⟨by simp [mkX] at hb ⊢; omega, h0, rfl, fun n s hn => hd n s (dim_take hn)⟩
  · exact RoV.mono (fun n hn => ok_take hn) (fun _ _ _ h => h) h

theorem agg_take {k : Nat} {c : AV} {v : Value} (h : AggR (mkX base O0 μ hp w) c v) (hi : in2 k c = true) : AggR (mkX base O0 μ (hp.take k) w) c v := by
  unfold AggR at *
  split at h
  · simp only [in2, allB_eq, List.all_eq_true] at hi
    obtain ⟨ys, rfl, hl, h⟩ := h
    exact ⟨ys, rfl, hl, fun j c hj => leaf_take (h j c hj) (hi c (List.mem_of_getElem? hj))⟩
  · simp only [in2, allB_eq, List.all_eq_true] at hi
    obtain ⟨ys, rfl, hl, h⟩ := h
    exact ⟨ys, rfl, hl, fun j c hj => leaf_take (h j c hj) (hi c (List.mem_of_getElem? hj))⟩
  · rename_i h1 h2
    exact leaf_take h (by unfold in2 at hi; split at hi <;> first | exact hi | (exfalso; first | exact h1 _ rfl | exact h2 _ _ rfl))

theorem rel_take {k : Nat} {c : AV} {v : Value} (h : RelV (mkX base O0 μ hp w) c v) (hi : in3 k c = true) : RelV (mkX base O0 μ (hp.take k) w) c v := by
  unfold RelV at *
  split at h
  · simp only [in3, allB_eq, List.all_eq_true] at hi
    obtain ⟨ys, rfl, hl, h⟩ := h
    exact ⟨ys, rfl, hl, fun j c hj => agg_take (h j c hj) (hi c (List.mem_of_getElem? hj))⟩
  · rename_i h1
    exact agg_take h (by unfold in3 at hi; split at hi <;> first | exact hi | (exfalso; exact h1 _ rfl))

theorem HR.take {k : Nat} (H : HR base O0 μ hp w) (hb : blksIn k (hp.take k)) : HR base O0 μ (hp.take k) w := by
  refine ⟨H.all, fun b x hx => ?_, fun b hd => ?_, fun b b' h1 h2 h3 => ?_⟩
  · have hx' : hp[b]? = some x := by
      rw [List.getElem?_take] at hx
      split at hx
      · exact hx
      · cases hx
    have := H.blk b x hx'
    cases x with
    | dead => trivial
    | ints wr kk l => exact this
    | rows wr sz d l =>
      obtain ⟨h1, c, e, h2, h3⟩ := this
      have hin := blksIn_at hb hx
      rw [allB_eq, List.all_eq_true] at hin
      refine ⟨h1, c, e, h2, fun i r hi => ⟨(h3 i r hi).1, fun j a hj => ?_⟩⟩
      obtain ⟨y, h4, h5⟩ := (h3 i r hi).2 j a hj
      have hr := hin r (List.mem_of_getElem? hi)
      rw [allB_eq, List.all_eq_true] at hr
      exact ⟨y, h4, leaf_take h5 (hr a (List.mem_of_getElem? hj))⟩
  · cases hn : dimB (hp.take k) b with
    | none => exact absurd hn hd
    | some n => exact H.low b (by rw [dim_take hn]; simp)
  · cases hn : dimB (hp.take k) b' with
    | none => exact absurd hn h2
    | some n => exact H.inj b b' (wr_take h1) (by rw [dim_take hn]; simp) h3

/-- A round's end is told as the next round's start. -/
def StLeW (s s' : St) : Prop := s'.h = takeB (lenB s'.h) s.h ∧ blksIn (lenB s'.h) s'.h ∧ ∀ u, AVle (lookT s.t u) (lookT s'.t u) ∧ in3 (lenB s'.h) (lookT s'.t u) = true

theorem SR.leW {I : X} {nt : Nat} {s s' : St} {a : Act} (R : SR base O0 I nt s μ a w) (h : StLeW s s') (hI : I.h.length ≤ s'.h.length) : SR base O0 I nt s' μ a w := by
  obtain ⟨h1, h2, h3⟩ := h
  rw [lenB_eq] at *
  rw [takeB_eq] at h1
  obtain ⟨t', h'⟩ := s'
  dsimp only at *
  generalize hk : h'.length = k at h1 h2 h3 hI
  subst h1
  refine ⟨R.size, R.defers, R.hr.take h2, fun u => rel_take ((h3 u).1 _ _ (R.tmps u)) (h3 u).2, ?_, R.below⟩
  have e := R.ext
  exact ⟨fun n hn => ok_take (e.o n hn), e.mu, (by show I.h.length ≤ (List.take k s.h).length; rw [hk]; exact hI), fun b hb n hn => e.dim b hb n (dim_take hn), e.cell, e.shape⟩

def leW (k : Nat) (t : List (Nat × AV)) : List (Nat × AV) → Prop
  | [] => True
  | (i, v) :: r => (sle2 (lookT t i) v ∧ in3 k v = true) ∧ leW k t r

theorem leW_spec {k : Nat} {t : List (Nat × AV)} : ∀ {t' : List (Nat × AV)}, leW k t t' → ∀ u, AVle (lookT t u) (lookT t' u) ∧ in3 k (lookT t' u) = true
  | [], _, u => ⟨AVle.un _, rfl⟩
  | (i, v) :: r, h, u => by
    simp only [lookT]
    cases hb : Nat.beq i u with
    | true =>
      have := Nat.eq_of_beq_eq_true hb
      subst this
      exact ⟨fun x val hv => rel_le h.1.1 hv, h.1.2⟩
    | false => exact leW_spec h.2 u

theorem stLeW {t t' : List (Nat × AV)} {h h' : List Blk} (e : h' = takeB (lenB h') h) (b : blksIn (lenB h') h') (l : leW (lenB h') t t') : StLeW ⟨t, h⟩ ⟨t', h'⟩ := ⟨e, b, leW_spec l⟩

theorem loopW_real {ι : Type} (hG : GOK P G) (hm : P.follows .mixedOrders = true) {nt : Nat} {lp : Code → St → (Ex → St → Prop) → Prop} (hlp : ∀ b s K, codeOK nt b = true → lp b s K → lpR P nt b s K) {b : Code} (hc : codeOK nt b = true)
    {s : St} {K : Ex → St → Prop} (S : ι → St) (m : ι → Nat) (ok : ι → Prop) (hlen : ∀ i, lenB (S i).h = lenB s.h) (h0 : ∃ i, ok i ∧ StLe s (S i))
    (hr : ∀ i, ok i → ev (realE P) G lp b (S i) (fun e s => match e with
      | .normal => ∃ j, m j < m i ∧ ok j ∧ StLeW s (S j)
      | .exit x => K (.exit x) s
      | .goto x => K (.goto x) s
      | .ret => K .ret s)) : lpR P nt b s K := by
  intro base O0 I μ a w R
  have hI : ∀ i, I.h.length ≤ (S i).h.length := by
    intro i
    have h1 := R.ext.len
    have h2 := hlen i
    rw [lenB_eq, lenB_eq] at h2
    simp only [mkX] at h1
    omega
  obtain ⟨i0, ho0, hl0⟩ := h0
  refine wp_loop_ghost (fun n a w => ∃ i μ, m i = n ∧ ok i ∧ SR base O0 I nt (S i) μ a w) (m i0) ⟨i0, μ, rfl, ho0, R.le hl0⟩ ?_
  rintro n a w ⟨i, μ, rfl, ho, R⟩
  refine wp_mono (ev_sound hG hm hlp b _ (S i) μ a w hc R (hr i ho)) ?_
  intro e a w hq
  cases e with
  | normal =>
    obtain ⟨s', μ', R', j, h1, h2, h3⟩ := hq
    exact ⟨m j, h1, j, μ', rfl, h2, R'.leW h3 (hI j)⟩
  | exit i => exact hq
  | goto i => exact hq
  | ret => exact hq
  | panic ch => exact hq.elim
  | outgrown => exact hq.elim

/-- A LOOP, of which each round's memory is let go behind it. -/
theorem E_loopW {ι : Type} {E : Env} (hE : E = realE P) (hG : GOK P G) (hm : P.follows .mixedOrders = true) {n : Nat} {lp : Code → St → (Ex → St → Prop) → Prop} (hlp : Loops P n lp) {b : Code} {s : St} {K : Ex → St → Prop}
    (S : ι → St) (m : ι → Nat) (ok : ι → Prop) (hlen : ∀ i, lenB (S i).h = lenB s.h) (h0 : ∃ i, ok i ∧ StLe s (S i))
    (hr : ∀ i, ok i → ev E G lp b (S i) (fun e s => match e with
      | .normal => ∃ j, m j < m i ∧ ok j ∧ StLeW s (S j)
      | .exit x => K (.exit x) s
      | .goto x => K (.goto x) s
      | .ret => K .ret s)) : lp b s K := by
  subst hE
  subst hlp
  intro hc
  exact loopW_real hG hm (lp := fun b s K => codeOK n b = true → lpR P n b s K) (fun b s K hc h => h hc) hc S m ok hlen h0 hr

theorem u2_ptr {b sz : Nat} {row : SI} {col : Nat} : sle2 (.ptr b sz row col) (.ptr b sz row col) := rfl
theorem u2_ms {b sz : Nat} {row len : SI} : sle2 (.ms b sz row len) (.ms b sz row len) := rfl
theorem u2_slc' {sz : Nat} {n : SI} {f : Nat → List AV} : sle2 (.slc sz n f) (.slc sz n f) := ⟨rfl, rfl, fun i _ => by
  generalize f i = l
  induction l with
  | nil => trivial
  | cons x r ih => exact ⟨by unfold sle0; split <;> simp_all, ih⟩⟩
theorem u2_str {s : ByteArray} : sle2 (.str s) (.str s) := rfl
theorem t_nil {t : List (Nat × AV)} : leT t [] := trivial
theorem t_cons {t : List (Nat × AV)} {i : Nat} {v : AV} {r : List (Nat × AV)} (h : sle2 (lookT t i) v) (k : leT t r) : leT t ((i, v) :: r) := ⟨h, k⟩
theorem w_nil {k : Nat} {t : List (Nat × AV)} : leW k t [] := trivial
theorem w_cons {k : Nat} {t : List (Nat × AV)} {i : Nat} {v : AV} {r : List (Nat × AV)} (h : sle2 (lookT t i) v) (h' : in3 k v = true) (q : leW k t r) : leW k t ((i, v) :: r) := ⟨⟨h, h'⟩, q⟩
end
end Go.Proofs.Ytincnfjihffllaa.Ev
