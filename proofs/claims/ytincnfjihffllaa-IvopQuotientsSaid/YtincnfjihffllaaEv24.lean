/- Regions with new variables, and with stores that may come early: every order of the tape's. -/
import Derived.Test.YtincnfjihffllaaEv23
namespace Go.Proofs.Ytincnfjihffllaa.Ev
open Go Go.RowKit
set_option linter.unusedVariables false
set_option linter.unusedSimpArgs false

/-- What is asked of such a region's text: n operations ahead; those behind come one behind the other. -/
def lateOKB (ops : Array Oper) (n : Nat) : Bool :=
  decide (n ≤ ops.size) &&
  (List.range ops.size).all (fun i => match ops[i]? with
    | some o => o.guard.isNone && o.after.toList.all (fun e => !Region.binds .any e || decide (e.on < i))
    | none => true) &&
  (List.range n).all (fun i => match ops[i]? with
    | some o => (List.range ops.size).all (fun j => match ops[j]? with
      | some o' => (decide (i = j) || o.dst.isNone || decide (o.dst ≠ o'.dst)) &&
          (o.looksAt ops).all (fun u => decide (o'.dst ≠ some u) || (bif decide (j < n) then Region.waitsFor .any ops i j else Region.waitsFor .any ops j i)) &&
          (decide (j < n) || ((!isAl o || Region.waitsFor .any ops j i) && (o'.looksAt ops).all (fun u => decide (o.dst ≠ some u) || Region.waitsFor .any ops j i)))
      | none => true)
    | none => true) &&
  (List.range ops.size).all (fun j => decide (j ≤ n) || Region.waitsFor .any ops j (j - 1))

structure LateOK (ops : Array Oper) (n : Nat) : Prop where
  le : n ≤ ops.size
  guard : ∀ (i : Nat) (o : Oper), ops[i]? = some o → o.guard = none
  back : ∀ (i : Nat) (o : Oper), ops[i]? = some o → ∀ e ∈ o.after, Region.binds .any e = true → e.on < i
  apart : ∀ (i j : Nat) (o o' : Oper), i < n → ops[i]? = some o → ops[j]? = some o' → i ≠ j → ∀ d, o.dst = some d → o'.dst ≠ some d
  looks : ∀ (i j : Nat) (o o' : Oper), i < n → j < n → ops[i]? = some o → ops[j]? = some o' → ∀ u ∈ o.looksAt ops, o'.dst = some u → Region.waitsFor .any ops i j = true
  hlooks : ∀ (i j : Nat) (o o' : Oper), i < n → n ≤ j → ops[i]? = some o → ops[j]? = some o' → ∀ u ∈ o.looksAt ops, o'.dst = some u → Region.waitsFor .any ops j i = true
  allocs : ∀ (i j : Nat) (o o' : Oper), i < n → n ≤ j → ops[i]? = some o → ops[j]? = some o' → isAl o = true → Region.waitsFor .any ops j i = true
  tlooks : ∀ (i j : Nat) (o o' : Oper), i < n → n ≤ j → ops[i]? = some o → ops[j]? = some o' → ∀ u ∈ o'.looksAt ops, o.dst = some u → Region.waitsFor .any ops j i = true
  chain : ∀ j, n < j → j < ops.size → Region.waitsFor .any ops j (j - 1) = true

theorem lateOK_of {ops : Array Oper} {n : Nat} (h : lateOKB ops n = true) : LateOK ops n := by
  simp only [lateOKB, Bool.and_eq_true, List.all_eq_true, List.mem_range, decide_eq_true_eq, Bool.or_eq_true] at h
  obtain ⟨⟨⟨h1, h2⟩, h3⟩, h4⟩ := h
  have two : ∀ (i j : Nat) (o o' : Oper), i < n → ops[i]? = some o → ops[j]? = some o' → _ := fun i j o o' hi ho ho' => by
    have hj := (Array.getElem?_eq_some_iff.1 ho').1
    have := h3 i hi
    rw [ho] at this
    simp only [List.all_eq_true, List.mem_range] at this
    have := this j hj
    rw [ho'] at this
    simp only [Bool.and_eq_true, Bool.or_eq_true, decide_eq_true_eq, List.all_eq_true] at this
    exact this
  have one : ∀ (i : Nat) (o : Oper), ops[i]? = some o → _ := fun i o ho => by
    have := h2 i (Array.getElem?_eq_some_iff.1 ho).1
    rw [ho] at this
    simp only [Bool.and_eq_true, List.all_eq_true, decide_eq_true_eq, Bool.or_eq_true, Bool.not_eq_true'] at this
    exact this
  refine ⟨h1, fun i o ho => ?_, fun i o ho e he hb => ?_, fun i j o o' hi ho ho' hne d hd hd' => ?_, fun i j o o' hi hj ho ho' u hu hd => ?_, fun i j o o' hi hj ho ho' u hu hd => ?_, fun i j o o' hi hj ho ho' ha => ?_,
    fun i j o o' hi hj ho ho' u hu hd => ?_, fun j hj hj' => ?_⟩
  · have := (one i o ho).1
    cases hg : o.guard with
    | none => rfl
    | some x => rw [hg] at this; cases this
  · rcases (one i o ho).2 e (by simpa using he) with h | h
    · rw [hb] at h; cases h
    · exact h
  · rcases (two i j o o' hi ho ho').1.1 with (h | h) | h
    · exact hne h
    · rw [hd] at h; cases h
    · exact h (by rw [hd, hd'])
  · rcases (two i j o o' hi ho ho').1.2 u hu with h | h
    · exact absurd hd h
    · rwa [decide_eq_true hj, cond_true] at h
  · rcases (two i j o o' hi ho ho').1.2 u hu with h | h
    · exact absurd hd h
    · rwa [decide_eq_false (by omega), cond_false] at h
  · rcases (two i j o o' hi ho ho').2 with h | h
    · omega
    · rcases h.1 with h | h
      · rw [ha] at h; cases h
      · exact h
  · rcases (two i j o o' hi ho ho').2 with h | h
    · omega
    · rcases h.2 u hu with h | h
      · exact absurd hd h
      · exact h
  · rcases h4 j hj' with h | h
    · omega
    · exact h

theorem isAl_iff {o : Oper} : isAl o = true ↔ ∃ ty, o.op = .alloc ty := by
  obtain ⟨dst, op, ty, pos, after, guard⟩ := o
  cases op <;> simp [isAl]

section
variable {P : Program} {G : Nat → TI} {base : Nat} {O0 : Nat → Prop} {μ : Nat → Nat} {hp : List Blk} {w w' : World}

/-- the tale of the operations ahead -/
inductive LPath (P : Program) (G : Nat → TI) (n0 : Nat) (hd : List Blk) : List Oper → List (Nat × AV) → List Blk → List (Nat × AV) → List Blk → Prop
  | nil (t : List (Nat × AV)) (h : List Blk) : LPath P G n0 hd [] t h t h
  | alloc (o : Oper) (r : List Oper) (t : List (Nat × AV)) (h : List Blk) (t2 : List (Nat × AV)) (h2 : List Blk) (ty d sz : Nat) (x : Blk) (ho : o.op = .alloc ty) (hd' : o.dst = some d) (hx : evAlloc G ty = some (sz, x))
      (hr : LPath P G n0 hd r ((d, .ptr (lenB h) sz (.l 0) 0) :: t) (appB h x) t2 h2) : LPath P G n0 hd (o :: r) t h t2 h2
  | pure (o : Oper) (r : List Oper) (t : List (Nat × AV)) (h : List Blk) (t2 : List (Nat × AV)) (h2 : List Blk) (v : AV) (ho : isAl o = false) (hv : evPure (realE P) G hd (opd t) o.op (fun v' => v' = v)) (hold : v.old n0 = true)
      (hr : LPath P G n0 hd r (putT t o.dst v) h t2 h2) : LPath P G n0 hd (o :: r) t h t2 h2

theorem lpath_of {n0 : Nat} {hd : List Blk} {K : List (Nat × AV) → List Blk → Prop} : ∀ (l : List Oper) (t : List (Nat × AV)) (h : List Blk), evLHead (realE P) G n0 hd l t h K → ∃ t2 h2, LPath P G n0 hd l t h t2 h2 ∧ K t2 h2
  | [], t, h, H => ⟨t, h, .nil t h, H⟩
  | o :: r, t, h, H => by
    unfold evLHead at H
    split at H
    · rename_i ty hop
      split at H
      · exact H.elim
      · rename_i d hdst
        split at H
        · exact H.elim
        · rename_i sz x hx
          obtain ⟨t2, h2, q1, q2⟩ := lpath_of r _ _ H
          exact ⟨t2, h2, .alloc o r t h t2 h2 ty d sz x hop hdst hx q1, q2⟩
    · rename_i hop
      obtain ⟨v, q1, q2⟩ := picks_pure _ H
      cases hb : AV.old n0 v with
      | false => rw [hb] at q1; exact q1.elim
      | true =>
        rw [hb, cond_true] at q1
        obtain ⟨t2, h2, q3, q4⟩ := lpath_of r _ _ q1
        refine ⟨t2, h2, .pure o r t h t2 h2 v ?_ q2 hb q3, q4⟩
        cases ha : isAl o with
        | false => rfl
        | true => obtain ⟨ty, e⟩ := isAl_iff.1 ha; exact absurd e (hop ty)

theorem lpath_look {n0 : Nat} {hd : List Blk} {l : List Oper} {t t2 : List (Nat × AV)} {h h2 : List Blk} (H : LPath P G n0 hd l t h t2 h2) : ∀ u, (∀ o ∈ l, o.dst ≠ some u) → lookT t2 u = lookT t u := by
  induction H with
  | nil t h => intro u _; rfl
  | alloc o r t h t2 h2 ty d sz x ho hd' hx hr ih =>
    intro u hu
    rw [ih u (fun o ho => hu o (by simp [ho]))]
    have : d ≠ u := fun e => hu o (by simp) (by rw [hd', e])
    exact lookT_put_ne (d := some d) (by simpa using this)
  | pure o r t h t2 h2 v ho hv hold hr ih =>
    intro u hu
    rw [ih u (fun o ho => hu o (by simp [ho]))]
    exact lookT_put_ne (hu o (by simp))

theorem lpath_len {n0 : Nat} {hd : List Blk} {l : List Oper} {t t2 : List (Nat × AV)} {h h2 : List Blk} (H : LPath P G n0 hd l t h t2 h2) :
    h2.length = h.length + (l.filter isAl).length ∧ ∀ s, s < h.length → h2[s]? = h[s]? := by
  induction H with
  | nil t h => exact ⟨by simp, fun _ _ => rfl⟩
  | alloc o r t h t2 h2 ty d sz x ho hd' hx hr ih =>
    rw [appB_eq] at ih
    refine ⟨?_, fun s hs => ?_⟩
    · rw [ih.1, List.filter_cons_of_pos (isAl_iff.2 ⟨ty, ho⟩)]; simp; omega
    · rw [ih.2 s (by simp; omega), List.getElem?_append_left hs]
  | pure o r t h t2 h2 v ho hv hold hr ih =>
    rw [List.filter_cons_of_neg (by simp [ho])]
    exact ih

def slotOf (n0 : Nat) (l : List Oper) (i : Nat) : Nat := n0 + ((l.take i).filter isAl).length

theorem slot_succ {n0 : Nat} {o : Oper} {r : List Oper} {i : Nat} : slotOf n0 (o :: r) (i + 1) = slotOf (n0 + (if isAl o then 1 else 0)) r i := by
  unfold slotOf
  rw [List.take_succ_cons]
  cases h : isAl o
  · rw [List.filter_cons_of_neg (by simp [h])]; simp
  · rw [List.filter_cons_of_pos h]; simp; omega
theorem slot_ge {n0 : Nat} {l : List Oper} {i : Nat} : n0 ≤ slotOf n0 l i := by unfold slotOf; omega
theorem slot_lt {l : List Oper} : ∀ {n0 i j : Nat} {o : Oper}, l[i]? = some o → isAl o = true → i < j → slotOf n0 l i < slotOf n0 l j := by
  induction l with
  | nil => intro n0 i j o h _ _; simp at h
  | cons a r ih =>
    intro n0 i j o h ha hij
    obtain ⟨j, rfl⟩ : ∃ k, j = k + 1 := ⟨j - 1, by omega⟩
    cases i with
    | zero =>
      simp at h; subst h
      rw [slot_succ, if_pos ha]
      have := slot_ge (n0 := n0 + 1) (l := r) (i := j)
      have e : slotOf n0 (a :: r) 0 = n0 := by simp [slotOf]
      omega
    | succ i =>
      rw [slot_succ, slot_succ]
      exact ih (by simpa using h) ha (by omega)
theorem slot_inj {l : List Oper} {n0 i j : Nat} {o o' : Oper} (h : l[i]? = some o) (ha : isAl o = true) (h' : l[j]? = some o') (ha' : isAl o' = true) (e : slotOf n0 l i = slotOf n0 l j) : i = j := by
  rcases Nat.lt_trichotomy i j with g | g | g
  · have := slot_lt (n0 := n0) h ha g; omega
  · exact g
  · have := slot_lt (n0 := n0) h' ha' g; omega

theorem lpath_alloc {n0 : Nat} {hd : List Blk} {l : List Oper} {t t2 : List (Nat × AV)} {h h2 : List Blk} (H : LPath P G n0 hd l t h t2 h2) :
    (∀ (i j : Nat) (o o' : Oper), l[i]? = some o → l[j]? = some o' → i < j → ∀ d, o.dst = some d → o'.dst ≠ some d) →
    ∀ (i : Nat) (o : Oper), l[i]? = some o → ∀ ty, o.op = .alloc ty → ∃ d sz x, o.dst = some d ∧ evAlloc G ty = some (sz, x) ∧ h2[slotOf h.length l i]? = some x ∧ lookT t2 d = .ptr (slotOf h.length l i) sz (.l 0) 0 := by
  induction H with
  | nil t h => intro _ i o hi; simp at hi
  | alloc o r t h t2 h2 ty d sz x ho hd' hx hr ih =>
    intro s2 i o' hi ty' hty
    cases i with
    | zero =>
      simp at hi
      subst hi
      have : ty' = ty := by rw [ho] at hty; cases hty; rfl
      subst this
      have e : slotOf h.length (o :: r) 0 = h.length := by simp [slotOf]
      rw [e]
      have L := lpath_len hr
      rw [appB_eq] at L
      refine ⟨d, sz, x, hd', hx, ?_, ?_⟩
      · rw [L.2 _ (by simp)]; simp
      · rw [lpath_look hr d (fun o' ho' => by
          obtain ⟨j, hj⟩ := List.getElem?_of_mem ho'
          exact s2 0 (j + 1) o o' rfl (by simpa using hj) (by omega) d hd')]
        rw [lenB_eq]
        exact lookT_put_eq (t := t) (d := d)
    | succ i =>
      rw [slot_succ, if_pos (isAl_iff.2 ⟨ty, ho⟩)]
      have := ih (fun i j a b h1 h2 h3 => s2 (i + 1) (j + 1) a b (by simpa using h1) (by simpa using h2) (by omega)) i o' (by simpa using hi) ty' hty
      rw [appB_eq] at this
      simpa using this
  | pure o r t h t2 h2 v ho hv hold hr ih =>
    intro s2 i o' hi ty' hty
    cases i with
    | zero =>
      simp at hi
      subst hi
      rw [isAl_iff.2 ⟨ty', hty⟩] at ho
      cases ho
    | succ i =>
      rw [slot_succ, if_neg (by simp [ho])]
      exact ih (fun i j a b h1 h2 h3 => s2 (i + 1) (j + 1) a b (by simpa using h1) (by simpa using h2) (by omega)) i o' (by simpa using hi) ty' hty

theorem lpath_pure {n0 : Nat} {hd : List Blk} {ops : Array Oper} {l : List Oper} {t t2 : List (Nat × AV)} {h h2 : List Blk} (H : LPath P G n0 hd l t h t2 h2) :
    (∀ (i j : Nat) (o o' : Oper), l[i]? = some o → l[j]? = some o' → i ≤ j → ∀ u ∈ o.looksAt ops, o'.dst ≠ some u) →
    (∀ (i j : Nat) (o o' : Oper), l[i]? = some o → l[j]? = some o' → i < j → ∀ d, o.dst = some d → o'.dst ≠ some d) →
    ∀ (i : Nat) (o : Oper), l[i]? = some o → isAl o = false → ∃ v t1, evPure (realE P) G hd (opd t1) o.op (fun v' => v' = v) ∧ v.old n0 = true ∧ (∀ u ∈ o.looksAt ops, lookT t1 u = lookT t2 u) ∧ ∀ d, o.dst = some d → lookT t2 d = v := by
  induction H with
  | nil t h => intro _ _ i o hi; simp at hi
  | alloc o r t h t2 h2 ty d sz x ho hd' hx hr ih =>
    intro s1 s2 i o' hi ha
    cases i with
    | zero =>
      simp at hi
      subst hi
      rw [isAl_iff.2 ⟨ty, ho⟩] at ha
      cases ha
    | succ i => exact ih (fun i j a b h1 h2 h3 => s1 (i + 1) (j + 1) a b (by simpa using h1) (by simpa using h2) (by omega)) (fun i j a b h1 h2 h3 => s2 (i + 1) (j + 1) a b (by simpa using h1) (by simpa using h2) (by omega)) i o' (by simpa using hi) ha
  | pure o r t h t2 h2 v ho hv hold hr ih =>
    intro s1 s2 i o' hi ha
    cases i with
    | zero =>
      simp at hi
      subst hi
      have later : ∀ u, (∀ o' ∈ r, o'.dst ≠ some u) → lookT t2 u = lookT (putT t o.dst v) u := lpath_look hr
      refine ⟨v, t, hv, hold, fun u hu => ?_, fun d hd' => ?_⟩
      · rw [later u (fun o' ho' => by
          obtain ⟨j, hj⟩ := List.getElem?_of_mem ho'
          exact s1 0 (j + 1) o o' rfl (by simpa using hj) (by omega) u hu)]
        exact (lookT_put_ne (s1 0 0 o o rfl rfl (Nat.le_refl _) u hu)).symm
      · rw [later d (fun o' ho' => by
          obtain ⟨j, hj⟩ := List.getElem?_of_mem ho'
          exact s2 0 (j + 1) o o' rfl (by simpa using hj) (by omega) d hd'), hd']
        exact lookT_put_eq
    | succ i => exact ih (fun i j a b h1 h2 h3 => s1 (i + 1) (j + 1) a b (by simpa using h1) (by simpa using h2) (by omega)) (fun i j a b h1 h2 h3 => s2 (i + 1) (j + 1) a b (by simpa using h1) (by simpa using h2) (by omega)) i o' (by simpa using hi) ha

/-- the tale of the operations behind -/
inductive TPath (P : Program) (G : Nat → TI) (n0 : Nat) (ds : List Nat) : List Oper → St → St → Prop
  | nil (s : St) : TPath P G n0 ds [] s s
  | assign (o : Oper) (r : List Oper) (s s2 : St) (y : Operand) (d : Nat) (v : AV) (ho : o.op = .assign y) (hd : o.dst = some d) (hv : evPure (realE P) G s.h (opd s.t) o.op (fun v' => v' = v))
      (hr : TPath P G n0 ds r ⟨(d, v) :: s.t, s.h⟩ s2) : TPath P G n0 ds (o :: r) s s2
  | store (o : Oper) (r : List Oper) (s s2 : St) (ty : TypeId) (p y : Operand) (b sz : Nat) (row : SI) (col : Nat) (h' : List Blk) (ho : o.op = .store ty p y) (hd : o.dst = none) (hp : opd s.t p = .ptr b sz row col)
      (hb : n0 ≤ b ∨ b ∈ ds) (hs : store (realE P) G s.h ty (.ptr b sz row col) (opd s.t y) (fun h => h = h')) (hr : TPath P G n0 ds r ⟨s.t, h'⟩ s2) : TPath P G n0 ds (o :: r) s s2

theorem picks_store {h : List Blk} {ty : Nat} {p v : AV} {K : List Blk → Prop} (H : store (realE P) G h ty p v K) : ∃ h', K h' ∧ store (realE P) G h ty p v (fun h'' => h'' = h') := by
  unfold store at H ⊢
  split at H
  · exact H.elim
  · unfold storeAs at H ⊢
    split at H
    · split at H
      · split at H
        · generalize hc : (_ && _ && _ : Bool) = c at H ⊢
          cases c
          · exact H.elim
          · exact ⟨_, H, rfl⟩
        · exact H.elim
      · generalize hc : (_ && _ && _ && _ : Bool) = c at H ⊢
        cases c
        · exact H.elim
        · exact ⟨_, H, rfl⟩
      · exact H.elim
    · exact H.elim

theorem setBlk_len (h : List Blk) (b : Nat) (x : Blk) : (setBlk h b x).length = h.length := by rw [setBlk_eq]; simp
theorem setBlk_ne {h : List Blk} {b b' : Nat} {x : Blk} (e : b' ≠ b) : (setBlk h b x)[b']? = h[b']? := by rw [setBlk_eq, List.getElem?_set_ne (Ne.symm e)]

theorem store_other {h h' : List Blk} {ty : Nat} {b sz : Nat} {row : SI} {col : Nat} {v : AV} (H : store (realE P) G h ty (.ptr b sz row col) v (fun h'' => h'' = h')) : h'.length = h.length ∧ ∀ b', b' ≠ b → h'[b']? = h[b']? := by
  unfold store at H
  split at H
  · exact H.elim
  · unfold storeAs at H
    dsimp only at H
    split at H
    · split at H
      · generalize hc : (_ && _ && _ : Bool) = c at H
        cases c
        · exact H.elim
        · rw [← show _ = h' from H]; exact ⟨setBlk_len _ _ _, fun b' e => setBlk_ne e⟩
      · exact H.elim
    · generalize hc : (_ && _ && _ && _ : Bool) = c at H
      cases c
      · exact H.elim
      · rw [← show _ = h' from H]; exact ⟨setBlk_len _ _ _, fun b' e => setBlk_ne e⟩
    · exact H.elim

theorem tpath_of {n0 : Nat} {ds : List Nat} {K : St → Prop} : ∀ (l : List Oper) (s : St), evLTail (realE P) G n0 ds l s K → ∃ s2, TPath P G n0 ds l s s2 ∧ K s2
  | [], s, H => ⟨s, .nil s, H⟩
  | o :: r, s, H => by
    unfold evLTail at H
    split at H
    · rename_i y hop
      split at H
      · exact H.elim
      · rename_i d hdst
        obtain ⟨v, q1, q2⟩ := picks_pure _ H
        obtain ⟨s2, q3, q4⟩ := tpath_of r _ q1
        exact ⟨s2, .assign o r s s2 y d v hop hdst (by rw [hop]; exact q2) q3, q4⟩
    · rename_i ty a x hop
      split at H
      · exact H.elim
      · rename_i hdst
        split at H
        · rename_i b sz row col hpt
          cases hb : (Nat.ble n0 b || anyB (Nat.beq b) ds) with
          | false => rw [hb] at H; exact H.elim
          | true =>
            rw [hb, cond_true] at H
            obtain ⟨h', q1, q2⟩ := picks_store H
            obtain ⟨s2, q3, q4⟩ := tpath_of r _ q1
            refine ⟨s2, .store o r s s2 ty a x b sz row col h' hop hdst hpt ?_ q2 q3, q4⟩
            rw [Bool.or_eq_true] at hb
            rcases hb with hb | hb
            · exact .inl (Nat.le_of_ble_eq_true hb)
            · obtain ⟨y, hy, e⟩ := anyB_spec.1 hb
              rw [Nat.eq_of_beq_eq_true e]
              exact .inr hy
        · exact H.elim
    · exact H.elim

theorem killAll_get : ∀ (ds : List Nat) (h : List Blk) (b : Nat), getBlk (killAll h ds) b = .dead ∨ (b ∉ ds ∧ getBlk (killAll h ds) b = getBlk h b)
  | [], h, b => .inr ⟨by simp, rfl⟩
  | d :: ds, h, b => by
    rcases killAll_get ds (setBlk h d .dead) b with g | ⟨g1, g2⟩
    · exact .inl g
    · by_cases e : b = d
      · left
        show getBlk (killAll (setBlk h d .dead) ds) b = .dead
        rw [g2, getBlk_eq, setBlk_eq, e]
        by_cases hl : d < h.length
        · simp [hl]
        · rw [List.getElem?_eq_none (by simp; omega)]; rfl
      · right
        refine ⟨by simp [e, g1], ?_⟩
        show getBlk (killAll (setBlk h d .dead) ds) b = _
        rw [g2, getBlk_eq, getBlk_eq, setBlk_ne e]

theorem alloc_run (hG : GOK P G) {t : Nat} {sz : Nat} {x : Blk} (h : evAlloc G t = some (sz, x)) : ∃ cells z, x = .rows true sz z [z] ∧ z.length = sz ∧ (∀ a ∈ z, AV.old1 0 a = true) ∧ (∀ X, CellsR X z cells) ∧
    ∀ w : World, (Instr.alloc t true (.tuple #[])).run P w = .ok (.pointer (some ⟨w.heap.size, 0, none⟩)) (pushW w (.cells cells t)) := by
  unfold evAlloc at h
  split at h
  · cases h
  · cases h
  · rename_i k sz' by_ z fl hne1 hne2 hk
    cases hb : Nat.beq (lenC z) sz' && allB AV.leaf z && allB (AV.old1 0) z with
    | false => rw [hb] at h; cases h
    | true =>
      rw [hb, cond_true] at h
      simp only [Option.some.injEq, Prod.mk.injEq] at h
      obtain ⟨rfl, rfl⟩ := h
      simp only [Bool.and_eq_true, allB_eq, List.all_eq_true] at hb
      have hl := Nat.eq_of_beq_eq_true hb.1.1
      rw [lenC_eq] at hl
      obtain ⟨i, d, v, T⟩ := hG.tok hk (fun e => hne1 e)
      refine ⟨v.cells, z, rfl, hl, hb.2, fun X => zero_cells T, fun w => ?_⟩
      have hzr : (zeroValue t).run P w = .ok v w := by simp [zeroValue, run_typeInfo' T.info, T.zer]
      simp only [Instr.alloc, Sem.run_bind, hzr, Result.andThen_ok, run_newVar, Sem.run_pure]
end
end Go.Proofs.Ytincnfjihffllaa.Ev
