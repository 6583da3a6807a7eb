/- A region whose order the tape picks: one walk in the text's order serves every order. -/
import Derived.Test.YtincnfjihffllaaEv15
namespace Go.Proofs.Ytincnfjihffllaa.Ev
open Go Go.RowKit
set_option linter.unusedVariables false
set_option linter.unusedSimpArgs false

section
variable {P : Program} {G : Nat → TI} {base : Nat} {O0 : Nat → Prop} {μ : Nat → Nat} {hp : List Blk} {w w' : World}

/-- What is asked of a region's text: the first n operations hold their values apart, each looks only at what it waits for; those behind wait for all, one behind the other. -/
def drawB (ops : Array Oper) (n : Nat) : Bool :=
  (List.range ops.size).all (fun i => match ops[i]? with
    | some o => o.after.toList.all (fun e => !Region.binds .any e || decide (e.on < i))
    | none => true) &&
  (List.range n).all (fun i => match ops[i]? with
    | some o => (List.range n).all (fun j => match ops[j]? with
      | some o' => (decide (i = j) || o.dst.isNone || decide (o.dst ≠ o'.dst)) &&
          (o.looksAt ops).all (fun u => decide (o'.dst ≠ some u) || Region.waitsFor .any ops i j)
      | none => true)
    | none => true) &&
  decide (n ≤ ops.size) &&
  (decide (n = ops.size) || (Region.sinkB .any ops n && Region.chainB .any ops n)) &&
  Region.seqB .any ops (ops.size - n) n ((Array.range ops.size).map (fun i => decide (i < n)))

structure DrawOK (ops : Array Oper) (n : Nat) : Prop where
  back : ∀ (i : Nat) (o : Oper), ops[i]? = some o → ∀ e ∈ o.after, Region.binds .any e = true → e.on < i
  apart : ∀ (i j : Nat) (o o' : Oper), i < n → j < n → ops[i]? = some o → ops[j]? = some o' → i ≠ j → ∀ d, o.dst = some d → o'.dst ≠ some d
  looks : ∀ (i j : Nat) (o o' : Oper), i < n → j < n → ops[i]? = some o → ops[j]? = some o' → ∀ u ∈ o.looksAt ops, o'.dst = some u → Region.waitsFor .any ops i j = true
  le : n ≤ ops.size
  tail : n = ops.size ∨ (Region.sinkB .any ops n = true ∧ Region.chainB .any ops n = true)
  seq : Region.seqB .any ops (ops.size - n) n ((Array.range ops.size).map (fun i => decide (i < n))) = true

theorem drawOK_of {ops : Array Oper} {n : Nat} (h : drawB ops n = true) : DrawOK ops n := by
  simp only [drawB, Bool.and_eq_true, List.all_eq_true, List.mem_range, decide_eq_true_eq, Bool.or_eq_true] at h
  obtain ⟨⟨⟨⟨h1, h2⟩, h3⟩, h4⟩, h5⟩ := h
  refine ⟨fun i o ho e he hbi => ?_, fun i j o o' hi hj ho ho' hne d hd hd' => ?_, fun i j o o' hi hj ho ho' u hu hd => ?_, h3, h4, h5⟩
  · have hlt := (Array.getElem?_eq_some_iff.1 ho).1
    have := h1 i hlt
    rw [ho] at this
    simp only [List.all_eq_true, decide_eq_true_eq, Bool.or_eq_true, Bool.not_eq_true'] at this
    rcases this e (by simpa using he) with h | h
    · rw [hbi] at h; cases h
    · exact h
  · have := h2 i hi
    rw [ho] at this
    simp only [List.all_eq_true, List.mem_range] at this
    have := this j hj
    rw [ho'] at this
    simp only [Bool.and_eq_true, Bool.or_eq_true, decide_eq_true_eq] at this
    rcases this.1 with (h | h) | h
    · exact hne h
    · rw [hd] at h; cases h
    · exact h (by rw [hd, hd'])
  · have := h2 i hi
    rw [ho] at this
    simp only [List.all_eq_true, List.mem_range] at this
    have := this j hj
    rw [ho'] at this
    simp only [Bool.and_eq_true, Bool.or_eq_true, decide_eq_true_eq, List.all_eq_true] at this
    rcases this.2 u hu with h | h
    · exact absurd hd h
    · exact h

/-- what one operation ahead of the stores does, in whatever order, told by what stands at the end -/
def Does (P : Program) (base : Nat) (O0 : Nat → Prop) (μ : Nat → Nat) (hp : List Blk) (ops : Array Oper) (o : Oper) (t2 : List (Nat × AV)) : Prop :=
  ∀ (w : World) (a : Act), HR base O0 μ hp w → (∀ u, u ∈ o.looksAt ops → RelV (mkX base O0 μ hp w) (lookT t2 u) (a.tmps.getD u undef)) →
    (Region.wanted o (yielded ops a.tmps) = true ∧ ∀ (Q : Exit → Act → World → Prop), o.wp P a w (fun a' w' => ∃ val, a' = a.put o.dst val ∧ Below w.heap.size w w' ∧ ∀ d, o.dst = some d → RelV (mkX base O0 μ hp w') (lookT t2 d) val) Q) ∨
    (Region.wanted o (yielded ops a.tmps) = false ∧ ∀ d, o.dst = some d → RelV (mkX base O0 μ hp w) (lookT t2 d) undef)

theorem eval_looks {x : X} {ops : Array Oper} {o : Oper} {t : List (Nat × AV)} {a : Act} (h : ∀ u, u ∈ o.looksAt ops → RelV x (lookT t u) (a.tmps.getD u undef)) : ∀ y, y ∈ o.op.operands.toList → RelV x (opd t y) (a.eval y) := by
  intro y hy
  cases y with
  | tmp u =>
    refine h u ?_
    simp only [Oper.looksAt, List.mem_append, List.mem_filterMap]
    exact .inl ⟨_, hy, rfl⟩
  | const v => exact ofConst_rel v
  | global g => exact RoV.un _
  | func f => exact ⟨#[], rfl, rfl, fun j c hj => by simp at hj⟩

theorem path_does (hG : GOK P G) {ops : Array Oper} {l : List Oper} {t t2 : List (Nat × AV)} (h : Path P G hp ops l t t2) :
    (∀ (i j : Nat) (o o' : Oper), l[i]? = some o → l[j]? = some o' → i ≤ j → ∀ u ∈ o.looksAt ops, o'.dst ≠ some u) →
    (∀ (i j : Nat) (o o' : Oper), l[i]? = some o → l[j]? = some o' → i < j → ∀ d, o.dst = some d → o'.dst ≠ some d) →
    ∀ (i : Nat) (o : Oper), l[i]? = some o → Does P base O0 μ hp ops o t2 := by
  induction h with
  | nil t => intro _ _ i o hi; simp at hi
  | go o r t t1 t2 v hA hW hv hr ih =>
    intro s1 s2 i o' hi
    cases i with
    | succ i => exact ih (fun i j a b h1 h2 h3 => s1 (i + 1) (j + 1) a b (by simpa using h1) (by simpa using h2) (by omega)) (fun i j a b h1 h2 h3 => s2 (i + 1) (j + 1) a b (by simpa using h1) (by simpa using h2) (by omega)) i o' (by simpa using hi)
    | zero =>
      simp at hi
      subst hi
      have hlook : ∀ u, u ∈ o.looksAt ops → Alike t1 t2 u := by
        intro u hu
        have h1 := path_alike hr u (fun o' ho' => by
          obtain ⟨j, hj⟩ := List.getElem?_of_mem ho'
          exact s1 0 (j + 1) o o' rfl (by simpa using hj) (by omega) u hu)
        intro x val
        have := h1 x val
        rwa [lookT_put_ne (s1 0 0 o o rfl rfl (Nat.le_refl _) u hu)] at this
      intro w a H hrel
      have hrel1 : ∀ u, u ∈ o.looksAt ops → RelV (mkX base O0 μ hp w) (lookT t1 u) (a.tmps.getD u undef) := fun u hu => ((hlook u hu) _ _).2 (hrel u hu)
      refine .inl ⟨hW _ a hrel1, fun Q => ?_⟩
      have hdst : ∀ d, o.dst = some d → ∀ (x : X) (val : Value), RelV x v val → RelV x (lookT t2 d) val := by
        intro d hd x val hval
        have h1 := path_alike hr d (fun o' ho' => by
          obtain ⟨j, hj⟩ := List.getElem?_of_mem ho'
          exact s2 0 (j + 1) o o' rfl (by simpa using hj) (by omega) d hd)
        have := h1 x val
        rw [hd, lookT_put_eq] at this
        exact this.1 hval
      obtain ⟨v', rfl, hout⟩ := evPure_sound hG H (ev := a.eval) (eval_looks hrel1) hv
      rcases hout with ⟨val, w', h1, h2, h3⟩ | ⟨f, args, h1, h2⟩
      · exact wp_value h1 ⟨val, rfl, h2, fun d hd => hdst d hd _ _ h3⟩
      · unfold Oper.wp
        rw [h1]
        refine h2.mono ?_
        rintro e w' ⟨val, rfl, hb, hv⟩
        exact ⟨val, rfl, hb, fun d hd => hdst d hd _ _ hv⟩
  | skip o r t t1 t2 hA hW hr ih =>
    intro s1 s2 i o' hi
    cases i with
    | succ i => exact ih (fun i j a b h1 h2 h3 => s1 (i + 1) (j + 1) a b (by simpa using h1) (by simpa using h2) (by omega)) (fun i j a b h1 h2 h3 => s2 (i + 1) (j + 1) a b (by simpa using h1) (by simpa using h2) (by omega)) i o' (by simpa using hi)
    | zero =>
      simp at hi
      subst hi
      have hlook : ∀ u, u ∈ o.looksAt ops → Alike t1 t2 u := by
        intro u hu
        have h1 := path_alike hr u (fun o' ho' => by
          obtain ⟨j, hj⟩ := List.getElem?_of_mem ho'
          exact s1 0 (j + 1) o o' rfl (by simpa using hj) (by omega) u hu)
        intro x val
        have := h1 x val
        rwa [lookT_put_ne (s1 0 0 o o rfl rfl (Nat.le_refl _) u hu)] at this
      intro w a H hrel
      have hrel1 : ∀ u, u ∈ o.looksAt ops → RelV (mkX base O0 μ hp w) (lookT t1 u) (a.tmps.getD u undef) := fun u hu => ((hlook u hu) _ _).2 (hrel u hu)
      refine .inr ⟨hW _ a hrel1, fun d hd => ?_⟩
      have h1 := path_alike hr d (fun o' ho' => by
        obtain ⟨j, hj⟩ := List.getElem?_of_mem ho'
        exact s2 0 (j + 1) o o' rfl (by simpa using hj) (by omega) d hd)
      have := h1 (mkX base O0 μ hp w) undef
      rw [hd, lookT_put_eq] at this
      exact this.1 rel_undef

/-- so far: what has been carried out stands as it will at the end -/
structure Mid (base : Nat) (O0 : Nat → Prop) (I : X) (nt : Nat) (ops : Array Oper) (n : Nat) (hp : List Blk) (μ : Nat → Nat) (t2 : List (Nat × AV)) (listed : Array Bool) (a : Act) (w : World) : Prop where
  size : a.tmps.size = nt
  defers : a.defers = []
  hr : HR base O0 μ hp w
  tmps : ∀ u, (∀ i o, i < n → ops[i]? = some o → o.dst = some u → listed.getD i false = true) → RelV (mkX base O0 μ hp w) (lookT t2 u) (a.tmps.getD u undef)
  ext : Ext I (mkX base O0 μ hp w)
  below : Below base I.w w

theorem mid_wp {I : X} {nt : Nat} {ops : Array Oper} {n : Nat} (D : DrawOK ops n) {t2 : List (Nat × AV)} (hdo : ∀ i o, i < n → ops[i]? = some o → Does P base O0 μ hp ops o t2)
    (hd : ∀ i o, i < n → ops[i]? = some o → ∀ d, o.dst = some d → d < nt) {Q : Exit → Act → World → Prop}
    (hend : ∀ a w, SR base O0 I nt ⟨t2, hp⟩ μ a w → wpAny P .any ops Q (ops.size - n) ((Array.range ops.size).map (fun i => decide (i < n))) a w) :
    ∀ (f : Nat) (listed : Array Bool) (a : Act) (w : World), ((List.range n).filter (fun i => !listed.getD i false)).length = f → HeadInv .any ops n listed → Mid base O0 I nt ops n hp μ t2 listed a w →
      wpAny P .any ops Q (f + (ops.size - n)) listed a w := by
  intro f
  induction f with
  | zero =>
    intro listed a w hf inv M
    have hall : ∀ i, i < n → listed.getD i false = true := by
      intro i hi
      have h0 : (List.range n).filter (fun i => !listed.getD i false) = [] := List.length_eq_zero_iff.1 hf
      rw [List.filter_eq_nil_iff] at h0
      have := h0 i (List.mem_range.2 hi)
      simpa using this
    have hl : listed = (Array.range ops.size).map (fun i => decide (i < n)) := by
      apply Array.ext
      · simp [inv.size]
      · intro i h1 h2
        have hi : i < ops.size := by rw [← inv.size]; exact h1
        simp only [Array.getElem_map, Array.getElem_range]
        by_cases hin : i < n
        · have := hall i hin
          rw [Array.getD_eq_getD_getElem?, Array.getElem?_eq_getElem h1] at this
          rw [decide_eq_true hin]
          exact this
        · have := inv.tail i (by omega) hi
          rw [Array.getD_eq_getD_getElem?, Array.getElem?_eq_getElem h1] at this
          rw [decide_eq_false hin]
          exact this
    rw [Nat.zero_add, hl]
    exact hend a w ⟨M.size, M.defers, M.hr, fun u => M.tmps u (fun i o hi _ _ => hall i hi), M.ext, M.below⟩
  | succ f ih =>
    intro listed a w hf inv M
    rw [show f + 1 + (ops.size - n) = (f + (ops.size - n)) + 1 by omega]
    have hne : (List.range n).filter (fun i => !listed.getD i false) ≠ [] := by intro h; rw [h] at hf; simp at hf
    -- one that has not come up
    obtain ⟨i0, hi0, hun0⟩ : ∃ i, i < n ∧ listed.getD i false = false := by
      obtain ⟨i, hi⟩ := List.exists_mem_of_ne_nil _ hne
      rw [List.mem_filter, List.mem_range] at hi
      exact ⟨i, hi.1, by simpa using hi.2⟩
    have toT : ∀ i, i < n → listed.getD i false = false → listed.getD i true = false := fun i hi h => getD_in (by rw [inv.size]; have := D.le; omega) h
    -- the least of them may come up
    have least : ∃ i, i < n ∧ i ∈ Region.ready .any ops listed := by
      have : ∀ k, k < n → listed.getD k false = false → ∃ i, i < n ∧ i ∈ Region.ready .any ops listed := by
        intro k
        induction k using Nat.strongRecOn with
        | _ k ihk =>
          intro hk hun
          have hks : k < ops.size := by have := D.le; omega
          by_cases hb : ∃ e ∈ (ops[k]).after, Region.binds .any e = true ∧ listed.getD e.on false = false
          · obtain ⟨e, he, hb1, hb2⟩ := hb
            have := D.back k ops[k] (Array.getElem?_eq_getElem hks) e he hb1
            exact ihk e.on this (by omega) hb2
          · refine ⟨k, hk, mem_ready.2 ⟨toT k hk hun, ops[k], Array.getElem?_eq_getElem hks, fun e he hb1 => ?_⟩⟩
            cases hl : listed.getD e.on false with
            | true => rfl
            | false => exact absurd ⟨e, he, hb1, hl⟩ hb
      exact this i0 hi0 hun0
    refine ⟨fun h => ?_, fun i hi => ?_⟩
    · obtain ⟨i, _, hi⟩ := least
      rw [h] at hi
      cases hi
    · obtain ⟨hun, o, ho, hall⟩ := mem_ready.1 hi
      have hil : i < ops.size := (Array.getElem?_eq_some_iff.1 ho).1
      have hin : i < n := by
        rcases Nat.lt_or_ge i n with h | h
        · exact h
        · exfalso
          rcases D.tail with ht | ⟨hs, hc⟩
          · omega
          · exact tail_waits hs hc (by omega) inv _ i0 rfl hi0 (toT i0 hi0 hun0) i h hi
      have hrel : ∀ u, u ∈ o.looksAt ops → RelV (mkX base O0 μ hp w) (lookT t2 u) (a.tmps.getD u undef) := by
        intro u hu
        refine M.tmps u (fun j o' hj ho' hd' => ?_)
        obtain ⟨oj, hoj, e, he, hb, hon⟩ := Region.waitsFor_spec (D.looks i j o o' hin hj ho ho' u hu hd')
        have : oj = o := Option.some.inj (hoj.symm.trans ho)
        subst this
        have := hall e he hb
        rwa [hon] at this
      have hcount : ((List.range n).filter (fun j => !(listed.setIfInBounds i true).getD j false)).length = f := by
        have hnd : (List.range n).Nodup := List.nodup_range
        have hmem : i ∈ (List.range n).filter (fun j => !listed.getD j false) := by
          rw [List.mem_filter, List.mem_range]
          exact ⟨hin, by rw [getD_both hun]; rfl⟩
        have hsub : (List.range n).filter (fun j => !(listed.setIfInBounds i true).getD j false) = ((List.range n).filter (fun j => !listed.getD j false)).erase i := by
          rw [List.Nodup.erase_eq_filter (hnd.filter _), List.filter_filter]
          apply List.filter_congr
          intro j hj
          by_cases hji : i = j
          · subst hji
            have : (listed.setIfInBounds i true).getD i false = true := by
              have : i < listed.size := by rw [inv.size]; exact hil
              simp [this]
            rw [this]
            simp
          · rw [getD_set_ne false hji]
            simp [show j ≠ i from fun e => hji e.symm]
        rw [hsub, List.length_erase_of_mem hmem, hf]
        rfl
      have inv' := inv.set hi hin
      have next : ∀ (val : Value) (w' : World), Below w.heap.size w w' → (∀ d, o.dst = some d → RelV (mkX base O0 μ hp w') (lookT t2 d) val) →
          wpAny P .any ops Q (f + (ops.size - n)) (listed.setIfInBounds i true) (a.put o.dst val) w' := by
        intro val w' hb hv
        have ex := Ext.grow (O0 := O0) (μ := μ) (hp := hp) M.hr.all hb
        refine ih _ _ w' hcount inv' ⟨by rw [put_size]; exact M.size, by rw [put_defers]; exact M.defers, M.hr.grow hb, fun u hu => ?_, M.ext.trans ex, M.below.trans (hb.mono M.hr.all)⟩
        by_cases hdu : o.dst = some u
        · have hlt : u < a.tmps.size := by rw [M.size]; exact hd i o hin ho u hdu
          have : (a.put o.dst val).tmps.getD u undef = val := by
            rw [hdu]
            simp [Act.put, Array.getD_eq_getD_getElem?, hlt]
          rw [this]
          exact hv u hdu
        · have : (a.put o.dst val).tmps.getD u undef = a.tmps.getD u undef := by
            cases hdst : o.dst with
            | none => rfl
            | some d =>
              have hne : d ≠ u := fun e => hdu (by rw [hdst, e])
              simp [Act.put, Array.getD_eq_getD_getElem?, Array.getElem?_setIfInBounds_ne hne]
          rw [this]
          refine (M.tmps u (fun j o' hj ho' hd' => ?_)).mono ex
          have h1 := hu j o' hj ho' hd'
          by_cases hij : i = j
          · subst hij
            have : o' = o := Option.some.inj (ho'.symm.trans ho)
            subst this
            exact absurd hd' hdu
          · rwa [getD_set_ne false hij] at h1
      unfold wpOp
      simp only [ho]
      rcases hdo i o hin ho w a M.hr hrel with ⟨hw, hwp⟩ | ⟨hw, hun2⟩
      · rw [if_pos hw]
        refine .inl (Oper.wp_mono ?_ (hwp Q))
        rintro a' w' ⟨val, rfl, hb, hv⟩
        exact next val w' hb hv
      · rw [if_neg (by rw [hw]; simp)]
        exact next undef w (Below.refl _ _) hun2
end
end Go.Proofs.Ytincnfjihffllaa.Ev
