/- Regions with new variables, and with stores that may come early: the walk. -/
import Derived.Test.YtincnfjihffllaaEv24
namespace Go.Proofs.Ytincnfjihffllaa.Ev
open Go Go.RowKit
set_option linter.unusedVariables false
set_option linter.unusedSimpArgs false

section
variable {P : Program} {G : Nat → TI} {base : Nat} {O0 : Nat → Prop} {μ : Nat → Nat} {hp : List Blk} {w w' : World}

theorem Ext.thenNo {s : Nat} {x y z : X} (e : Ext x y) (k : ExtNo s y z) (hs : x.h.length ≤ s) : Ext x z :=
  ⟨fun n hn => k.o n (e.o n hn), fun b hb => (k.mu b (by omega) (Nat.lt_of_lt_of_le hb e.len)).trans (e.mu b hb), Nat.le_trans e.len k.len,
   fun b hb n hn => e.dim b hb n (k.dim b (by omega) (Nat.lt_of_lt_of_le hb e.len) n hn), fun a v ho hc => k.cell a v (e.o _ ho) (e.cell a v ho hc), fun r s hs => k.shape r s (e.shape r s hs)⟩

theorem SR.grow0 {I : X} {nt : Nat} {s : St} {a : Act} (R : SR base O0 I nt s μ a w) (hb : Below w.heap.size w w') : SR base O0 I nt s μ a w' := by
  have ex := Ext.grow (O0 := O0) (μ := μ) (hp := s.h) R.hr.all hb
  exact ⟨R.size, R.defers, R.hr.grow hb, R.tmps.mono ex, R.ext.trans ex, R.below.trans (hb.mono R.hr.all)⟩

theorem lpath_slot {n0 : Nat} {hd : List Blk} {l : List Oper} {t t2 : List (Nat × AV)} {h h2 : List Blk} (H : LPath P G n0 hd l t h t2 h2)
    (s2 : ∀ (i j : Nat) (o o' : Oper), l[i]? = some o → l[j]? = some o' → i < j → ∀ d, o.dst = some d → o'.dst ≠ some d) (i : Nat) (o : Oper) (hi : l[i]? = some o) (ha : isAl o = true) :
    ∃ x, h2[slotOf h.length l i]? = some x := by
  obtain ⟨ty, e⟩ := isAl_iff.1 ha
  obtain ⟨d, sz, x, _, _, q, _⟩ := lpath_alloc H s2 i o hi ty e
  exact ⟨x, q⟩
theorem slot_cover : ∀ (l : List Oper) (n0 s : Nat), n0 ≤ s → s < n0 + (l.filter isAl).length → ∃ i o ty, l[i]? = some o ∧ o.op = .alloc ty ∧ slotOf n0 l i = s
  | [], n0, s, h1, h2 => by simp at h2; omega
  | a :: r, n0, s, h1, h2 => by
    cases ha : isAl a with
    | true =>
      rw [List.filter_cons_of_pos ha] at h2
      simp only [List.length_cons] at h2
      by_cases e : s = n0
      · obtain ⟨ty, q⟩ := isAl_iff.1 ha
        exact ⟨0, a, ty, rfl, q, by simp [slotOf, e]⟩
      · obtain ⟨i, o, ty, q1, q2, q3⟩ := slot_cover r (n0 + 1) s (by omega) (by omega)
        exact ⟨i + 1, o, ty, by simpa using q1, q2, by rw [slot_succ, if_pos ha]; exact q3⟩
    | false =>
      rw [List.filter_cons_of_neg (by simp [ha])] at h2
      obtain ⟨i, o, ty, q1, q2, q3⟩ := slot_cover r n0 s h1 h2
      exact ⟨i + 1, o, ty, by simpa using q1, q2, by rw [slot_succ, if_neg (by simp [ha])]; exact q3⟩
theorem lpath_cover {n0 : Nat} {hd : List Blk} {l : List Oper} {t t2 : List (Nat × AV)} {h h2 : List Blk} (H : LPath P G n0 hd l t h t2 h2) (s : Nat) (h1 : h.length ≤ s) (h3 : s < h2.length) :
    ∃ i o ty, l[i]? = some o ∧ o.op = .alloc ty ∧ slotOf h.length l i = s := slot_cover l h.length s h1 (by rw [← (lpath_len H).1]; exact h3)

/-- the head's operations that are no new variable's: told of each state -/
def hpart (ops : Array Oper) (n : Nat) : List Oper := ops.toList.take n

/-- so far -/
structure Mid2 (P : Program) (G : Nat → TI) (base : Nat) (O0 : Nat → Prop) (I : X) (nt : Nat) (ops : Array Oper) (n : Nat) (ds : List Nat) (hp : List Blk) (t2 : List (Nat × AV)) (h2 : List Blk) (sN : St)
    (listed : Array Bool) (a : Act) (w : World) (μ : Nat → Nat) (h : List Blk) (m : Nat) (s : St) : Prop where
  size : a.tmps.size = nt
  defers : a.defers = []
  lsize : listed.size = ops.size
  closed : ∀ j oj, ops[j]? = some oj → listed.getD j false = true → ∀ e ∈ oj.after, Region.binds .any e = true → listed.getD e.on false = true
  tail : ∀ t, n ≤ t → t < ops.size → (listed.getD t false = true ↔ t < n + m)
  mle : n + m ≤ ops.size
  path : TPath P G hp.length ds (ops.toList.drop (n + m)) s sN
  hr : HR base O0 μ h w
  len : h.length = s.h.length ∧ s.h.length = h2.length
  at1 : ∀ b, (∀ i o, i < n → ops[i]? = some o → isAl o = true → slotOf hp.length (hpart ops n) i = b → listed.getD i false = true) → h[b]? = s.h[b]?
  at0 : ∀ i o, i < n → ops[i]? = some o → isAl o = true → listed.getD i false = false → h[slotOf hp.length (hpart ops n) i]? = some .dead
  m0 : m = 0 → s = ⟨t2, h2⟩
  unchH : ∀ b, b < hp.length → b ∉ ds → s.h[b]? = hp[b]?
  unchT : ∀ u, (∀ t o, n ≤ t → t < n + m → ops[t]? = some o → o.dst ≠ some u) → lookT s.t u = lookT t2 u
  tmps : ∀ u, (∀ i o, i < n → ops[i]? = some o → o.dst = some u → listed.getD i false = true) → RelV (mkX base O0 μ h w) (lookT s.t u) (a.tmps.getD u undef)
  ext : Ext I (mkX base O0 μ h w)
  below : Below base I.w w

theorem mid2_wp (hG : GOK P G) {I : X} {nt : Nat} {ops : Array Oper} {n : Nat} (D : LateOK ops n) {ds : List Nat} {hp : List Blk} {t t2 : List (Nat × AV)} {h2 : List Blk} {sN : St}
    (hI : I.h.length ≤ hp.length) (L : LPath P G hp.length (killAll hp ds) (hpart ops n) t hp t2 h2)
    (N1 : ∀ i o, i < n → ops[i]? = some o → isAl o = true → ∀ u, o.dst ≠ some u → (lookT t2 u).no (slotOf hp.length (hpart ops n) i))
    (N2 : ∀ (b : Nat) (x : Blk), h2[b]? = some x → ∀ s, hp.length ≤ s → x.no s)
    (hd : ∀ o ∈ ops.toList, ∀ d, o.dst = some d → d < nt) {Q : Exit → Act → World → Prop} (hQ : ∀ μ a w, SR base O0 I nt sN μ a w → Q .normal a w) :
    ∀ (f : Nat) (listed : Array Bool) (a : Act) (w : World) (μ : Nat → Nat) (h : List Blk) (m : Nat) (s : St), ((List.range ops.size).filter (fun i => !listed.getD i false)).length = f →
      Mid2 P G base O0 I nt ops n ds hp t2 h2 sN listed a w μ h m s → wpAny P .any ops Q f listed a w := by
  have hget : ∀ i o, i < n → ops[i]? = some o → (hpart ops n)[i]? = some o := by
    intro i o hi ho
    rw [hpart, List.getElem?_take, if_pos hi]; simpa using ho
  have hget' : ∀ i o, (hpart ops n)[i]? = some o → i < n ∧ ops[i]? = some o := by
    intro i o hi
    rw [hpart, List.getElem?_take] at hi
    split at hi
    · exact ⟨‹_›, by simpa using hi⟩
    · cases hi
  have s1 : ∀ (i j : Nat) (o o' : Oper), (hpart ops n)[i]? = some o → (hpart ops n)[j]? = some o' → i ≤ j → ∀ u ∈ o.looksAt ops, o'.dst ≠ some u := by
    intro i j o o' hi hj hij u hu hd'
    obtain ⟨g1, g2⟩ := hget' i o hi
    obtain ⟨g3, g4⟩ := hget' j o' hj
    obtain ⟨oj, hoj, e, he, hb, hon⟩ := Region.waitsFor_spec (D.looks i j o o' g1 g3 g2 g4 u hu hd')
    have : oj = o := Option.some.inj (hoj.symm.trans g2)
    subst this
    have := D.back i oj g2 e he hb
    omega
  have s2 : ∀ (i j : Nat) (o o' : Oper), (hpart ops n)[i]? = some o → (hpart ops n)[j]? = some o' → i < j → ∀ d, o.dst = some d → o'.dst ≠ some d := by
    intro i j o o' hi hj hij d hd'
    obtain ⟨g1, g2⟩ := hget' i o hi
    obtain ⟨g3, g4⟩ := hget' j o' hj
    exact D.apart i j o o' g1 g2 g4 (by omega) d hd'
  have LL := lpath_len L
  intro f
  induction f with
  | zero =>
    intro listed a w μ h m s hf M
    have hall : ∀ i, i < ops.size → listed.getD i false = true := by
      intro i hi
      have h0 := List.length_eq_zero_iff.1 hf
      rw [List.filter_eq_nil_iff] at h0
      have := h0 i (List.mem_range.2 hi)
      simpa using this
    have hm : n + m = ops.size := by
      rcases Nat.lt_or_ge (n + m) ops.size with g | g
      · have := (M.tail (n + m) (by omega) g).1 (hall _ g); omega
      · have := M.mle; omega
    have e1 : h = s.h := by
      apply List.ext_getElem?
      intro b
      exact M.at1 b (fun i o hi ho _ _ => hall i (Array.getElem?_eq_some_iff.1 ho).1)
    have e2 : s = sN := by
      have := M.path
      rw [hm, List.drop_eq_nil_of_le (by simp)] at this
      cases this; rfl
    refine ⟨?_, ?_⟩
    · cases hr : Region.ready .any ops listed with
      | nil => rfl
      | cons i r =>
        exfalso
        have hi : i ∈ Region.ready .any ops listed := by rw [hr]; simp
        obtain ⟨hun, o, ho, _⟩ := mem_ready.1 hi
        have g := getD_both hun
        rw [hall i (Array.getElem?_eq_some_iff.1 ho).1] at g
        cases g
    · subst e1; subst e2
      exact hQ μ a w ⟨M.size, M.defers, M.hr, fun u => M.tmps u (fun i o hi ho _ => hall i (Array.getElem?_eq_some_iff.1 ho).1), M.ext, M.below⟩
  | succ f ih =>
    intro listed a w μ h m s hf M
    have hne : (List.range ops.size).filter (fun i => !listed.getD i false) ≠ [] := by intro h; rw [h] at hf; simp at hf
    obtain ⟨i0, hi0, hun0⟩ : ∃ i, i < ops.size ∧ listed.getD i false = false := by
      obtain ⟨i, hi⟩ := List.exists_mem_of_ne_nil _ hne
      rw [List.mem_filter, List.mem_range] at hi
      exact ⟨i, hi.1, by simpa using hi.2⟩
    have toT : ∀ i, i < ops.size → listed.getD i false = false → listed.getD i true = false := fun i hi h => getD_in (by rw [M.lsize]; exact hi) h
    have least : ∃ i, i ∈ Region.ready .any ops listed := by
      have : ∀ k, k < ops.size → listed.getD k false = false → ∃ i, i ∈ Region.ready .any ops listed := by
        intro k
        induction k using Nat.strongRecOn with
        | _ k ihk =>
          intro hk hun
          by_cases hb : ∃ e ∈ (ops[k]).after, Region.binds .any e = true ∧ listed.getD e.on false = false
          · obtain ⟨e, he, hb1, hb2⟩ := hb
            have := D.back k ops[k] (Array.getElem?_eq_getElem hk) e he hb1
            exact ihk e.on this (by omega) hb2
          · refine ⟨k, mem_ready.2 ⟨toT k hk hun, ops[k], Array.getElem?_eq_getElem hk, fun e he hb1 => ?_⟩⟩
            cases hl : listed.getD e.on false with
            | true => rfl
            | false => exact absurd ⟨e, he, hb1, hl⟩ hb
      exact this i0 hi0 hun0
    refine ⟨fun h => ?_, fun i hi => ?_⟩
    · obtain ⟨i, hi⟩ := least
      rw [h] at hi
      cases hi
    · obtain ⟨hunT, o, ho, hall⟩ := mem_ready.1 hi
      have hun := getD_both hunT
      have hil : i < ops.size := (Array.getElem?_eq_some_iff.1 ho).1
      have waits : ∀ j, Region.waitsFor .any ops i j = true → listed.getD j false = true := by
        intro j hw
        obtain ⟨oj, hoj, e, he, hb, hon⟩ := Region.waitsFor_spec hw
        have : oj = o := Option.some.inj (hoj.symm.trans ho)
        subst this
        have := hall e he hb
        rwa [hon] at this
      -- what is listed has seen what it waits for
      have seen : ∀ j, listed.getD j false = true → ∀ k, Region.waitsFor .any ops j k = true → listed.getD k false = true := by
        intro j hj k hw
        obtain ⟨oj, hoj, e, he, hb, hon⟩ := Region.waitsFor_spec hw
        have := M.closed j oj hoj hj e he hb
        rwa [hon] at this
      have hcount : ((List.range ops.size).filter (fun j => !(listed.setIfInBounds i true).getD j false)).length = f := by
        have hnd : (List.range ops.size).Nodup := List.nodup_range
        have hmem : i ∈ (List.range ops.size).filter (fun j => !listed.getD j false) := by
          rw [List.mem_filter, List.mem_range]
          exact ⟨hil, by rw [hun]; rfl⟩
        have hsub : (List.range ops.size).filter (fun j => !(listed.setIfInBounds i true).getD j false) = ((List.range ops.size).filter (fun j => !listed.getD j false)).erase i := by
          rw [List.Nodup.erase_eq_filter (hnd.filter _), List.filter_filter]
          apply List.filter_congr
          intro j hj
          by_cases hji : i = j
          · subst hji
            have : (listed.setIfInBounds i true).getD i false = true := by
              have : i < listed.size := by rw [M.lsize]; exact hil
              simp [this]
            rw [this]
            simp
          · rw [getD_set_ne false hji]
            simp [show j ≠ i from fun e => hji e.symm]
        rw [hsub, List.length_erase_of_mem hmem, hf]
        rfl
      have hset : (listed.setIfInBounds i true).getD i false = true := by
        have : i < listed.size := by rw [M.lsize]; exact hil
        simp [this]
      have lsize' : (listed.setIfInBounds i true).size = ops.size := by simp [M.lsize]
      have closed' : ∀ j oj, ops[j]? = some oj → (listed.setIfInBounds i true).getD j false = true → ∀ e ∈ oj.after, Region.binds .any e = true → (listed.setIfInBounds i true).getD e.on false = true := by
        intro j oj hj hl e he hb
        by_cases hij : i = j
        · subst hij
          have : oj = o := Option.some.inj (hj.symm.trans ho)
          subst this
          exact getD_set_true (hall e he hb)
        · rw [getD_set_ne false hij] at hl
          exact getD_set_true (M.closed j oj hj hl e he hb)
      have hwant : Region.wanted o (yielded ops a.tmps) = true := by simp [Region.wanted, D.guard i o ho]
      unfold wpOp
      simp only [ho]
      rw [if_pos hwant]
      refine .inl ?_
      by_cases hin : i < n
      · -- ahead
        have tail' : ∀ t, n ≤ t → t < ops.size → ((listed.setIfInBounds i true).getD t false = true ↔ t < n + m) := by
          intro t h1 h3
          rw [getD_set_ne false (by omega)]
          exact M.tail t h1 h3
        cases hal : isAl o with
        | true =>
          obtain ⟨ty, hop⟩ := isAl_iff.1 hal
          obtain ⟨d, sz, x, hdst, hx, hslot, hlook⟩ := lpath_alloc L s2 i o (hget i o hin ho) ty hop
          obtain ⟨cells, z, rfl, hz, hz0, hcells, hrun⟩ := alloc_run hG hx
          have hm : m = 0 := by
            rcases Nat.eq_zero_or_pos m with g | g
            · exact g
            · exfalso
              have hnl := (M.tail n (Nat.le_refl _) (by have := M.mle; omega)).2 (by omega)
              have hn' : n < ops.size := by have := M.mle; omega
              have := seen n hnl i (D.allocs i n o ops[n] hin (Nat.le_refl _) ho (Array.getElem?_eq_getElem hn') hal)
              rw [hun] at this; cases this
          have hs := M.m0 hm
          subst hs
          have hsl : slotOf hp.length (hpart ops n) i < h.length := by
            rw [M.len.1]
            exact (List.getElem?_eq_some_iff.1 hslot).1
          have hdead := M.at0 i o hin ho hal hun
          have hno : ∀ (b : Nat) (y : Blk), h[b]? = some y → y.no (slotOf hp.length (hpart ops n) i) := by
            intro b y hb
            by_cases hc : ∀ i' o', i' < n → ops[i']? = some o' → isAl o' = true → slotOf hp.length (hpart ops n) i' = b → listed.getD i' false = true
            · rw [M.at1 b hc] at hb
              exact N2 b y hb _ slot_ge
            · simp only [Classical.not_forall, Classical.not_imp] at hc
              obtain ⟨i', o', g1, g2, g3, g4, g5⟩ := hc
              have := M.at0 i' o' g1 g2 g3 (by simpa using g5)
              rw [g4, hb] at this
              obtain rfl := Option.some.inj this
              trivial
          have ex := ExtNo.allocAt M.hr hsl hdead (.cells cells ty) (.rows true sz z [z])
          have hH : HR base O0 (μnew μ (slotOf hp.length (hpart ops n) i) w.heap.size) (h.set (slotOf hp.length (hpart ops n) i) (.rows true sz z [z])) (pushW w (.cells cells ty)) := by
            refine HR.allocAt M.hr hsl hdead hno _ _ ⟨hz, cells, ty, heap_push w _, fun i r hi => ?_⟩
            cases i with
            | zero =>
              simp at hi; subst hi
              refine ⟨hz, fun j c hj => ?_⟩
              have C := hcells (mkX base O0 (μnew μ (slotOf hp.length (hpart ops n) i) w.heap.size) (h.set (slotOf hp.length (hpart ops n) i) (.rows true sz z [z])) (pushW w (.cells cells ty)))
              have := (List.getElem?_eq_some_iff.1 hj).1
              rw [Nat.zero_mul, Nat.zero_add]
              exact ⟨_, some_of_getD (by have := C.1; omega), C.2 j c hj⟩
            | succ i => simp at hi
          have hrun' : (execOp a.eval o).run P w = .ok (.value (.pointer (some ⟨w.heap.size, 0, none⟩))) (pushW w (.cells cells ty)) := by
            obtain ⟨dst, op, ty', pos, after, guard⟩ := o
            dsimp only at hop
            subst hop
            exact run_v (hrun w)
          refine wp_value hrun' ?_
          refine ih _ _ _ (μnew μ (slotOf hp.length (hpart ops n) i) w.heap.size) (h.set (slotOf hp.length (hpart ops n) i) (.rows true sz z [z])) m ⟨t2, h2⟩ hcount
            ⟨by rw [put_size]; exact M.size, by rw [put_defers]; exact M.defers, lsize', closed', tail', M.mle, M.path, hH, ⟨by simp [M.len.1], M.len.2⟩, fun b hb => ?_, fun i' o' g1 g2 g3 g4 => ?_, fun _ => rfl, M.unchH, M.unchT, fun u hu => ?_, M.ext.thenNo ex (Nat.le_trans hI slot_ge), M.below.trans ((below_push w _).mono M.hr.all)⟩
          · by_cases e : b = slotOf hp.length (hpart ops n) i
            · subst e
              rw [List.getElem?_set_self hsl]
              exact hslot.symm
            · rw [List.getElem?_set_ne (Ne.symm e)]
              refine M.at1 b (fun i' o' g1 g2 g3 g4 => ?_)
              have := hb i' o' g1 g2 g3 g4
              rw [getD_set_ne false (by rintro rfl; exact e g4.symm)] at this
              exact this
          · have hii : i ≠ i' := by rintro rfl; rw [hset] at g4; cases g4
            rw [getD_set_ne false hii] at g4
            rw [List.getElem?_set_ne (fun e => hii (slot_inj (hget i o hin ho) hal (hget i' o' g1 g2) g3 e))]
            exact M.at0 i' o' g1 g2 g3 g4
          · by_cases hdu : o.dst = some u
            · rw [hdst] at hdu
              obtain rfl := Option.some.inj hdu
              have : (a.put o.dst (.pointer (some ⟨w.heap.size, 0, none⟩))).tmps.getD d undef = .pointer (some ⟨w.heap.size, 0, none⟩) := by
                have hlt : d < a.tmps.size := by rw [M.size]; exact hd o (List.mem_of_getElem? (i := i) (by simpa using ho)) d hdst
                rw [hdst]
                simp [Act.put, Array.getD_eq_getD_getElem?, hlt]
              rw [this, hlook]
              refine ⟨by simp [mkX]; exact hsl, by simp [SI.val], by simp [mkX, μnew, SI.val], fun n' s' hn => ?_⟩
              have hn' : dimB (h.set (slotOf hp.length (hpart ops n) i) (.rows true sz z [z])) (slotOf hp.length (hpart ops n) i) = some (n', s') := hn
              rw [dimB_set hsl, if_pos rfl] at hn'
              simp only [Blk.dim, Option.some.injEq, Prod.mk.injEq] at hn'
              refine ⟨?_, hn'.2.symm⟩
              have e1 := hn'.1
              simp [SI.val] at e1 ⊢
              omega
            · have : (a.put o.dst (.pointer (some ⟨w.heap.size, 0, none⟩))).tmps.getD u undef = a.tmps.getD u undef := by
                have hne : d ≠ u := fun e => hdu (by rw [hdst, e])
                rw [hdst]
                simp [Act.put, Array.getD_eq_getD_getElem?, Array.getElem?_setIfInBounds_ne hne]
              rw [this]
              refine (M.tmps u (fun j o' hj ho' hd' => ?_)).monoNo ex (N1 i o hin ho hal u hdu)
              have h1 := hu j o' hj ho' hd'
              by_cases hij : i = j
              · subst hij
                have : o' = o := Option.some.inj (ho'.symm.trans ho)
                subst this
                exact absurd hd' hdu
              · rwa [getD_set_ne false hij] at h1
        | false =>
          obtain ⟨v, t1, hv, hold, hl1, hl2⟩ := lpath_pure (ops := ops) L s1 s2 i o (hget i o hin ho) hal
          -- what is read stands as it did
          have unread : ∀ u, u ∈ o.looksAt ops → lookT s.t u = lookT t2 u := by
            intro u hu
            refine M.unchT u (fun t' o' g1 g2 g3 g4 => ?_)
            have := seen t' ((M.tail t' g1 (by have := M.mle; omega)).2 g2) i (D.hlooks i t' o o' hin g1 ho g3 u hu g4)
            rw [hun] at this; cases this
          have hrel : ∀ u, u ∈ o.looksAt ops → RelV (mkX base O0 μ h w) (lookT t1 u) (a.tmps.getD u undef) := by
            intro u hu
            rw [hl1 u hu, ← unread u hu]
            exact M.tmps u (fun j o' hj ho' hd' => waits j (D.looks i j o o' hin hj ho ho' u hu hd'))
          have hmem : ∀ b, getBlk (killAll hp ds) b = .dead ∨ getBlk h b = getBlk (killAll hp ds) b := by
            intro b
            rcases killAll_get ds hp b with g | ⟨g1, g2⟩
            · exact .inl g
            · by_cases hb : b < hp.length
              · right
                rw [g2, getBlk_eq, getBlk_eq, M.at1 b (fun i' o' _ _ _ e => by have := slot_ge (n0 := hp.length) (l := hpart ops n) (i := i'); omega), M.unchH b hb g1]
              · left
                rw [g2, getBlk_eq, List.getElem?_eq_none (by omega)]; rfl
          have next : ∀ (val : Value) (w' : World), Below w.heap.size w w' → RelV (mkX base O0 μ h w') v val → wpAny P .any ops Q f (listed.setIfInBounds i true) (a.put o.dst val) w' := by
            intro val w' hb hval
            have ex := Ext.grow (O0 := O0) (μ := μ) (hp := h) M.hr.all hb
            refine ih _ _ _ μ h m s hcount ⟨by rw [put_size]; exact M.size, by rw [put_defers]; exact M.defers, lsize', closed', tail', M.mle, M.path, M.hr.grow hb, M.len, fun b hb => ?_, fun i' o' g1 g2 g3 g4 => ?_, M.m0, M.unchH, M.unchT, fun u hu => ?_, M.ext.trans ex, M.below.trans (hb.mono M.hr.all)⟩
            · refine M.at1 b (fun i' o' g1 g2 g3 g4 => ?_)
              have := hb i' o' g1 g2 g3 g4
              rw [getD_set_ne false (by rintro rfl; rw [Option.some.inj (g2.symm.trans ho), hal] at g3; cases g3)] at this
              exact this
            · refine M.at0 i' o' g1 g2 g3 ?_
              rw [getD_set_ne false (by rintro rfl; rw [Option.some.inj (g2.symm.trans ho), hal] at g3; cases g3)] at g4
              exact g4
            · by_cases hdu : o.dst = some u
              · have hlt : u < a.tmps.size := by rw [M.size]; exact hd o (List.mem_of_getElem? (i := i) (by simpa using ho)) u hdu
                have : (a.put o.dst val).tmps.getD u undef = val := by
                  rw [hdu]
                  simp [Act.put, Array.getD_eq_getD_getElem?, hlt]
                rw [this]
                rw [M.unchT u (fun t' o' g1 g2 g3 g4 => D.apart i t' o o' hin ho g3 (by omega) u hdu g4), hl2 u hdu]
                exact hval
              · have : (a.put o.dst val).tmps.getD u undef = a.tmps.getD u undef := by
                  cases hdst : o.dst with
                  | none => rfl
                  | some d =>
                    have hne : d ≠ u := fun e => hdu (by rw [hdst, e])
                    simp [Act.put, Array.getD_eq_getD_getElem?, Array.getElem?_setIfInBounds_ne hne]
                rw [this]
                refine (M.tmps u (fun j o' hj ho' hd' => ?_)).mono ex
                have h1 := hu j o' hj ho' hd'
                by_cases hij : i = j
                · subst hij
                  have : o' = o := Option.some.inj (ho'.symm.trans ho)
                  subst this
                  exact absurd hd' hdu
                · rwa [getD_set_ne false hij] at h1
          obtain ⟨v', rfl, hout⟩ := evPure_sound hG M.hr (ev := a.eval) (eval_looks hrel) (evPure_mono hmem hv)
          rcases hout with ⟨val, w', h1, h2', h3⟩ | ⟨f', args, h1, h2'⟩
          · exact wp_value h1 (next val w' h2' h3)
          · unfold Oper.wp
            rw [h1]
            refine h2'.mono ?_
            rintro e w' ⟨val, rfl, hb, hv⟩
            exact next val w' hb hv
      · -- behind
        have him : i = n + m := by
          have h1 : ¬ i < n + m := fun g => by have := (M.tail i (by omega) hil).2 g; rw [hun] at this; cases this
          rcases Nat.lt_or_ge (n + m) i with g | g
          · exfalso
            have := waits (i - 1) (D.chain i (by omega) hil)
            have := (M.tail (i - 1) (by omega) (by omega)).1 this
            omega
          · omega
        subst him
        have hallal : ∀ i' o', i' < n → ops[i']? = some o' → isAl o' = true → listed.getD i' false = true := fun i' o' g1 g2 g3 => waits i' (D.allocs i' (n + m) o' o g1 (by omega) g2 ho g3)
        have eh : h = s.h := by
          apply List.ext_getElem?
          intro b
          exact M.at1 b (fun i' o' g1 g2 g3 _ => hallal i' o' g1 g2 g3)
        subst eh
        have tail' : ∀ t, n ≤ t → t < ops.size → ((listed.setIfInBounds (n + m) true).getD t false = true ↔ t < n + (m + 1)) := by
          intro t h1 h3
          by_cases e : n + m = t
          · subst e; exact ⟨fun _ => by omega, fun _ => hset⟩
          · rw [getD_set_ne false e, M.tail t h1 h3]; omega
        have hrel : ∀ u, u ∈ o.looksAt ops → RelV (mkX base O0 μ s.h w) (lookT s.t u) (a.tmps.getD u undef) := by
          intro u hu
          exact M.tmps u (fun j o' hj ho' hd' => waits j (D.tlooks j (n + m) o' o hj (by omega) ho' ho u hu hd'))
        have hdrop : ops.toList.drop (n + m) = o :: ops.toList.drop (n + (m + 1)) := by
          have hl : n + m < ops.toList.length := by simpa using hil
          rw [List.drop_eq_getElem_cons hl]
          congr 1
          have := List.getElem?_eq_getElem hl
          have h' : ops.toList[n + m]? = some o := by simpa using ho
          rw [h'] at this
          exact (Option.some.inj this).symm
        have hpath := M.path
        rw [hdrop] at hpath
        have mset : ∀ u, (∀ i o', i < n → ops[i]? = some o' → o'.dst = some u → (listed.setIfInBounds (n + m) true).getD i false = true) → ∀ i o', i < n → ops[i]? = some o' → o'.dst = some u → listed.getD i false = true := by
          intro u hu i o' g1 g2 g3
          have := hu i o' g1 g2 g3
          rwa [getD_set_ne false (by omega)] at this
        generalize hrest : ops.toList.drop (n + (m + 1)) = rest at hpath
        cases hpath with
        | assign _ _ _ _ y d v hop hdst hv hr =>
          obtain ⟨v', rfl, hout⟩ := evPure_sound hG M.hr (ev := a.eval) (eval_looks hrel) hv
          have next : ∀ (val : Value) (w' : World), Below w.heap.size w w' → RelV (mkX base O0 μ s.h w') v' val → wpAny P .any ops Q f (listed.setIfInBounds (n + m) true) (a.put o.dst val) w' := by
            intro val w' hb hval
            have ex := Ext.grow (O0 := O0) (μ := μ) (hp := s.h) M.hr.all hb
            refine ih _ _ _ μ s.h (m + 1) ⟨(d, v') :: s.t, s.h⟩ hcount ⟨by rw [put_size]; exact M.size, by rw [put_defers]; exact M.defers, lsize', closed', tail', by omega, by rw [hrest]; exact hr, M.hr.grow hb, ⟨rfl, M.len.2⟩, fun _ _ => rfl,
              fun i' o' g1 g2 g3 g4 => ?_, fun g => by omega, M.unchH, fun u hu => ?_, fun u hu => ?_, M.ext.trans ex, M.below.trans (hb.mono M.hr.all)⟩
            · rw [getD_set_ne false (by omega), hallal i' o' g1 g2 g3] at g4; cases g4
            · have hne : d ≠ u := fun e => hu (n + m) o (by omega) (by omega) ho (by rw [hdst, e])
              exact (lookT_put_ne (d := some d) (by simpa using hne)).trans (M.unchT u (fun t' o' g1 g2 g3 => hu t' o' g1 (by omega) g3))
            · by_cases hdu : d = u
              · subst hdu
                have hlt : d < a.tmps.size := by rw [M.size]; exact hd o (List.mem_of_getElem? (i := n + m) (by simpa using ho)) d hdst
                have : (a.put o.dst val).tmps.getD d undef = val := by
                  rw [hdst]
                  simp [Act.put, Array.getD_eq_getD_getElem?, hlt]
                rw [this]
                show RelV _ (lookT (putT s.t (some d) v') d) val
                rw [lookT_put_eq]
                exact hval
              · have : (a.put o.dst val).tmps.getD u undef = a.tmps.getD u undef := by
                  rw [hdst]
                  simp [Act.put, Array.getD_eq_getD_getElem?, Array.getElem?_setIfInBounds_ne hdu]
                rw [this]
                have e := lookT_put_ne (t := s.t) (d := some d) (v := v') (u := u) (by simpa using hdu)
                exact e ▸ ((M.tmps u (mset u hu)).mono ex)
          rcases hout with ⟨val, w', h1, h2', h3⟩ | ⟨f', args, h1, h2'⟩
          · exact wp_value h1 (next val w' h2' h3)
          · unfold Oper.wp
            rw [h1]
            refine h2'.mono ?_
            rintro e w' ⟨val, rfl, hb, hv⟩
            exact next val w' hb hv
        | store _ _ _ _ ty p y b sz row col h' hop hdst hpt hb hs hr =>
          have lp : ∀ z, z ∈ o.op.operands.toList → RelV (mkX base O0 μ s.h w) (opd s.t z) (a.eval z) := eval_looks hrel
          rw [hop] at lp
          have r1 := lp p (by simp [Op.operands])
          rw [hpt] at r1
          have r2 := lp y (by simp [Op.operands])
          obtain ⟨w', h'', q1, rfl, q3, q4, q5⟩ := store_sound hG M.hr r1 r2 hs
          obtain ⟨z1, z2⟩ := store_other hs
          have hrun : (execOp a.eval o).run P w = .ok .skip w' := by
            obtain ⟨dst, op, ty', pos, after, guard⟩ := o
            dsimp only at hop
            subst hop
            simp only [execOp, Sem.run_bind, q1, Result.andThen_ok, Sem.run_pure]
          unfold Oper.wp
          rw [hrun]
          have hput : ∀ val, a.put o.dst val = a := fun val => by rw [hdst]; rfl
          refine (show wpAny P .any ops Q f (listed.setIfInBounds (n + m) true) (a.put o.dst undef) w' from ?_)
          rw [hput]
          refine ih _ _ _ μ h'' (m + 1) ⟨s.t, h''⟩ hcount ⟨M.size, M.defers, lsize', closed', tail', by omega, by rw [hrest]; exact hr, q3, ⟨rfl, z1.trans M.len.2⟩, fun _ _ => rfl,
              fun i' o' g1 g2 g3 g4 => ?_, fun g => by omega, fun b' g1 g2 => ?_, fun u hu => ?_, fun u hu => ?_, M.ext.trans q4, M.below.trans q5⟩
          · rw [getD_set_ne false (by omega), hallal i' o' g1 g2 g3] at g4; cases g4
          · have hne : b' ≠ b := by
              rintro rfl
              rcases hb with hb | hb
              · omega
              · exact g2 hb
            exact (z2 b' hne).trans (M.unchH b' g1 g2)
          · exact M.unchT u (fun t' o' g1 g2 g3 => hu t' o' g1 (by omega) g3)
          · exact (M.tmps u (mset u hu)).mono q4

theorem late_sound (hG : GOK P G) (hm : P.follows .mixedOrders = true) {I : X} {nt : Nat} {ops : Array Oper} {id : Nat} {K : St → Prop} {Q : Exit → Act → World → Prop}
    (hQ : ∀ s μ a w, SR base O0 I nt s μ a w → K s → Q .normal a w) (hD : lateOKB ops (headLen ops.toList) = true) (hd : ∀ o ∈ ops.toList, ∀ d, o.dst = some d → d < nt)
    {s : St} {a : Act} (R : SR base O0 I nt s μ a w) (h : evLate (realE P) G ops.toList K s) : (Code.region id ops true).wp P Q a w := by
  have D := lateOK_of hD
  unfold evLate at h
  generalize headLen ops.toList = n at *
  obtain ⟨t, hp⟩ := s
  rw [takeO_eq, dropO_eq, lenB_eq] at h
  generalize tailBlks t (ops.toList.drop n) = ds at h
  obtain ⟨t2, h2, L, H2⟩ := lpath_of _ _ _ h
  obtain ⟨sN, T, hK⟩ := tpath_of _ _ H2
  replace L : LPath P G hp.length (killAll hp ds) (hpart ops n) t hp t2 h2 := L
  replace T : TPath P G hp.length ds (ops.toList.drop n) ⟨t2, h2⟩ sN := T
  have hget' : ∀ i o, (hpart ops n)[i]? = some o → i < n ∧ ops[i]? = some o := by
    intro i o hi
    rw [hpart, List.getElem?_take] at hi
    split at hi
    · exact ⟨‹_›, by simpa using hi⟩
    · cases hi
  have hget : ∀ i o, i < n → ops[i]? = some o → (hpart ops n)[i]? = some o := by
    intro i o hi ho
    rw [hpart, List.getElem?_take, if_pos hi]; simpa using ho
  have s2 : ∀ (i j : Nat) (o o' : Oper), (hpart ops n)[i]? = some o → (hpart ops n)[j]? = some o' → i < j → ∀ d, o.dst = some d → o'.dst ≠ some d := by
    intro i j o o' hi hj hij d hd'
    obtain ⟨g1, g2⟩ := hget' i o hi
    obtain ⟨g3, g4⟩ := hget' j o' hj
    exact D.apart i j o o' g1 g2 g4 (by omega) d hd'
  have s1 : ∀ (i j : Nat) (o o' : Oper), (hpart ops n)[i]? = some o → (hpart ops n)[j]? = some o' → i ≤ j → ∀ u ∈ o.looksAt ops, o'.dst ≠ some u := by
    intro i j o o' hi hj hij u hu hd'
    obtain ⟨g1, g2⟩ := hget' i o hi
    obtain ⟨g3, g4⟩ := hget' j o' hj
    obtain ⟨oj, hoj, e, he, hb, hon⟩ := Region.waitsFor_spec (D.looks i j o o' g1 g3 g2 g4 u hu hd')
    have : oj = o := Option.some.inj (hoj.symm.trans g2)
    subst this
    have := D.back i oj g2 e he hb
    omega
  have LL := lpath_len L
  have Llook := lpath_look L
  have inh : ∀ o ∈ hpart ops n, ∃ i, (hpart ops n)[i]? = some o := fun o ho => List.getElem?_of_mem ho
  have R' := R.grow0 (w' := { w with drawn := w.drawn + 1 }) (Below.refl _ _).drew
  obtain ⟨pH, pE⟩ := HR.pad R'.hr ((hpart ops n).filter isAl).length
  have N1 : ∀ i o, i < n → ops[i]? = some o → isAl o = true → ∀ u, o.dst ≠ some u → (lookT t2 u).no (slotOf hp.length (hpart ops n) i) := by
    intro i o hi ho hal u hu
    by_cases hw : ∃ o' ∈ hpart ops n, o'.dst = some u
    · obtain ⟨o', ho', hd'⟩ := hw
      obtain ⟨j, hj⟩ := inh o' ho'
      cases ha' : isAl o' with
      | true =>
        obtain ⟨ty, e⟩ := isAl_iff.1 ha'
        obtain ⟨d, sz, x, q1, q2, q3, q4⟩ := lpath_alloc L s2 j o' hj ty e
        rw [hd'] at q1
        obtain rfl := Option.some.inj q1
        rw [q4]
        show _ ≠ _
        intro e
        have := slot_inj hj ha' (hget i o hi ho) hal e
        subst this
        have : o' = o := Option.some.inj (hj.symm.trans (hget j o hi ho))
        subst this
        exact hu hd'
      | false =>
        obtain ⟨v, t1, q1, q2, q3, q4⟩ := lpath_pure (ops := ops) L s1 s2 j o' hj ha'
        rw [q4 u hd']
        exact AV.no_of_old q2 slot_ge
    · rw [Llook u (fun o' ho' hd' => hw ⟨o', ho', hd'⟩)]
      exact RelV.no (R'.tmps u) slot_ge
  have N2 : ∀ (b : Nat) (x : Blk), h2[b]? = some x → ∀ s, hp.length ≤ s → x.no s := by
    intro b x hb s hs
    rcases Nat.lt_or_ge b hp.length with g | g
    · rw [LL.2 b g] at hb
      exact HR.no R'.hr hb hs
    · -- a new one
      obtain ⟨i, o, ty, q1, q2, q3⟩ := lpath_cover L b g (List.getElem?_eq_some_iff.1 hb).1
      obtain ⟨d, sz, x', r1, r2, r3, r4⟩ := lpath_alloc L s2 i o q1 ty q2
      rw [q3, hb] at r3
      obtain rfl := Option.some.inj r3
      obtain ⟨cells, z, rfl, _, hz0, _, _⟩ := alloc_run hG r2
      intro r hr a ha
      simp at hr
      subst hr
      exact AV.no1_of_old (hz0 a ha) (Nat.zero_le _)
  refine wp_region_any hm ?_
  have hh2 : h2.length = (hp ++ List.replicate ((hpart ops n).filter isAl).length Blk.dead).length := by rw [LL.1]; simp
  refine mid2_wp hG D (I := I) (nt := nt) (t := t) (t2 := t2) (h2 := h2) (sN := sN) (hp := hp) (ds := ds) R.ext.len L N1 N2 hd (fun μ a w R => hQ sN μ a w R hK) ops.size _ a _ μ _ 0 ⟨t2, h2⟩ ?_
    ⟨R'.size, R'.defers, by simp, fun j oj hj hl => (by rw [getD_replicate_false] at hl; cases hl), fun t' h1 h2 => ?_, D.le, T, pH, ⟨hh2.symm, rfl⟩, fun b hb => ?_, fun i o h1 ho ha _ => ?_, fun _ => rfl, fun b hb _ => LL.2 b hb, fun _ _ => rfl, fun u hu => ?_, R'.ext.trans pE, R'.below⟩
  · rw [List.filter_eq_self.2]
    · simp
    · intro i hi
      rw [getD_replicate_false]
      rfl
  · rw [getD_replicate_false]; simp; omega
  · rcases Nat.lt_or_ge b hp.length with g | g
    · rw [List.getElem?_append_left g]; exact (LL.2 b g).symm
    · rcases Nat.lt_or_ge b h2.length with g' | g'
      · exfalso
        obtain ⟨i, o, ty, q1, q2, q3⟩ := lpath_cover L b g g'
        obtain ⟨k1, k2⟩ := hget' i o q1
        have := hb i o k1 k2 (isAl_iff.2 ⟨ty, q2⟩) q3
        rw [getD_replicate_false] at this; cases this
      · rw [List.getElem?_eq_none g', List.getElem?_eq_none (by rw [← hh2]; exact g')]
  · have := (List.getElem?_eq_some_iff.1 (lpath_slot L s2 i o (hget i o h1 ho) ha).choose_spec).1
    have g := slot_ge (n0 := hp.length) (l := hpart ops n) (i := i)
    rw [List.getElem?_append_right g, List.getElem?_replicate, if_pos (by rw [LL.1] at this; omega)]
  · refine RelV.mono pE ?_
    have hnw : ∀ o ∈ hpart ops n, o.dst ≠ some u := by
      intro o ho hd'
      obtain ⟨i, hi⟩ := inh o ho
      obtain ⟨k1, k2⟩ := hget' i o hi
      have := hu i o k1 k2 hd'
      rw [getD_replicate_false] at this; cases this
    show RelV _ (lookT t2 u) _
    rw [Llook u hnw]
    exact R'.tmps u
end
end Go.Proofs.Ytincnfjihffllaa.Ev
