/- Handing on: what is the call's own becomes what is only read. -/
import Derived.Test.YtincnfjihffllaaEv17
namespace Go.Proofs.Ytincnfjihffllaa.Ev
open Go Go.RowKit
set_option linter.unusedVariables false
set_option linter.unusedSimpArgs false

/-- are the rows of this block fit to be handed on? -/
def clean1 (h : List Blk) : AV → Prop
  | .ms b _ _ _ => match getBlk h b with
    | .rows _ _ _ l => allB (allB AV.mf1) l = true
    | _ => True
  | _ => True
def cleanL (h : List Blk) : List AV → Prop
  | [] => True
  | x :: r => clean1 h x ∧ cleanL h r
def clean (h : List Blk) : AV → Prop
  | .agg cs => cleanL h cs
  | .fn _ cs => cleanL h cs
  | x => clean1 h x
def cleanA (h : List Blk) : List AV → Prop
  | [] => True
  | x :: r => clean h x ∧ cleanA h r

section
variable {P : Program} {G : Nat → TI} {base : Nat} {O0 : Nat → Prop} {μ : Nat → Nat} {hp : List Blk} {w w' : World}

/-- what freezing makes of the blocks -/
structure Frz (base : Nat) (O0 : Nat → Prop) (μ : Nat → Nat) (hp : List Blk) (w : World) (h' : List Blk) : Prop where
  hr : HR base O0 μ h' w
  ext : Ext (mkX base O0 μ hp w) (mkX base O0 μ h' w)
  rows : ∀ b, (∃ wr sz d l, getBlk h' b = .rows wr sz d l) → ∃ wr sz d l wr', getBlk h' b = .rows wr sz d l ∧ getBlk hp b = .rows wr' sz d l

theorem Frz.refl (H : HR base O0 μ hp w) : Frz base O0 μ hp w hp := ⟨H, Ext.refl _, fun b ⟨wr, sz, d, l, h⟩ => ⟨wr, sz, d, l, wr, h, h⟩⟩
theorem Frz.trans {h1 h2 : List Blk} (a : Frz base O0 μ hp w h1) (b : Frz base O0 μ h1 w h2) : Frz base O0 μ hp w h2 := by
  refine ⟨b.hr, a.ext.trans b.ext, fun c hc => ?_⟩
  obtain ⟨wr, sz, d, l, wr', e1, e2⟩ := b.rows c hc
  obtain ⟨wr2, sz2, d2, l2, wr3, e3, e4⟩ := a.rows c ⟨_, _, _, _, e2⟩
  rw [e2] at e3
  injection e3 with _ e5 e6 e7
  subst e5 e6 e7
  exact ⟨wr, sz, d, l, wr3, e1, e4⟩

theorem Frz.clean1 {h1 : List Blk} (a : Frz base O0 μ hp w h1) {x : AV} (h : clean1 hp x) : Ev.clean1 h1 x := by
  cases x <;> try trivial
  rename_i b sz row len
  dsimp only [Ev.clean1] at *
  split
  · rename_i wr sz d l hb
    obtain ⟨wr, sz, d, l, wr', e1, e2⟩ := a.rows b ⟨_, _, _, _, hb⟩
    rw [hb] at e1
    injection e1 with _ _ _ e1
    subst e1
    rw [e2] at h
    exact h
  · trivial
theorem Frz.cleanL {h1 : List Blk} (a : Frz base O0 μ hp w h1) {l : List AV} (h : cleanL hp l) : Ev.cleanL h1 l := by
  induction l with
  | nil => trivial
  | cons x r ih => exact ⟨a.clean1 h.1, ih h.2⟩
theorem Frz.clean {h1 : List Blk} (a : Frz base O0 μ hp w h1) {x : AV} (h : clean hp x) : Ev.clean h1 x := by
  cases x <;> simp only [Ev.clean] at h ⊢ <;> first | exact a.cleanL h | exact a.clean1 h

theorem turn_frz (H : HR base O0 μ hp w) {b : Nat} {x : Blk} {y : Blk} (hb : hp[b]? = some y) (hx : x.wr = false) (hd : x.dim = y.dim) (hrow : ∀ wr sz d l, x = .rows wr sz d l → ∃ wr', y = .rows wr' sz d l)
    (hB : BlkR (mkX base O0 μ hp w) (μ b) y → BlkR (mkX base O0 μ (hp.set b x) w) (μ b) y → BlkR (mkX base O0 μ (hp.set b x) w) (μ b) x) :
    Frz base O0 μ hp w (hp.set b x) := by
  have hb0 : b < hp.length := (List.getElem?_eq_some_iff.1 hb).1
  have hdim : x.dim = dimB hp b := by rw [hd]; simp [dimB, hb]
  have e := Ext.turn H (b := b) (x := x) (.inr rfl) (fun h => by rw [hx] at h; cases h) (.inr hdim) rfl (fun _ _ => rfl) (fun _ h => h)
  have hblk := H.blk b y hb
  refine ⟨HR.turn H hb0 (.inr rfl) (fun h => by rw [hx] at h; cases h) (.inr hdim) rfl (fun _ _ => rfl) (fun _ h => h) (hB hblk (hblk.mono e rfl)), e, fun c hc => ?_⟩
  obtain ⟨wr, sz, d, l, hc⟩ := hc
  have hc' := hc
  rw [getBlk_eq, List.getElem?_set] at hc
  split at hc
  · rename_i he
    subst he
    simp only [hb0, if_true, Option.getD_some] at hc
    obtain ⟨wr', hy⟩ := hrow wr sz d l hc
    exact ⟨wr, sz, d, l, wr', hc', by rw [getBlk_eq, hb]; exact hy⟩
  · exact ⟨wr, sz, d, l, wr, hc', by rw [getBlk_eq]; exact hc⟩

theorem okO_frozen (H : HR base O0 μ hp w) {b : Nat} {x y : Blk} (hb : hp[b]? = some y) (hy : y.dim ≠ none) (hx : x.wr = false) : okO base O0 μ (hp.set b x) w (μ b) := by
  have hb0 : b < hp.length := (List.getElem?_eq_some_iff.1 hb).1
  have hdim : dimB hp b ≠ none := by simpa [dimB, hb] using hy
  refine .inr ⟨H.low b hdim, H.lt hdim, fun b' hb' e => ?_⟩
  have hwr : wrB hp b' = true ∧ b' ≠ b := by
    unfold wrB at hb' ⊢
    rw [List.getElem?_set] at hb'
    split at hb'
    · rename_i he
      simp [hx] at hb'
    · exact ⟨hb', fun h => absurd h.symm (by assumption)⟩
  exact hwr.2 (H.inj b' b hwr.1 hdim e)

theorem frz1_sound (H : HR base O0 μ hp w) {v : AV} {val : Value} (hv : LeafR (mkX base O0 μ hp w) v val) (hc : clean1 hp v) {y : AV} {h' : List Blk} (h : frz1 (realE P) hp v = some (y, h')) :
    Frz base O0 μ hp w h' ∧ RoV (okO base O0 μ h' w) w y val := by
  have plain : v.mf1 = true → y = v ∧ h' = hp → Frz base O0 μ hp w h' ∧ RoV (okO base O0 μ h' w) w y val := by
    rintro hm ⟨rfl, rfl⟩
    exact ⟨.refl H, ro_of_leaf hv hm⟩
  cases v <;> simp only [frz1, Option.some.injEq, Prod.mk.injEq, reduceCtorEq] at h
  case ms b sz row len =>
    obtain ⟨hb, h0, h1, A, cap, rfl, hle, hA, hd⟩ := (show LeafR _ (.ms b sz row len) val from hv)
    split at h
    · rename_i wr k l hblk
      have hb' := getBlk_some hblk (by simp)
      injection h with h
      injection h with e1 e2
      rw [setBlk_eq] at e2
      have hdim : dimB hp b = some (l.length, 1) := by simp [dimB, hb', Blk.dim]
      obtain ⟨q1, q2, e', mm, q3, q4⟩ := hd _ _ hdim
      subst q2 e2
      refine ⟨turn_frz H hb' rfl rfl (fun _ _ _ _ h => by cases h) (fun _ h => h), ?_⟩
      have hy : y = .sli k ((l.drop row.val.toNat).take len.val.toNat) := by
        rw [← e1]
        cases row with
        | l i => cases i with
          | ofNat n => cases n <;> rfl
          | negSucc n => rfl
        | s i => rfl
      rw [hy]
      have hlen : ((l.drop row.val.toNat).take len.val.toNat).length = len.val.toNat := by simp; omega
      by_cases hz : len.val.toNat = 0
      · rw [hz]
        simp only [List.take_zero]
        exact .sliN _ _ _
      · obtain ⟨ca, e, hcell, hh⟩ := H.blk b _ hb'
        have hcellw : w.heap[μ b]? = some (.cells ca e (0, 0)) := hcell
        rw [hA (by omega), Nat.mul_one]
        have := RoV.sli (O := okO base O0 μ (hp.set b (.ints false k l)) w) (w := w) k ((l.drop row.val.toNat).take len.val.toNat) ⟨μ b, row.val.toNat, none⟩ cap rfl
          (okO_frozen H hb' (by simp [Blk.dim]) rfl) (by rw [hlen]; exact hle) (fun i n hi => by
            rw [List.getElem?_take] at hi
            split at hi
            · rw [List.getElem?_drop] at hi
              simp only [World.cell?, hcellw]
              exact hh _ n hi
            · cases hi)
        rw [hlen] at this
        exact this
    · rename_i wr bsz d l hblk
      have hb' := getBlk_some hblk (by simp)
      injection h with h
      injection h with e1 e2
      rw [setBlk_eq] at e2
      have hdim : dimB hp b = some (l.length, bsz) := by simp [dimB, hb', Blk.dim]
      obtain ⟨q1, q2, e', mm, q3, q4⟩ := hd _ _ hdim
      subst q2 e2 e1
      have F : Frz base O0 μ hp w (hp.set b (.rows false bsz d l)) := turn_frz H hb' rfl rfl (fun _ _ _ _ h => by injection h with _ e1 e2 e3; subst e1 e2 e3; exact ⟨wr, rfl⟩) (fun _ h => h)
      refine ⟨F, ?_⟩
      by_cases hz : len.val.toNat = 0
      · have : len.val = 0 := by omega
        rw [hz]
        exact .slcN _ _ _ _ _ this
      · obtain ⟨hdl, ca, e, hcell, hh⟩ := H.blk b _ hb'
        have hcellw : w.heap[μ b]? = some (.cells ca e (0, 0)) := hcell
        have hcl : allB (allB AV.mf1) l = true := by
          dsimp only [Ev.clean1] at hc
          rw [hblk] at hc
          exact hc
        rw [allB_eq, List.all_eq_true] at hcl
        rw [hA (by omega)]
        have hget : ∀ i, i < len.val.toNat → ∃ r, l[row.val.toNat + i]? = some r ∧ (realE P).rfun l row.val d i = r := by
          intro i hi
          have hlt : row.val.toNat + i < l.length := by omega
          exact ⟨l[row.val.toNat + i], List.getElem?_eq_getElem hlt, by simp [realE, List.getD, List.getElem?_eq_getElem hlt]⟩
        refine RoV.slc bsz len _ ⟨μ b, row.val.toNat * bsz, none⟩ cap (fun i j => ca.getD ((row.val.toNat + i) * bsz + j) undef) rfl
          (okO_frozen H hb' (by simp [Blk.dim]) rfl) h1 hle (fun i hi => ?_) (fun i j c hi hj => ?_) (fun i j c hi hj => ?_)
        · obtain ⟨r, e1, e2⟩ := hget i hi
          rw [e2]; exact (hh _ r e1).1
        · obtain ⟨r, e1, e2⟩ := hget i hi
          rw [e2] at hj
          obtain ⟨y, e3, e4⟩ := (hh _ r e1).2 j c hj
          simp only [World.cell?, hcellw]
          rw [show row.val.toNat * bsz + (i * bsz + j) = (row.val.toNat + i) * bsz + j by rw [Nat.add_mul]; omega, e3, Array.getD_eq_getD_getElem?, e3]
          rfl
        · obtain ⟨r, e1, e2⟩ := hget i hi
          rw [e2] at hj
          obtain ⟨y, e3, e4⟩ := (hh _ r e1).2 j c hj
          have hm := hcl r (List.mem_of_getElem? e1)
          rw [allB_eq, List.all_eq_true] at hm
          have := ro_of_leaf e4 (hm c (List.mem_of_getElem? hj))
          rw [Array.getD_eq_getD_getElem?, e3]
          exact this.mono F.ext.o F.ext.cell
    · cases h
  case lit x => exact plain rfl ⟨h.1.symm, h.2.symm⟩
  case int k n => exact plain rfl ⟨h.1.symm, h.2.symm⟩
  case bool b => exact plain rfl ⟨h.1.symm, h.2.symm⟩
  case str s => exact plain rfl ⟨h.1.symm, h.2.symm⟩
  case sli k l => exact plain rfl ⟨h.1.symm, h.2.symm⟩
  case slc sz n f => exact plain rfl ⟨h.1.symm, h.2.symm⟩
  case s0 => exact plain rfl ⟨h.1.symm, h.2.symm⟩
  case rp cs => exact plain rfl ⟨h.1.symm, h.2.symm⟩
  case fn f cs =>
    obtain ⟨rfl, rfl⟩ := h
    exact ⟨.refl H, hv⟩

theorem frzL_sound : ∀ (l : List AV) (hp : List Blk) (Y : Nat → Value), HR base O0 μ hp w → (∀ (j : Nat) (c : AV), l[j]? = some c → LeafR (mkX base O0 μ hp w) c (Y j)) → cleanL hp l →
    ∀ {ys : List AV} {h' : List Blk}, frzL (realE P) hp l = some (ys, h') → Frz base O0 μ hp w h' ∧ ys.length = l.length ∧ ∀ (j : Nat) (c : AV), ys[j]? = some c → RoV (okO base O0 μ h' w) w c (Y j)
  | [], hp, Y, H, _, _, ys, h', h => by
    simp only [frzL, Option.some.injEq, Prod.mk.injEq] at h
    obtain ⟨rfl, rfl⟩ := h
    exact ⟨.refl H, rfl, fun j c hj => by simp at hj⟩
  | x :: r, hp, Y, H, hv, hc, ys, h', h => by
    simp only [frzL] at h
    split at h
    · rename_i y h1 he
      split at h
      · rename_i ys' h2 he2
        simp only [Option.some.injEq, Prod.mk.injEq] at h
        obtain ⟨rfl, rfl⟩ := h
        obtain ⟨F1, q1⟩ := frz1_sound H (hv 0 x rfl) hc.1 he
        obtain ⟨F2, q2, q3⟩ := frzL_sound r h1 (fun j => Y (j + 1)) F1.hr (fun j c hj => (hv (j + 1) c (by simpa using hj)).mono F1.ext) (F1.cleanL hc.2) he2
        refine ⟨F1.trans F2, by simp [q2], fun j c hj => ?_⟩
        cases j with
        | zero => simp at hj; subst hj; exact q1.mono F2.ext.o F2.ext.cell
        | succ j => exact q3 j c (by simpa using hj)
      · cases h
    · cases h

theorem frz_sound (H : HR base O0 μ hp w) {v : AV} {val : Value} (hv : AggR (mkX base O0 μ hp w) v val) (hc : clean hp v) {y : AV} {h' : List Blk} (h : frz (realE P) hp v = some (y, h')) :
    Frz base O0 μ hp w h' ∧ RoV (okO base O0 μ h' w) w y val := by
  have key : (∀ cs, v ≠ .agg cs) → (∀ f cs, v ≠ .fn f cs) → Frz base O0 μ hp w h' ∧ RoV (okO base O0 μ h' w) w y val := by
    intro n1 n2
    have hv' : LeafR (mkX base O0 μ hp w) v val := by
      unfold AggR at hv
      split at hv
      · exact absurd rfl (n1 _)
      · exact absurd rfl (n2 _ _)
      · exact hv
    have hc' : Ev.clean1 hp v := by
      unfold Ev.clean at hc
      split at hc
      · exact absurd rfl (n1 _)
      · exact absurd rfl (n2 _ _)
      · exact hc
    have h'' : frz1 (realE P) hp v = some (y, h') := by
      unfold frz at h
      split at h
      · exact absurd rfl (n1 _)
      · exact absurd rfl (n2 _ _)
      · exact h
    exact frz1_sound H hv' hc' h''
  cases v
  case agg cs =>
    simp only [frz] at h
    split at h
    · rename_i ys h1 he
      simp only [Option.some.injEq, Prod.mk.injEq] at h
      obtain ⟨rfl, rfl⟩ := h
      obtain ⟨zs, rfl, hl, hh⟩ := hv
      obtain ⟨F, q1, q2⟩ := frzL_sound cs hp (fun j => zs.getD j undef) H hh hc he
      exact ⟨F, .agg _ _ (by omega) q2⟩
    · cases h
  case fn f cs =>
    simp only [frz] at h
    split at h
    · rename_i ys h1 he
      simp only [Option.some.injEq, Prod.mk.injEq] at h
      obtain ⟨rfl, rfl⟩ := h
      obtain ⟨zs, rfl, hl, hh⟩ := hv
      obtain ⟨F, q1, q2⟩ := frzL_sound cs hp (fun j => zs.getD j undef) H hh hc he
      exact ⟨F, .fn _ _ _ (by omega) q2⟩
    · cases h
  all_goals exact key (by simp) (by simp)

theorem frzA_sound : ∀ (l : List AV) (hp : List Blk) (Y : Nat → Value), HR base O0 μ hp w → (∀ (j : Nat) (c : AV), l[j]? = some c → AggR (mkX base O0 μ hp w) c (Y j)) → cleanA hp l →
    ∀ {ys : List AV} {h' : List Blk}, frzA (realE P) hp l = some (ys, h') → Frz base O0 μ hp w h' ∧ ys.length = l.length ∧ ∀ (j : Nat) (c : AV), ys[j]? = some c → RoV (okO base O0 μ h' w) w c (Y j)
  | [], hp, Y, H, _, _, ys, h', h => by
    simp only [frzA, Option.some.injEq, Prod.mk.injEq] at h
    obtain ⟨rfl, rfl⟩ := h
    exact ⟨.refl H, rfl, fun j c hj => by simp at hj⟩
  | x :: r, hp, Y, H, hv, hc, ys, h', h => by
    simp only [frzA] at h
    split at h
    · rename_i y h1 he
      split at h
      · rename_i ys' h2 he2
        simp only [Option.some.injEq, Prod.mk.injEq] at h
        obtain ⟨rfl, rfl⟩ := h
        obtain ⟨F1, q1⟩ := frz_sound H (hv 0 x rfl) hc.1 he
        have hc2 : cleanA h1 r := by
          have := hc.2
          clear he2 hv hc
          induction r with
          | nil => trivial
          | cons x r ih => exact ⟨F1.clean this.1, ih this.2⟩
        obtain ⟨F2, q2, q3⟩ := frzA_sound r h1 (fun j => Y (j + 1)) F1.hr (fun j c hj => (hv (j + 1) c (by simpa using hj)).mono F1.ext) hc2 he2
        refine ⟨F1.trans F2, by simp [q2], fun j c hj => ?_⟩
        cases j with
        | zero => simp at hj; subst hj; exact q1.mono F2.ext.o F2.ext.cell
        | succ j => exact q3 j c (by simpa using hj)
      · cases h
    · cases h
end
end Go.Proofs.Ytincnfjihffllaa.Ev
