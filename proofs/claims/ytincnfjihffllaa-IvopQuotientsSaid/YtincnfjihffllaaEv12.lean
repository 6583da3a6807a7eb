/- The evaluator's operations on the call's own memory do what the model's do: stores, rows that are made. -/
import Derived.Test.YtincnfjihffllaaEv11
namespace Go.Proofs.Ytincnfjihffllaa.Ev
open Go Go.RowKit
set_option linter.unusedVariables false
set_option linter.unusedSimpArgs false

section
variable {P : Program} {G : Nat → TI} {base : Nat} {O0 : Nat → Prop} {μ : Nat → Nat} {hp : List Blk} {w w' : World}

/-! ### stores -/
/-- a block in which some cells have turned -/
structure Turned (g : Nat) (w w' : World) (c c' : Array Value) (e : TypeId) : Prop where
  size : w'.heap.size = w.heap.size
  other : ∀ k, k ≠ g → w'.heap[k]? = w.heap[k]?
  os : w'.os = w.os
  tape : w'.tape = w.tape
  output : w'.output = w.output
  blk : w'.heap[g]? = some (.cells c' e (0, 0))
  csize : c'.size = c.size

theorem run_storeCells {g off : Nat} {e : TypeId} : ∀ (vs : List Value) (i : Nat) (w : World) (c : Array Value), w.heap[g]? = some (.cells c e (0, 0)) → (∀ v ∈ vs, v.oneCell' = true) →
    off + i + vs.length ≤ c.size → ∃ w' c', (storeCells ⟨g, off, none⟩ vs i).run P w = .ok () w' ∧ Turned g w w' c c' e ∧
      ∀ q, c'.getD q undef = if off + i ≤ q ∧ q < off + i + vs.length then (vs[q - (off + i)]?).getD undef else c.getD q undef
  | [], i, w, c, hg, _, _ => ⟨w, c, rfl, ⟨rfl, fun _ _ => rfl, rfl, rfl, rfl, hg, rfl⟩, fun q => by rw [if_neg (by simp)]⟩
  | v :: vs, i, w, c, hg, h1, h2 => by
    simp only [List.length_cons] at h2
    have hcell : w.cell? ⟨g, off + i, none⟩ = some (c.getD (off + i) undef) := by
      simp only [World.cell?, hg]
      exact some_of_getD (by omega)
    have hfr : w.frozen? ⟨g, off + i, none⟩ = false := by
      simp [World.frozen?, hg]
    have hg' : (w.setCell ⟨g, off + i, none⟩ v).heap[g]? = some (.cells (c.setIfInBounds (off + i) v) e (0, 0)) := by
      simp only [World.setCell, Array.getElem?_modify, if_pos trivial, hg]
      rfl
    obtain ⟨w', c', r1, T, r2⟩ := run_storeCells (off := off) (e := e) vs (i + 1) (w.setCell ⟨g, off + i, none⟩ v) (c.setIfInBounds (off + i) v) hg' (fun v hv => h1 v (by simp [hv])) (by simp; omega)
    refine ⟨w', c', ?_, ⟨by rw [T.size]; simp [World.setCell], fun k hk => by rw [T.other k hk]; exact Below.heap_setCell _ _ _ _ (by exact hk), T.os, T.tape, T.output, T.blk, by rw [T.csize]; simp⟩, fun q => ?_⟩
    · simp only [storeCells, Sem.run_bind]
      rw [addr_add rfl, run_store P w _ v _ (h1 v (by simp))]
      simp only [hcell, hfr, Bool.false_eq_true, if_false, Result.andThen_ok]
      exact r1
    · rw [r2 q]
      by_cases hq0 : q = off + i
      · subst hq0
        rw [if_neg (by omega), if_pos (by simp)]
        simp [Array.getD_eq_getD_getElem?, show off + i < c.size by omega]
      · by_cases hin : off + (i + 1) ≤ q ∧ q < off + (i + 1) + vs.length
        · rw [if_pos hin, if_pos (by simp; omega)]
          have : q - (off + i) = (q - (off + (i + 1))) + 1 := by omega
          rw [this, List.getElem?_cons_succ]
        · rw [if_neg hin, if_neg (by simp; omega)]
          simp [Array.getD_eq_getD_getElem?, Array.getElem?_setIfInBounds_ne (by omega : off + i ≠ q)]

theorem Turned.below {g : Nat} {c c' : Array Value} {e : TypeId} (T : Turned g w w' c c' e) (hg : base ≤ g) : Below base w w' :=
  ⟨T.os, T.tape, T.output, by rw [T.size]; exact Nat.le_refl _, fun k hk => T.other k (by omega)⟩

theorem Turned.shape {g : Nat} {c c' : Array Value} {e : TypeId} {fr : Nat × Nat} (T : Turned g w w' c c' e) (h : w.heap[g]? = some (.cells c e fr)) : ∀ s, w.shape? g = some s → w'.shape? g = some s := by
  intro s hs
  simp only [World.shape?, h] at hs
  simp only [World.shape?, T.blk, T.csize]
  exact hs

theorem storeAs_sound (H : HR base O0 μ hp w) {tsz : Nat} {p v : AV} {vp vv : Value} (hp' : RelV (mkX base O0 μ hp w) p vp) (hv : RelV (mkX base O0 μ hp w) v vv) {K : List Blk → Prop}
    (h : storeAs (realE P) hp tsz p v K) : ∃ a w' h', vp = .pointer (some a) ∧ vv.cells.size = tsz ∧ (storeCells a vv.cells.toList).run P w = .ok () w' ∧ K h' ∧ HR base O0 μ h' w' ∧
      Ext (mkX base O0 μ hp w) (mkX base O0 μ h' w') ∧ Below base w w' := by
  unfold storeAs at h
  split at h
  · rename_i b psz row col
    obtain ⟨hb, h0, rfl, hd⟩ := (show LeafR _ (.ptr b psz row col) vp from hp')
    split at h
    · rename_i k l hblk
      have hb' := getBlk_some hblk (by simp)
      split at h
      · rename_i k' n
        cases hc : Nat.beq tsz 1 && Nat.beq col 0 && ikEq k k' with
        | false => rw [hc] at h; exact h.elim
        | true =>
          rw [hc, cond_true] at h
          simp only [Bool.and_eq_true] at hc
          have e1 := Nat.eq_of_beq_eq_true hc.1.1
          have e2 := Nat.eq_of_beq_eq_true hc.1.2
          have e3 := ikEq_eq hc.2
          subst e1 e2 e3
          have hvv := hv.int_inv
          subst hvv
          obtain ⟨c, e, hcell, hh⟩ := H.blk b _ hb'
          have hdim : dimB hp b = some (l.length, 1) := by simp [dimB, hb', Blk.dim]
          have hwr : wrB hp b = true := by simp [wrB, hb', Blk.wr]
          obtain ⟨hlt, hsz⟩ := hd _ _ hdim
          subst hsz
          have hcellw : w.heap[μ b]? = some (.cells c e (0, 0)) := hcell
          have hcl : row.val.toNat < c.size := by
            have := hh row.val.toNat l[row.val.toNat] (List.getElem?_eq_getElem hlt)
            exact (Array.getElem?_eq_some_iff.1 this).1
          obtain ⟨w', c', r1, T, r2⟩ := run_storeCells (P := P) (off := row.val.toNat * 1 + 0) [.int k n.val] 0 w c hcellw (by simp [Value.oneCell']) (by simp; omega)
          rw [setBlk_eq] at h
          have hx : BlkR (mkX base O0 μ (hp.set b (.ints true k (l.set row.val.toNat n.val))) w') (μ b) (.ints true k (l.set row.val.toNat n.val)) := by
            refine ⟨c', e, T.blk, fun i m hi => ?_⟩
            have hil : i < l.length := by have := (List.getElem?_eq_some_iff.1 hi).1; simpa using this
            have hic : i < c'.size := by
              rw [T.csize]
              have := hh i l[i] (List.getElem?_eq_getElem hil)
              exact (Array.getElem?_eq_some_iff.1 this).1
            rw [some_of_getD hic, r2 i]
            rw [List.getElem?_set] at hi
            by_cases hri : row.val.toNat = i
            · subst hri
              rw [if_pos rfl, if_pos hil] at hi
              injection hi with hi
              subst hi
              rw [if_pos (by simp only [List.length_singleton]; omega)]
              simp
            · rw [if_neg hri] at hi
              rw [if_neg (by simp only [List.length_singleton]; omega)]
              rw [← some_of_getD (by rw [← T.csize]; exact hic)]
              exact hh i m hi
          exact ⟨_, w', _, rfl, rfl, r1, h, HR.turn H hb (.inl hwr) (fun _ => hwr) (.inr (by rw [hdim]; simp [Blk.dim, realE])) T.size T.other (T.shape hcellw) hx,
            Ext.turn H (.inl hwr) (fun _ => hwr) (.inr (by rw [hdim]; simp [Blk.dim, realE])) T.size T.other (T.shape hcellw), T.below (H.low b (by rw [hdim]; simp))⟩
      · exact h.elim
    · rename_i rsz d' l hblk
      have hb' := getBlk_some hblk (by simp)
      obtain ⟨hdl, c, e, hcell, hh⟩ := H.blk b _ hb'
      have hdim : dimB hp b = some (l.length, rsz) := by simp [dimB, hb', Blk.dim]
      have hwr : wrB hp b = true := by simp [wrB, hb', Blk.wr]
      obtain ⟨hlt, hsz⟩ := hd _ _ hdim
      subst hsz
      have hcellw : w.heap[μ b]? = some (.cells c e (0, 0)) := hcell
      have hrow : rowAt (realE P) l d' row = l[row.val.toNat] := by
        cases row with
        | l i => simp only [rowAt, getRow_eq l i h0]; simp only [SI.val] at hlt; simp [List.getD, List.getElem?_eq_getElem hlt, SI.val]
        | s i => simp only [rowAt, realE]; simp only [SI.val] at hlt; simp [List.getD, List.getElem?_eq_getElem hlt, SI.val]
      have hput : ∀ r, rowPut (realE P) l r row = l.set row.val.toNat r := by
        intro r
        cases row with
        | l i => simp only [rowPut, setRow_eq l i r h0]; rfl
        | s i => rfl
      obtain ⟨hrl, hrc⟩ := hh _ _ (List.getElem?_eq_getElem hlt)
      rw [hrow] at h
      cases hc : Nat.beq (lenC v.cells) tsz && Nat.ble (col + lenC v.cells) (lenC l[row.val.toNat]) && Nat.beq (lenC l[row.val.toNat]) rsz && allB AV.leaf v.cells with
      | false => rw [hc] at h; exact h.elim
      | true =>
        rw [hc, cond_true] at h
        simp only [Bool.and_eq_true, lenC_eq] at hc
        have e1 := Nat.eq_of_beq_eq_true hc.1.1.1
        have e2 := Nat.le_of_ble_eq_true hc.1.1.2
        obtain ⟨k1, k2⟩ := rel_cells hv hc.2
        rw [hput, setBlk_eq] at h
        have hrowle : row.val.toNat * rsz + rsz ≤ c.size := by
          cases hz : rsz with
          | zero => rw [Nat.mul_zero]; omega
          | succ m =>
            have hlast : m < (l[row.val.toNat]).length := by omega
            obtain ⟨y, q1, q2⟩ := hrc m _ (List.getElem?_eq_getElem hlast)
            have := (Array.getElem?_eq_some_iff.1 q1).1
            rw [hz] at this
            omega
        obtain ⟨w', c', r1, T, r2⟩ := run_storeCells (P := P) (off := row.val.toNat * rsz + col) vv.cells.toList 0 w c hcellw (fun u hu => by
          obtain ⟨j, hj, rfl⟩ := List.getElem_of_mem hu
          have hj' : j < v.cells.length := by rw [← k1]; simpa using hj
          have := k2 j _ (List.getElem?_eq_getElem hj')
          have hone := leafR_one this.1 this.2
          have : vv.cells.getD j undef = vv.cells.toList[j] := by
            rw [Array.getD_eq_getD_getElem?, Array.getElem?_eq_getElem (by simpa using hj)]
            simp
          rwa [this] at hone) (by simp; omega)
        simp only [Nat.add_zero, Array.length_toList] at r2
        have hx : BlkR (mkX base O0 μ (hp.set b (.rows true rsz d' (l.set row.val.toNat (splice l[row.val.toNat] col v.cells)))) w') (μ b) (.rows true rsz d' (l.set row.val.toNat (splice l[row.val.toNat] col v.cells))) := by
          have ex := Ext.turn H (x := .rows true rsz d' (l.set row.val.toNat (splice l[row.val.toNat] col v.cells))) (.inl hwr) (fun _ => hwr) (.inr (by rw [hdim]; simp [Blk.dim])) T.size T.other (T.shape hcellw)
          refine ⟨hdl, c', e, T.blk, fun i r hi => ?_⟩
          rw [List.getElem?_set] at hi
          by_cases hri : row.val.toNat = i
          · subst hri
            rw [if_pos rfl, if_pos hlt] at hi
            injection hi with hi
            subst hi
            refine ⟨by rw [splice_length]; exact hrl, fun j a hj => ?_⟩
            rw [splice_get _ _ _ _ (by omega)] at hj
            have hjl : j < rsz := by
              split at hj
              · omega
              · have := (List.getElem?_eq_some_iff.1 hj).1; omega
            have hic : row.val.toNat * rsz + j < c'.size := by rw [T.csize]; omega
            refine ⟨_, some_of_getD hic, ?_⟩
            rw [r2]
            split at hj
            · rename_i hin
              rw [if_pos (by omega)]
              have := (k2 _ a hj).1
              have he : (vv.cells.toList[row.val.toNat * rsz + j - (row.val.toNat * rsz + col)]?).getD undef = vv.cells.getD (j - col) undef := by
                rw [show row.val.toNat * rsz + j - (row.val.toNat * rsz + col) = j - col by omega]
                simp [Array.getD_eq_getD_getElem?]
              rw [he]
              exact this.mono ex
            · rename_i hin
              rw [if_neg (by omega)]
              obtain ⟨y, q1, q2⟩ := hrc j a hj
              have : c.getD (row.val.toNat * rsz + j) undef = y := by rw [Array.getD_eq_getD_getElem?, q1]; rfl
              rw [this]
              exact q2.mono ex
          · rw [if_neg hri] at hi
            obtain ⟨g1, g2⟩ := hh i r hi
            refine ⟨g1, fun j a hj => ?_⟩
            obtain ⟨y, q1, q2⟩ := g2 j a hj
            have hjl := (List.getElem?_eq_some_iff.1 hj).1
            have hic : i * rsz + j < c'.size := by rw [T.csize]; exact (Array.getElem?_eq_some_iff.1 q1).1
            refine ⟨_, some_of_getD hic, ?_⟩
            rw [r2]
            have hne : ¬ (row.val.toNat * rsz + col ≤ i * rsz + j ∧ i * rsz + j < row.val.toNat * rsz + col + vv.cells.size) := by
              rintro ⟨u1, u2⟩
              rcases Nat.lt_or_gt_of_ne hri with hlt2 | hlt2
              · have := Nat.mul_le_mul_right rsz (Nat.succ_le_of_lt hlt2)
                rw [Nat.succ_mul] at this
                omega
              · have := Nat.mul_le_mul_right rsz (Nat.succ_le_of_lt hlt2)
                rw [Nat.succ_mul] at this
                omega
            rw [if_neg hne]
            have : c.getD (i * rsz + j) undef = y := by rw [Array.getD_eq_getD_getElem?, q1]; rfl
            rw [this]
            exact q2.mono ex
        exact ⟨_, w', _, rfl, by omega, r1, h, HR.turn H hb (.inl hwr) (fun _ => hwr) (.inr (by rw [hdim]; simp [Blk.dim])) T.size T.other (T.shape hcellw) hx,
          Ext.turn H (.inl hwr) (fun _ => hwr) (.inr (by rw [hdim]; simp [Blk.dim])) T.size T.other (T.shape hcellw), T.below (H.low b (by rw [hdim]; simp))⟩
    · exact h.elim
  · exact h.elim

theorem store_sound (hG : GOK P G) (H : HR base O0 μ hp w) {t : Nat} {p v : AV} {vp vv : Value} (hp' : RelV (mkX base O0 μ hp w) p vp) (hv : RelV (mkX base O0 μ hp w) v vv) {K : List Blk → Prop}
    (h : store (realE P) G hp t p v K) : ∃ w' h', (Instr.storeAt t vp vv).run P w = .ok () w' ∧ K h' ∧ HR base O0 μ h' w' ∧
      Ext (mkX base O0 μ hp w) (mkX base O0 μ h' w') ∧ Below base w w' := by
  unfold store at h
  split at h
  · exact h.elim
  · rename_i k sz by_ z fl hne hk
    obtain ⟨i, d, z', T⟩ := hG.tok hk hne
    obtain ⟨a, w', h', rfl, e1, e2, e3, e4, e5, e6⟩ := storeAs_sound H hp' hv h
    refine ⟨w', h', ?_, e3, e4, e5, e6⟩
    simp only [Instr.storeAt, Instr.sureAddr, storeVar, Sem.run_bind, Sem.run_pure, Result.andThen_ok, run_sizeOf' T.info, T.size, e1, ne_eq, not_true_eq_false, if_false, e2]

/-! ### rows that are made -/
theorem i64_small {n : Int} (h0 : 0 ≤ n) (h1 : n ≤ most) : IntKind.i64.wrap n = n := by
  unfold most at h1
  have hm : n % (2 ^ 64 : Int) = n := by omega
  simp only [IntKind.wrap, IntKind.bits, IntKind.signed, hm]
  rw [if_neg (by simp; omega)]

theorem makeSlice_sound (hG : GOK P G) (H : HR base O0 μ hp w) {t : Nat} {x y : Operand} {tt : List (Nat × AV)} {vx vy : Value} {K : AV → List Blk → Prop}
    (hx : RelV (mkX base O0 μ hp w) (opd tt x) vx) (hy : RelV (mkX base O0 μ hp w) (opd tt y) vy) (h : evOp (realE P) G ⟨tt, hp⟩ (.makeSlice t x y) K) :
    ∃ val w', (Instr.makeSlice t vx vy).run P w = .ok val w' ∧ Res base O0 μ hp w K val w' := by
  dsimp only [evOp] at h
  split at h
  · rename_i e sz1 by1 z1 fl1 kn n kc c hk hxe hye
    rw [hxe] at hx
    rw [hye] at hy
    have e1 := hx.int_inv
    have e2 := hy.int_inv
    subst e1 e2
    obtain ⟨i, d, z', T⟩ := hG.tok hk (by simp)
    have hd := slice_of_kind T.kind
    subst hd
    split at h
    · rename_i k sz bytes z fl hk2
      obtain ⟨i2, d2, v2, T2⟩ := hG.tok hk2 (by simp)
      cases hb : ikEq kn .i64 && ikEq kc .i64 && Nat.ble bytes 16 && Nat.beq sz 1 && zInt k z with
      | false => rw [hb] at h; exact h.elim
      | true =>
        rw [hb, cond_true] at h
        simp only [Bool.and_eq_true] at hb
        have b1 := Nat.le_of_ble_eq_true hb.1.1.2
        have b2 := Nat.eq_of_beq_eq_true hb.1.2
        have hz : z = [.int k (.l 0)] := by
          have := hb.2
          unfold zInt at this
          split at this
          · rw [ikEq_eq this]
          · cases this
        subst hz b2
        have hvc : v2.cells = #[.int k 0] := by
          obtain ⟨y, h1, h2⟩ := list_one T2.zc
          have h1' := ofList_eq h1
          rw [h1']
          unfold ofLeaf at h2
          split at h2 <;> simp_all
        have q := siLe_real h
        clear h
        obtain ⟨h0, h⟩ := q
        have q := siLe_real h
        clear h
        obtain ⟨h1, h⟩ := q
        have q := siLe_real h
        clear h
        obtain ⟨h2, h⟩ := q
        have h0' : 0 ≤ n.val := h0
        have h2' : c.val ≤ most := h2
        have wn := i64_small h0' (by omega)
        have wc := i64_small (by omega : 0 ≤ c.val) h2'
        have hbytes : i2.bytes = bytes := T2.byt
        have hm : most = 17179869184 := rfl
        have hmul : (bytes : Int) * c.val ≤ 2 ^ 48 := by
          have : (bytes : Int) * c.val ≤ 16 * 17179869184 := Int.mul_le_mul (by omega) (by omega) (by omega) (by omega)
          omega
        refine ⟨.slice (some ⟨w.heap.size, 0, none⟩) n.val.toNat c.val.toNat, pushW w (.cells ((Array.range c.val.toNat).map fun _ => Value.int k 0) e), ?_, ?_⟩
        · have hzr : (zeroValue e).run P w = .ok v2 w := by simp [zeroValue, run_typeInfo' T2.info, T2.zer]
          have hsz : (sizeOf e).run P w = .ok 1 w := by rw [run_sizeOf' T2.info, T2.size]
          have hnt : (c.val < 0 || (bytes : Int) * c.val > 2 ^ 48) = false := by
            simp only [Bool.or_eq_false_iff, decide_eq_false_iff_not]
            exact ⟨by omega, by omega⟩
          simp only [Instr.makeSlice, Sem.run_bind, run_underlying' T.und, Result.andThen_ok, asInt, asIntOf, Sem.run_pure, run_typeInfo' T2.info, wn, wc, Sem.run_ite, hbytes]
          rw [if_neg (by simp only [hnt]; simp; omega)]
          simp only [run_askRoom, Result.andThen_ok, hsz, Nat.mul_one]
          split
          · rename_i hc0
            simp only [Result.andThen_ok, newRow, Sem.run_bind, run_newObj, Sem.run_pure, hc0]
            simp [pushW, show Array.range 0 = #[] from rfl]
          · simp only [hzr, Result.andThen_ok, hvc, newRow, Sem.run_bind, run_newObj, Sem.run_pure]
            simp [pushW, Nat.mod_one]
        · refine res_alloc H h (alloc_ints H (fun i m hi => ?_)) ?_
          · have hi' : (List.replicate n.val.toNat (0 : Int))[i]? = some m := hi
            rw [List.getElem?_replicate] at hi'
            split at hi'
            · rename_i hil
              injection hi' with hi'
              subst hi'
              have : i < c.val.toNat := by omega
              simp [Array.getD_eq_getD_getElem?, this]
            · cases hi'
          · exact rel_ms_new (n := n.val.toNat) (by simp [Blk.dim, realE]) (Nat.le_refl _) h0' (by omega) (by simp)
    · exact h.elim
  · exact h.elim
end
end Go.Proofs.Ytincnfjihffllaa.Ev
