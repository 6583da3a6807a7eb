/- The evaluator's operations that leave the call's own memory alone do what the model's do: memory that is read. -/
import Derived.Test.YtincnfjihffllaaEv3
import Derived.Laws.Cells
namespace Go.Proofs.Ytincnfjihffllaa.Ev
open Go Go.RowKit
set_option linter.unusedVariables false
set_option linter.unusedSimpArgs false

section
variable {P : Program} {G : Nat → TI}

theorem getBlk_some {h : List Blk} {b : Nat} {x : Blk} (e : getBlk h b = x) (hx : x ≠ .dead) : h[b]? = some x := by
  rw [getBlk_eq] at e
  cases hb : h[b]? with
  | none => rw [hb] at e; exact absurd e.symm hx
  | some y => rw [hb] at e; simp at e; rw [e]

theorem run_underlying' {t : Nat} {d : TypeDesc} (h : P.underlying t = some d) (w : World) : (underlying t).run P w = .ok d w := by
  simp [underlying, h]
theorem run_typeInfo' {t : Nat} {i : TypeInfo} (h : P.info? t = some i) (w : World) : (typeInfo t).run P w = .ok i w := by
  simp [typeInfo, h]
theorem run_sizeOf' {t : Nat} {i : TypeInfo} (h : P.info? t = some i) (w : World) : (sizeOf t).run P w = .ok i.size w := by
  simp [sizeOf, run_typeInfo' h]
theorem run_isAgg' {t : Nat} {d : TypeDesc} (h : P.underlying t = some d) (w : World) : (isAgg t).run P w = .ok (isAggD d) w := by
  simp only [isAgg, Sem.run_bind, run_underlying' h, Result.andThen_ok]
  cases d <;> rfl

theorem agg_of_kind {d : TypeDesc} {k : TK} (h : tkOf P d = k) (hk : k ≠ .oth) : k.agg = isAggD d := by
  cases d <;> simp_all [tkOf, TK.agg, isAggD] <;> (subst h; rfl)

theorem addr_add {a : Addr} (hs : a.spot = none) (n : Nat) : a.add n = ⟨a.block, a.off + n, none⟩ := by
  unfold Addr.add
  split
  · subst_vars; cases a; simp_all
  · rfl

/-- a variable, cell by cell -/
theorem run_loadVar' {t : Nat} {k : TK} {sz by_ : Nat} {z : List AV} {fl : Option (List (Option IntKind))} {i : TypeInfo} {d : TypeDesc} {v : Value} (T : TOK P t k sz by_ z fl i d v) (hk : k ≠ .oth)
    {a : Addr} {w : World} (hs : a.spot = none) {cs : List AV} {R : AV → Value → Prop}
    (hc : ∀ (j : Nat) (c : AV), cs[j]? = some c → ∃ y, w.cell? ⟨a.block, a.off + j, none⟩ = some y ∧ R c y) {K : AV → Prop}
    (h : asVal k.agg sz cs K) :
    ∃ v', K v' ∧ ∃ val, (loadVar t a).run P w = .ok val w ∧
      ((∃ ys : Array Value, v' = .agg cs ∧ val = .agg ys ∧ cs.length = ys.size ∧ ∀ (j : Nat) (c : AV), cs[j]? = some c → R c (ys.getD j undef)) ∨ R v' val) := by
  unfold asVal at h
  cases hl : Nat.beq (lenC cs) sz with
  | false => rw [hl] at h; exact h.elim
  | true =>
    rw [hl, cond_true] at h
    have hlen : cs.length = sz := by rw [← lenC_eq]; exact Nat.eq_of_beq_eq_true hl
    have hag := agg_of_kind T.kind hk
    cases ha : k.agg with
    | true =>
      rw [ha, cond_true] at h
      obtain ⟨Y, hY⟩ : ∃ Y : Nat → Value, ∀ (j : Nat) (c : AV), cs[j]? = some c → w.cell? ⟨a.block, a.off + j, none⟩ = some (Y j) ∧ R c (Y j) := by
        refine ⟨fun j => (w.cell? ⟨a.block, a.off + j, none⟩).getD undef, fun j c hj => ?_⟩
        obtain ⟨y, h1, h2⟩ := hc j c hj
        simp only [h1, Option.getD_some]; exact ⟨trivial, h2⟩
      have hr := run_loadCells (P := P) w a sz Y (fun j hj => by
        rw [addr_add hs]
        exact (hY j cs[j] (List.getElem?_eq_getElem (by omega))).1)
      refine ⟨_, h, .agg ((List.range sz).map Y).toArray, ?_, .inl ⟨_, rfl, rfl, by simp [hlen], fun j c hj => ?_⟩⟩
      · simp [loadVar, run_isAgg' T.und, ← hag, ha, run_sizeOf' T.info, T.size, hr]
      · have hjl : j < sz := by have := (List.getElem?_eq_some_iff.1 hj).1; omega
        have := (hY j c hj).2
        simp [Array.getD_eq_getD_getElem?, hjl]
        exact this
    | false =>
      rw [ha, cond_false] at h
      split at h
      · rename_i c
        obtain ⟨y, h1, h2⟩ := hc 0 c rfl
        refine ⟨c, h, y, ?_, .inr h2⟩
        have : a = ⟨a.block, a.off + 0, none⟩ := by cases a; simp_all
        simp only [loadVar, Sem.run_bind, run_isAgg' T.und, ← hag, ha, Result.andThen_ok, Bool.false_eq_true, if_false, run_load]
        rw [this, h1]
      · exact h.elim

variable {base : Nat} {O0 : Nat → Prop} {μ : Nat → Nat} {hp : List Blk} {w : World}

theorem load_sound (hG : GOK P G) (H : HR base O0 μ hp w) {t : Nat} {p : AV} {v : Value} (hv : RelV (mkX base O0 μ hp w) p v) {K : AV → Prop} (h : load (realE P) G hp t p K) :
    ∃ v', K v' ∧ ∃ val, (Instr.loadAt t v).run P w = .ok val w ∧ RelV (mkX base O0 μ hp w) v' val := by
  unfold load at h
  split at h
  · exact h.elim
  rename_i k sz by_ z fl hne hk
  have hk0 : k ≠ .oth := hne
  obtain ⟨i, d, z', T⟩ := hG.tok hk hk0
  have h' := h
  clear h
  unfold loadAs at h'
  split at h'
  · rename_i cs
    cases (show RoV _ _ (.rp cs) v from hv) with
    | rp _ a Y hs ho hc hr =>
      rw [takeC_eq] at h'
      obtain ⟨v', hK, val, hrun, hrel⟩ := run_loadVar' T hk0 (w := w) hs (cs := cs.take sz) (R := RoV (mkX base O0 μ hp w).O w) (fun j c hj => by
        have : cs[j]? = some c := by rw [List.getElem?_take] at hj; split at hj <;> simp_all
        exact ⟨_, hc j c this, hr j c this⟩) h'
      refine ⟨v', hK, val, by simpa [Instr.loadAt, Instr.sureAddr] using hrun, ?_⟩
      rcases hrel with ⟨ys, rfl, rfl, hl, hh⟩ | hrel
      · exact ⟨ys, rfl, hl, fun j c hj => leafR_of_ro (hh j c hj)⟩
      · exact relV_of_ro hrel
  · rename_i b psz row col
    obtain ⟨hb, h0, rfl, hd⟩ := (show LeafR _ (.ptr b psz row col) v from hv)
    split at h'
    · rename_i wr k' l hblk
      have hb' := getBlk_some hblk (by simp)
      cases hc : Nat.beq sz 1 && Nat.beq col 0 && !k.agg with
      | false => rw [hc] at h'; exact h'.elim
      | true =>
        rw [hc, cond_true] at h'
        simp only [Bool.and_eq_true, Bool.not_eq_true'] at hc
        have hcol : col = 0 := Nat.eq_of_beq_eq_true hc.1.2
        obtain ⟨c, e, hcell, hh⟩ := H.blk b _ hb'
        have hdim : dimB hp b = some (l.length, 1) := by simp [dimB, hb', Blk.dim]
        obtain ⟨hlt, hsz⟩ := hd _ _ hdim
        subst hcol
        have hn := hh row.val.toNat l[row.val.toNat] (List.getElem?_eq_getElem hlt)
        refine ⟨_, h', .int k' l[row.val.toNat], ?_, rel_int _ _ _ (by show l.getD row.val.toNat 0 = _; simp [List.getD, List.getElem?_eq_getElem hlt])⟩
        have hcellw : w.heap[μ b]? = some (.cells c e (0, 0)) := hcell
        simp only [mkX, Instr.loadAt, Instr.sureAddr, loadVar, Sem.run_bind, Sem.run_pure, run_isAgg' T.und, ← agg_of_kind T.kind hk0, hc.2, Result.andThen_ok, Bool.false_eq_true, if_false, run_load, World.cell?, hcellw, ← hsz, Nat.mul_one, Nat.add_zero, hn]
        simp
    · rename_i wr rsz d' l hblk
      have hb' := getBlk_some hblk (by simp)
      obtain ⟨hdl, c, e, hcell, hh⟩ := H.blk b _ hb'
      have hdim : dimB hp b = some (l.length, rsz) := by simp [dimB, hb', Blk.dim]
      obtain ⟨hlt, hsz⟩ := hd _ _ hdim
      subst hsz
      have hrow : rowAt (realE P) l d' row = l[row.val.toNat] := by
        cases row with
        | l i => simp only [rowAt, getRow_eq l i h0]; simp only [SI.val] at hlt; simp [List.getD, List.getElem?_eq_getElem hlt, SI.val]
        | s i => simp only [rowAt, realE]; simp only [SI.val] at hlt; simp [List.getD, List.getElem?_eq_getElem hlt, SI.val]
      rw [takeC_eq, dropC_eq, hrow] at h'
      obtain ⟨hrl, hrc⟩ := hh _ _ (List.getElem?_eq_getElem hlt)
      have hcellw : w.heap[μ b]? = some (.cells c e (0, 0)) := hcell
      obtain ⟨v', hK, val, hrun, hrel⟩ := run_loadVar' T hk0 (w := w) (a := ⟨(mkX base O0 μ hp w).μ b, row.val.toNat * rsz + col, none⟩) rfl
        (cs := (l[row.val.toNat].drop col).take sz) (R := LeafR (mkX base O0 μ hp w)) (fun j c' hj => by
          have : (l[row.val.toNat])[col + j]? = some c' := by
            rw [List.getElem?_take] at hj
            split at hj
            · rwa [List.getElem?_drop] at hj
            · cases hj
          obtain ⟨y, h1, h2⟩ := hrc _ _ this
          refine ⟨y, ?_, h2⟩
          simp only [mkX, World.cell?, hcellw]
          simpa [Nat.add_assoc] using h1) h'
      refine ⟨v', hK, val, by simpa [Instr.loadAt, Instr.sureAddr] using hrun, ?_⟩
      rcases hrel with ⟨ys, rfl, rfl, hl, hh⟩ | hrel
      · exact ⟨ys, rfl, hl, hh⟩
      · revert hrel
        cases v' <;> intro hrel <;> first | exact hrel | (exact relV_of_ro (show RoV _ _ _ _ from hrel))
    · exact h'.elim
  · exact h'.elim
end
end Go.Proofs.Ytincnfjihffllaa.Ev
