/- The evaluator's operations that leave the call's own memory alone do what the model's do: addresses, slices, structs. -/
import Derived.Test.YtincnfjihffllaaEv4
namespace Go.Proofs.Ytincnfjihffllaa.Ev
open Go Go.RowKit
set_option linter.unusedVariables false
set_option linter.unusedSimpArgs false

section
variable {P : Program} {G : Nat → TI} {base : Nat} {O0 : Nat → Prop} {μ : Nat → Nat} {hp : List Blk} {w : World}

/-- it computes a value -/
def Val (P : Program) (x : X) (s : Sem Value) (v : AV) : Prop := ∃ val, s.run P x.w = .ok val x.w ∧ RelV x v val

theorem struct_of_kind {d : TypeDesc} {fs : List (Nat × Nat × Bool)} (h : tkOf P d = .struct fs) : ∃ fields, d = .struct fields ∧ fs = fields.toList.map (fldOf P) := by
  cases d <;> simp_all [tkOf]
theorem slice_of_kind {d : TypeDesc} {e : Nat} (h : tkOf P d = .slice e) : d = .slice e := by
  cases d <;> simp_all [tkOf]
theorem array_of_kind {d : TypeDesc} {n e : Nat} (h : tkOf P d = .array n e) : d = .array n e := by
  cases d <;> simp_all [tkOf]
theorem str_of_kind {d : TypeDesc} (h : tkOf P d = .str) : d = .string := by
  cases d <;> simp_all [tkOf]
theorem int_of_kind {d : TypeDesc} {k : IntKind} (h : tkOf P d = .int k) : d = .int k := by
  cases d <;> simp_all [tkOf]

theorem fld_at {fields : Array Field} {f : Nat} {off fz : Nat} {ag : Bool} (h : nthF (fields.toList.map (fldOf P)) f = some (off, fz, ag)) (h1 : 1 ≤ fz) :
    ∃ fd i, fields[f]? = some fd ∧ fd.offset = off ∧ P.info? fd.type = some i ∧ i.size = fz ∧ ∃ d, P.underlying fd.type = some d ∧ ag = isAggD d := by
  rw [nthF_eq, List.getElem?_map, Option.map_eq_some_iff] at h
  obtain ⟨fd, h2, h3⟩ := h
  unfold fldOf at h3
  split at h3
  · rename_i i d hi hd
    simp only [Prod.mk.injEq] at h3
    obtain ⟨e1, e2, e3⟩ := h3
    exact ⟨fd, i, by simpa using h2, e1, hi, e2, d, hd, e3.symm⟩
  · simp only [Prod.mk.injEq] at h3
    omega

theorem run_fieldAt {t f : Nat} {fields : Array Field} {fd : Field} {i : TypeInfo} (hu : P.underlying t = some (.struct fields)) (hf : fields[f]? = some fd) (hi : P.info? fd.type = some i) (h1 : 1 ≤ i.size)
    (a : Addr) (w : World) : (Instr.fieldAt t (.pointer (some a)) f).run P w = .ok (.pointer (some (a.add fd.offset))) w := by
  simp only [Instr.fieldAt, Sem.run_bind, run_underlying' hu, Result.andThen_ok, hf, Instr.sureAddr, Sem.run_pure, fieldPlace, run_sizeOf' hi, Sem.run_ite]
  rw [if_neg (by omega)]
  simp

theorem fieldAddr_sound (hG : GOK P G) {x : X} {t f : Nat} {a : AV} {v : Value} {K : AV → Prop} (hv : RelV x a v)
    (h : evFieldAddr (G t) f a K) : ∃ v', K v' ∧ Val P x (Instr.fieldAt t v f) v' := by
  unfold evFieldAddr at h
  split at h
  · rename_i fs sz1 by1 z1 fl1 b sz row col hk
    obtain ⟨i, d, z', T⟩ := hG.tok hk (by simp)
    obtain ⟨fields, rfl, rfl⟩ := struct_of_kind T.kind
    split at h
    · rename_i off fz ag hn
      cases h1 : Nat.ble 1 fz with
      | false => rw [h1] at h; exact h.elim
      | true =>
        rw [h1, cond_true] at h
        have h1' := Nat.le_of_ble_eq_true h1
        obtain ⟨fd, i2, hf, rfl, hi, rfl, _⟩ := fld_at hn h1'
        obtain ⟨hb, h0, rfl, hd⟩ := (show LeafR _ (.ptr b sz row col) v from hv)
        refine ⟨_, h, _, run_fieldAt T.und hf hi h1' _ _, ?_⟩
        rw [addr_add rfl]
        exact ⟨hb, h0, by simp only [Nat.add_assoc], hd⟩
    · exact h.elim
  · rename_i fs sz1 by1 z1 fl1 cs hk
    obtain ⟨i, d, z', T⟩ := hG.tok hk (by simp)
    obtain ⟨fields, rfl, rfl⟩ := struct_of_kind T.kind
    split at h
    · rename_i off fz ag hn
      cases h1 : Nat.ble 1 fz with
      | false => rw [h1] at h; exact h.elim
      | true =>
        rw [h1, cond_true] at h
        have h1' := Nat.le_of_ble_eq_true h1
        obtain ⟨fd, i2, hf, rfl, hi, rfl, _⟩ := fld_at hn h1'
        cases (show RoV _ _ (.rp cs) v from hv) with
        | rp _ a Y hs ho hc hr =>
          refine ⟨_, h, _, run_fieldAt T.und hf hi h1' _ _, ?_⟩
          rw [addr_add hs, dropC_eq]
          refine RoV.rp (cs.drop fd.offset) _ (fun j => Y (fd.offset + j)) rfl ho (fun j c hj => ?_) (fun j c hj => ?_)
          · rw [List.getElem?_drop] at hj
            have := hc _ c hj
            simpa [Nat.add_assoc] using this
          · rw [List.getElem?_drop] at hj
            exact hr _ c hj
    · exact h.elim
  · exact h.elim

/-! ### slices -/
theorem elemOK_spec (hG : GOK P G) {t : Nat} {x : AV} (h : elemOK G t x = true) :
    (∃ s, x = .str s ∧ P.underlying t = some .string) ∨
    (∃ e i, P.underlying t = some (.slice e) ∧ P.info? e = some i ∧ ((∃ k l, x = .sli k l ∧ i.size = 1) ∨ (∃ sz n f, x = .slc sz n f ∧ i.size = sz) ∨ (∃ b sz r n, x = .ms b sz r n ∧ i.size = sz) ∨ x = .s0)) := by
  unfold elemOK at h
  split at h
  · rename_i e _ _ _ _ hk
    obtain ⟨i, d, z', T⟩ := hG.tok hk (by simp)
    have hd := slice_of_kind T.kind
    subst hd
    split at h
    · cases h
    · rename_i k2 sz2 _ _ _ hne hk2
      obtain ⟨i2, d2, z2, T2⟩ := hG.tok hk2 hne
      refine .inr ⟨e, i2, T.und, T2.info, ?_⟩
      split at h
      · exact .inl ⟨_, _, rfl, by rw [T2.size]; exact Nat.eq_of_beq_eq_true h⟩
      · exact .inr (.inl ⟨_, _, _, rfl, by rw [T2.size]; exact Nat.eq_of_beq_eq_true h⟩)
      · exact .inr (.inr (.inl ⟨_, _, _, _, rfl, by rw [T2.size]; exact Nat.eq_of_beq_eq_true h⟩))
      · exact .inr (.inr (.inr rfl))
      · cases h
  · rename_i _ _ _ _ hk
    obtain ⟨i, d, z', T⟩ := hG.tok hk (by simp)
    have hd := str_of_kind T.kind
    subst hd
    split at h
    · exact .inl ⟨_, rfl, T.und⟩
    · cases h
  · cases h

/-- what a slice is in memory -/
theorem slice_form {x : X} {a : AV} {v : Value} (hv : RelV x a v) {n : SI} (hn : lenOf (realE P) a = some n) (hs : ∀ s, a ≠ .str s) :
    ∃ A cap, v = .slice A n.val.toNat cap ∧ 0 ≤ n.val ∧ n.val.toNat ≤ cap := by
  cases a <;> simp only [lenOf, reduceCtorEq, Option.some.injEq] at hn
  · subst hn; exact absurd rfl (hs _)
  · subst hn
    rename_i k l
    cases (show RoV _ _ (.sli k l) v from hv) with
    | sli _ _ a cap hs ho hp h => exact ⟨_, _, rfl, by simp [SI.val, realE], by simpa [SI.val, realE] using hp⟩
    | sliN _ A cap => exact ⟨_, _, rfl, by simp [SI.val, realE], by simp [SI.val, realE]⟩
  · subst hn
    rename_i sz n f
    cases (show RoV _ _ (.slc sz n f) v from hv) with
    | slc _ _ _ a cap Y hs ho h0 hp hl hc h => exact ⟨_, _, rfl, h0, hp⟩
    | slcN _ _ _ A cap h => exact ⟨A, cap, by rw [h]; rfl, by omega, by rw [h]; simp⟩
  · subst hn
    cases (show RoV _ _ .s0 v from hv) with
    | s0 A => exact ⟨A, 0, rfl, by simp [SI.val], by simp [SI.val]⟩
  · subst hn
    rename_i b sz row n
    obtain ⟨hb, h0, h1, A, cap, rfl, hle, _⟩ := (show LeafR _ (.ms b sz row n) v from hv)
    exact ⟨A, cap, rfl, h1, hle⟩

theorem i64Of_inv {x : X} {a : AV} {v : Value} {n : SI} (hv : RelV x a v) (h : i64Of a = some n) : ∃ k, v = .int k n.val := by
  cases a <;> simp only [i64Of, reduceCtorEq, Option.some.injEq] at h
  subst h
  exact ⟨_, hv.int_inv⟩

theorem idxSl_sound (hG : GOK P G) {t : Nat} {k : IntKind} {n : SI} {a : AV} {va : Value} {K : AV → Prop} (ha : RelV (mkX base O0 μ hp w) a va)
    (h : idxSl (realE P) G t n a K) : ∃ v', K v' ∧ Val P (mkX base O0 μ hp w) (Instr.indexAt t va (.int k n.val)) v' := by
  unfold idxSl at h
  cases hel : elemOK G t a with
  | false => rw [hel] at h; exact h.elim
  | true =>
    rw [hel, cond_true] at h
    have hrun : ∀ (e : Nat) (i : TypeInfo) (ad : Addr) (len cap : Nat), P.underlying t = some (.slice e) → P.info? e = some i → 0 ≤ n.val → n.val < (len : Int) →
        (Instr.indexAt t (.slice (some ad) len cap) (.int k n.val)).run P w = .ok (.pointer (some (ad.add (n.val.toNat * i.size)))) w := by
      intro e i ad len cap hu hi2 h1 h2
      simp only [Instr.indexAt, asIntOf, Sem.run_bind, Sem.run_pure, Result.andThen_ok, run_underlying' hu, Sem.run_ite, if_pos (And.intro h1 h2), run_sizeOf' hi2]
    rcases elemOK_spec hG hel with ⟨s, rfl, _⟩ | ⟨e, i, hu, hi2, hx⟩
    · exact h.elim
    · rcases hx with ⟨k2, l, rfl, hsz⟩ | ⟨sz, m, f, rfl, hsz⟩ | ⟨b, sz, r, m, rfl, hsz⟩ | rfl
      · dsimp only at h
        obtain ⟨h0, h⟩ := siLe_real h
        obtain ⟨h1, h⟩ := siLt_real h
        have h1' : n.val < (l.length : Int) := h1
        have h0' : 0 ≤ n.val := h0
        cases (show RoV _ _ (.sli k2 l) va from ha) with
        | sli _ _ ad cap hs ho hp2 hc =>
          have hlt : n.val.toNat < l.length := by omega
          refine ⟨_, h, _, hrun e i ad l.length cap hu hi2 h0' h1', ?_⟩
          rw [addr_add hs, hsz, Nat.mul_one]
          refine RoV.rp _ _ (fun j => .int k2 (l.getD n.val.toNat 0)) rfl ho (fun j c hj => ?_) (fun j c hj => ?_)
          · cases j with
            | zero =>
              have := hc n.val.toNat l[n.val.toNat] (List.getElem?_eq_getElem hlt)
              simpa [List.getD, List.getElem?_eq_getElem hlt] using this
            | succ j => simp at hj
          · cases j with
            | zero => simp at hj; subst hj; exact RoV.int _ _ _ rfl
            | succ j => simp at hj
        | sliN _ A cap => simp at h1'; omega
      · dsimp only at h
        obtain ⟨h0, h⟩ := siLe_real h
        obtain ⟨h1, h⟩ := siLt_real h
        have h0' : 0 ≤ n.val := h0
        have hK : K (.rp (f n.val.toNat)) := by cases n <;> exact h
        cases (show RoV _ _ (.slc sz m f) va from ha) with
        | slc _ _ _ ad cap Y hs ho hm hp2 hl hc hr =>
          have hlt : n.val.toNat < m.val.toNat := by omega
          refine ⟨_, hK, _, hrun e i ad m.val.toNat cap hu hi2 h0' (by omega), ?_⟩
          rw [addr_add hs, hsz]
          refine RoV.rp _ _ (Y n.val.toNat) rfl ho (fun j c hj => ?_) (fun j c hj => hr _ j c hlt hj)
          have := hc _ j c hlt hj
          simpa [Nat.add_assoc] using this
        | slcN _ _ _ A cap hm => omega
      · dsimp only at h
        obtain ⟨h0, h⟩ := siLe_real h
        obtain ⟨h1, h⟩ := siLt_real h
        have h0' : 0 ≤ n.val := h0
        obtain ⟨hb, hr0, hm0, A, cap, rfl, hle, hA, hd⟩ := (show LeafR _ (.ms b sz r m) va from ha)
        have hlt : n.val.toNat < m.val.toNat := by omega
        rw [hA (by omega)]
        refine ⟨_, h, _, hrun e i _ m.val.toNat cap hu hi2 h0' (by omega), ?_⟩
        rw [addr_add rfl, hsz]
        refine ⟨hb, by rw [siAdd_real]; omega, ?_, fun n' s hn => ?_⟩
        · rw [siAdd_real, show (r.val + n.val).toNat = r.val.toNat + n.val.toNat by omega, Nat.add_mul, Nat.add_zero]
        · obtain ⟨q1, q2, _⟩ := hd n' s hn
          refine ⟨?_, q2⟩
          rw [siAdd_real]; omega
      · exact h.elim

/-- an element of what is only read, or of the call's own -/
theorem indexAddr_sound (hG : GOK P G) (H : HR base O0 μ hp w) {t : Nat} {a i : AV} {va vi : Value} {K : AV → Prop} (ha : RelV (mkX base O0 μ hp w) a va) (hi : RelV (mkX base O0 μ hp w) i vi)
    (h : evIndexAddr (realE P) G hp t a i K) : ∃ v', K v' ∧ Val P (mkX base O0 μ hp w) (Instr.indexAt t va vi) v' := by
  cases i with
  | int k n =>
    have := hi.int_inv; subst this
    cases a with
    | ptr b sz row col =>
      dsimp only [evIndexAddr] at h
      split at h
      · rename_i c e _ _ _ _ hk
        obtain ⟨i1, d1, z1, T1⟩ := hG.tok hk (by simp)
        have hd := array_of_kind T1.kind
        subst hd
        split at h
        · exact h.elim
        · rename_i k2 esz _ _ _ hne hk2
          obtain ⟨i2, d2, z2, T2⟩ := hG.tok hk2 hne
          split at h
          · rename_i r i
            cases hc : decide (0 ≤ i) && decide (i < (c : Int)) with
            | false => rw [hc] at h; exact h.elim
            | true =>
              rw [hc, cond_true] at h
              simp only [Bool.and_eq_true, decide_eq_true_eq] at hc
              obtain ⟨hb, h0, rfl, hd⟩ := (show LeafR _ (.ptr b sz (.l r) col) va from ha)
              have hrun : (Instr.indexAt t (.pointer (some ⟨μ b, (SI.l r).val.toNat * sz + col, none⟩)) (.int k i)).run P w = .ok (.pointer (some ((⟨μ b, (SI.l r).val.toNat * sz + col, none⟩ : Addr).add (i.toNat * esz)))) w := by
                simp only [Instr.indexAt, asIntOf, Sem.run_bind, Sem.run_pure, Result.andThen_ok, run_underlying' T1.und, Instr.sureAddr, Sem.run_ite, if_pos hc, run_sizeOf' T2.info, T2.size]
              cases hc2 : Nat.beq esz sz && Nat.beq col 0 with
              | true =>
                rw [hc2, cond_true] at h
                simp only [Bool.and_eq_true] at hc2
                have e1 := Nat.eq_of_beq_eq_true hc2.1
                have e2 := Nat.eq_of_beq_eq_true hc2.2
                subst e1 e2
                split at h
                · rename_i wr rsz d' l hblk
                  cases hc3 : decide (0 ≤ r + i) && decide (r + i < (lenR l : Int)) with
                  | false => rw [hc3] at h; exact h.elim
                  | true =>
                    rw [hc3, cond_true] at h
                    simp only [Bool.and_eq_true, decide_eq_true_eq, lenR_eq] at hc3
                    refine ⟨_, h, _, hrun, ?_⟩
                    rw [addr_add rfl]
                    have h0' : 0 ≤ r := h0
                    refine ⟨hb, hc3.1, ?_, fun n s hn => ?_⟩
                    · simp only [SI.val, Nat.add_zero, mkX]
                      rw [show (r + i).toNat = r.toNat + i.toNat by omega, Nat.add_mul]
                    · have hb' := getBlk_some hblk (by simp)
                      have hn' : dimB hp b = some (n, s) := hn
                      have hdim : dimB hp b = some (l.length, rsz) := by simp [dimB, hb', Blk.dim]
                      have hs := (hd n s hn).2
                      rw [hdim] at hn'
                      injection hn' with hn'
                      injection hn' with h1 h2
                      refine ⟨?_, hs⟩
                      simp only [SI.val]
                      omega
                · exact h.elim
              | false =>
                rw [hc2, cond_false] at h
                refine ⟨_, h, _, hrun, ?_⟩
                rw [addr_add rfl]
                exact ⟨hb, h0, by simp only [mkX, Nat.add_assoc], hd⟩
          · exact h.elim
      · exact h.elim
    | _ => exact idxSl_sound hG ha h
  | _ => exact h.elim
end
end Go.Proofs.Ytincnfjihffllaa.Ev
