/- The evaluator's operations that leave the call's own memory alone do what the model's do: the whole of them. -/
import Derived.Test.YtincnfjihffllaaEv9
namespace Go.Proofs.Ytincnfjihffllaa.Ev
open Go Go.RowKit
set_option linter.unusedVariables false
set_option linter.unusedSimpArgs false

section
variable {P : Program} {G : Nat → TI} {base : Nat} {O0 : Nat → Prop} {μ : Nat → Nat} {hp : List Blk} {w w' : World}

theorem brAV_real {c : AV} {v : Value} {x : X} {t f : Unit → Prop} (hv : RelV x c v) (h : brAV (realE P) c t f) : (v = .bool true ∧ t ()) ∨ (v = .bool false ∧ f ()) := by
  cases c <;> try exact h.elim
  rename_i b
  have := hv.bool_inv
  subst this
  rcases brB_real (show brB _ _ _ _ from h) with ⟨h1, h2⟩ | ⟨h1, h2⟩
  · exact .inl ⟨by rw [h1], h2⟩
  · exact .inr ⟨by rw [h1], h2⟩

theorem maxI_real {a b : SI} {K : SI → Prop} (h : maxI (realE P) a b K) : ∃ n : SI, K n ∧ n.val = if b.val > a.val then b.val else a.val := by
  unfold maxI at h
  rcases brB_real h with ⟨h1, h2⟩ | ⟨h1, h2⟩
  · rw [siCmp_real] at h1
    have : b.val > a.val := of_decide_eq_true h1
    exact ⟨b, h2, by rw [if_pos this]⟩
  · rw [siCmp_real] at h1
    have : ¬ b.val > a.val := of_decide_eq_false h1
    exact ⟨a, h2, by rw [if_neg this]⟩
theorem minI_real {a b : SI} {K : SI → Prop} (h : minI (realE P) a b K) : ∃ n : SI, K n ∧ n.val = if b.val < a.val then b.val else a.val := by
  unfold minI at h
  rcases brB_real h with ⟨h1, h2⟩ | ⟨h1, h2⟩
  · rw [siCmp_real] at h1
    have : b.val < a.val := of_decide_eq_true h1
    exact ⟨b, h2, by rw [if_pos this]⟩
  · rw [siCmp_real] at h1
    have : ¬ b.val < a.val := of_decide_eq_false h1
    exact ⟨a, h2, by rw [if_neg this]⟩

theorem list_two {α β : Type} {f : α → β} {l : List α} {a b : β} (h : l.map f = [a, b]) : ∃ x y, l = [x, y] ∧ f x = a ∧ f y = b := by
  match l, h with
  | [x, y], h => simp at h; exact ⟨x, y, rfl, h.1, h.2⟩
theorem list_one {α β : Type} {f : α → β} {l : List α} {a : β} (h : l.map f = [a]) : ∃ x, l = [x] ∧ f x = a := by
  match l, h with
  | [x], h => simp at h; exact ⟨x, rfl, h⟩

theorem ofList_eq {α : Type} {a : Array α} {l : List α} (h : a.toList = l) : a = l.toArray := by
  rw [← h]

theorem builtin_sound (hG : GOK P G) {b : Builtin} {args : Array Operand} {ts : Array TypeId} {ty : TypeId} {cs : Array Bool} {ρ : Operand → AV} {ev : Operand → Value} {K : AV → Prop}
    (hr : ∀ y, y ∈ args.toList → RelV (mkX base O0 μ hp w) (ρ y) (ev y)) (h : evBuiltin (realE P) G b (args.toList.map ρ) ts.toList K) :
    ∃ v, K v ∧ ∃ val, (builtin b ts ty cs (args.map ev)).run P w = .ok (.value val) w ∧ RelV (mkX base O0 μ hp w) v val := by
  unfold evBuiltin at h
  split at h
  · rename_i a hxs
    obtain ⟨y, hy, rfl⟩ := list_one hxs
    have hy' := ofList_eq hy
    subst hy'
    split at h
    · rename_i t tr n hts hn
      have hts' := ofList_eq hts
      subst hts'
      cases hel : elemOK G t (ρ y) with
      | false => rw [hel] at h; exact h.elim
      | true =>
        rw [hel, cond_true] at h
        have hv := hr y (by simp)
        refine ⟨_, h, .int .i64 n.val, ?_, rel_int _ _ _ rfl⟩
        rcases elemOK_spec hG hel with ⟨s, hs, hu⟩ | ⟨e, i, hu, hi, hx⟩
        · rw [hs] at hv hn
          simp only [lenOf, Option.some.injEq] at hn
          subst hn
          simp [Go.builtin, Builtin.len_, run_underlying' hu, hv.str_inv, goInt, realE, SI.val]
        · have hns : ∀ s, ρ y ≠ .str s := by intro s h1; rw [h1] at hx; rcases hx with ⟨_, _, h, _⟩ | ⟨_, _, _, h, _⟩ | ⟨_, _, _, _, h, _⟩ | h <;> cases h
          obtain ⟨A, cap, e1, e2, e3⟩ := slice_form hv hn hns
          simp [Go.builtin, Builtin.len_, run_underlying' hu, e1, goInt, Int.toNat_of_nonneg e2]
    · exact h.elim
  · rename_i k a k' b hxs
    obtain ⟨y, z, hy, e1, e2⟩ := list_two hxs
    have hy' := ofList_eq hy
    subst hy'
    cases hk : ikEq k k' with
    | false => rw [hk] at h; exact h.elim
    | true =>
      rw [hk, cond_true] at h
      have := ikEq_eq hk
      subst this
      have h1 := hr y (by simp)
      have h2 := hr z (by simp)
      rw [e1] at h1
      rw [e2] at h2
      obtain ⟨n, hK, hn⟩ := maxI_real h
      refine ⟨_, hK, .int k n.val, ?_, rel_int _ _ _ rfl⟩
      simp [Go.builtin, h1.int_inv, h2.int_inv, Builtin.max_, Builtin.max2, hn]
  · rename_i k a k' b hxs
    obtain ⟨y, z, hy, e1, e2⟩ := list_two hxs
    have hy' := ofList_eq hy
    subst hy'
    cases hk : ikEq k k' with
    | false => rw [hk] at h; exact h.elim
    | true =>
      rw [hk, cond_true] at h
      have := ikEq_eq hk
      subst this
      have h1 := hr y (by simp)
      have h2 := hr z (by simp)
      rw [e1] at h1
      rw [e2] at h2
      obtain ⟨n, hK, hn⟩ := minI_real h
      refine ⟨_, hK, .int k n.val, ?_, rel_int _ _ _ rfl⟩
      simp [Go.builtin, h1.int_inv, h2.int_inv, Builtin.min_, Builtin.min2, hn]
  · exact h.elim

theorem call_value {ev : Operand → Value} {f : Operand} {args : Array Operand} {ts : Array TypeId} {ty : TypeId} {g : FuncId} {ys : Array Value} (hf : ev f = .func (.func g) #[] ys) (hg : FOK P g) (w : World) :
    (do let d ← resolve ev ⟨.value f, args, ts⟩ ty; invoke d.target d.args : Sem Next).run P w = .ok (.enter g (args.map ev ++ ys)) w := by
  simp only [resolve, hf, Deferred.ofValue, Sem.run_bind, Sem.run_pure, Result.andThen_ok, invoke]
  rw [run_callFunc hg]
  simp

/-- a field of a value -/
theorem field_sound (hG : GOK P G) {x : X} {t f : Nat} {a : AV} {v : Value} {K : AV → Prop} (hv : RelV x a v)
    (h : evField (G t) f a K) : ∃ v', K v' ∧ Val P x (Instr.field t v f) v' := by
  unfold evField at h
  split at h
  · rename_i fs sz1 by1 z1 fl1 cs hk
    obtain ⟨i, d, z', T⟩ := hG.tok hk (by simp)
    obtain ⟨fields, rfl, rfl⟩ := struct_of_kind T.kind
    split at h
    · rename_i off fz ag hn
      cases h1 : Nat.ble 1 fz with
      | false => rw [h1] at h; exact h.elim
      | true =>
        rw [h1, cond_true] at h
        have h1' := Nat.le_of_ble_eq_true h1
        obtain ⟨fd, i2, hf, rfl, hi, rfl, d2, hd2, rfl⟩ := fld_at hn h1'
        obtain ⟨ys, rfl, hl, hy⟩ := (show AggR x (.agg cs) v from hv)
        rw [takeC_eq, dropC_eq] at h
        unfold asVal at h
        cases hlen : Nat.beq (lenC ((cs.drop fd.offset).take i2.size)) i2.size with
        | false => rw [hlen] at h; exact h.elim
        | true =>
          rw [hlen, cond_true] at h
          have hlen' := Nat.eq_of_beq_eq_true hlen
          rw [lenC_eq] at hlen'
          have hle : fd.offset + i2.size ≤ cs.length := by
            simp at hlen'; omega
          have hval : ∀ (j : Nat) (c : AV), ((cs.drop fd.offset).take i2.size)[j]? = some c → j < i2.size ∧ LeafR x c (ys.getD (fd.offset + j) undef) := by
            intro j c hj
            rw [List.getElem?_take] at hj
            split at hj
            · rename_i hjl
              rw [List.getElem?_drop] at hj
              exact ⟨hjl, hy _ c hj⟩
            · cases hj
          cases ha : isAggD d2 with
          | true =>
            rw [ha, cond_true] at h
            refine ⟨_, h, .agg (ys.extract fd.offset (fd.offset + i2.size)), ?_, ?_⟩
            · simp [Instr.field, run_underlying' T.und, hf, asAgg, part, run_isAgg' hd2, ha, run_sizeOf' hi]
            · refine ⟨_, rfl, by rw [hlen']; simp; omega, fun j c hj => ?_⟩
              obtain ⟨q1, q2⟩ := hval j c hj
              rw [getD_extract _ _ _ _ (by omega)]
              exact q2
          | false =>
            rw [ha, cond_false] at h
            split at h
            · rename_i c hc
              have := hval 0 c (by rw [hc]; rfl)
              have hlt : fd.offset < ys.size := by omega
              refine ⟨_, h, ys.getD fd.offset undef, ?_, relV_of_leaf this.2⟩
              simp [Instr.field, run_underlying' T.und, hf, asAgg, part, run_isAgg' hd2, ha, hlt]
            · exact h.elim
    · exact h.elim
  · exact h.elim

theorem sub_okO (H : HR base O0 μ hp w) {w' : World} (g : Below w.heap.size w w') : ∀ n, newO (okO base O0 μ hp w) w w' n → okO base O0 μ hp w' n := by
  intro n hn
  rcases hn with h | ⟨h1, h2⟩
  · exact (Ext.grow (O0 := O0) (μ := μ) (hp := hp) H.all g).o n h
  · have := H.all
    exact .inr ⟨by omega, h2, fun b hb => by have := H.lt (dim_of_wr hb); omega⟩

theorem evPure_sound (hG : GOK P G) (H : HR base O0 μ hp w) {o : Oper} {ρ : Operand → AV} {ev : Operand → Value} {K : AV → Prop}
    (hr : ∀ y, y ∈ o.op.operands.toList → RelV (mkX base O0 μ hp w) (ρ y) (ev y)) (h : evPure (realE P) G hp ρ o.op K) :
    ∃ v, K v ∧ Out P base O0 μ hp w ((execOp ev o).run P w) v := by
  obtain ⟨dst, op, ty, pos, after, guard⟩ := o
  dsimp only at hr h
  cases op <;> try exact h.elim
  case move y =>
    exact ⟨_, h, .inl ⟨_, w, rfl, Below.refl _ _, hr y (by simp [Op.operands])⟩⟩
  case assign y =>
    have h' : K (ρ y) := by
      dsimp only [evPure] at h
      split at h
      · rename_i e; rw [e]; exact h
      · exact h
    exact ⟨_, h', .inl ⟨_, w, rfl, Below.refl _ _, hr y (by simp [Op.operands])⟩⟩
  case pick c a b =>
    rcases brAV_real (hr c (by simp [Op.operands])) h with ⟨h1, h2⟩ | ⟨h1, h2⟩
    · exact ⟨_, h2, .inl ⟨ev a, w, by simp [execOp, h1, asBool], Below.refl _ _, hr a (by simp [Op.operands])⟩⟩
    · exact ⟨_, h2, .inl ⟨ev b, w, by simp [execOp, h1, asBool], Below.refl _ _, hr b (by simp [Op.operands])⟩⟩
  case build t parts =>
    obtain ⟨v, h1, h2⟩ := build_sound (x := mkX base O0 μ hp w) (ev := ev) hG (fun i y hm => hr y (by simp [Op.operands]; exact ⟨i, by simpa using hm⟩)) h
    exact ⟨v, h1, Out.val h2⟩
  case buildSlice t n parts =>
    dsimp only [evPure] at h
    split at h
    · rename_i e sz1 by1 z1 fl1 hk
      obtain ⟨i, d, z', T⟩ := hG.tok hk (by simp)
      have hd := slice_of_kind T.kind
      subst hd
      generalize hk2 : G e = ge at h
      obtain ⟨k, sz, by2, z2, fl2⟩ := ge
      dsimp only at h
      split at h
      · rename_i l hl
        cases hb : Nat.beq (lenR l) n && Nat.ble (n * sz) 1000 with
        | false => rw [hb] at h; exact h.elim
        | true =>
          rw [hb, cond_true] at h
          simp only [Bool.and_eq_true, lenR_eq] at hb
          have b1 := Nat.eq_of_beq_eq_true hb.1
          have b2 := Nat.le_of_ble_eq_true hb.2
          have hrp : ∀ (i : Nat) (y : Operand), (i, y) ∈ parts.toList → RelV (mkX base O0 μ hp w) (ρ y) (ev y) := fun i y hm => hr y (by simp [Op.operands]; exact ⟨i, by simpa using hm⟩)
          have hne : k ≠ .oth := by rintro rfl; exact h
          obtain ⟨i2, d2, z2', T2⟩ := hG.tok hk2 hne
          obtain ⟨zs, q1, q2, q3⟩ := run_buildSlice T.und T2 hrp hl b1 b2 w
          have hexec : (execOp ev ⟨dst, .buildSlice t n parts, ty, pos, after, guard⟩).run P w = .ok (.value (.slice (some ⟨w.heap.size, 0, none⟩) n n)) (pushW w (.cells zs e)) := by
            simp only [execOp, Sem.run_bind]
            have : (parts.map fun x => match x with | (i, x) => (i, ev x)) = parts.map fun p => (p.1, ev p.2) := rfl
            rw [this, q1]
            rfl
          have g := below_push w (.cells zs e)
          have ex := Ext.grow (O0 := O0) (μ := μ) (hp := hp) H.all g
          have hO : (mkX base O0 μ hp (pushW w (.cells zs e))).O w.heap.size := .inr ⟨H.all, by simp [pushW], fun b hb => by have := H.lt (dim_of_wr hb); omega⟩
          have hcell : ∀ q, q < zs.size → (pushW w (.cells zs e)).cell? ⟨w.heap.size, 0 + q, none⟩ = some (zs.getD q undef) := by
            intro q hq
            have hh : (pushW w (.cells zs e)).heap[w.heap.size]? = some (.cells zs e) := by simp only [pushW]; exact Array.getElem?_push_size
            simp only [World.cell?, hh, Nat.zero_add]
            simp [Array.getD_eq_getD_getElem?, hq]
          have ints : ∀ kk ns, intsOK kk l = some ns → RelV (mkX base O0 μ hp (pushW w (.cells zs e))) (.sli kk ns) (.slice (some ⟨w.heap.size, 0, none⟩) n n) := by
            intro kk ns hns
            obtain ⟨m1, m2⟩ := ints_rows hns
            rw [← b1, ← m1]
            refine RoV.sli kk ns ⟨w.heap.size, 0, none⟩ _ rfl hO (Nat.le_refl _) (fun i m hi => ?_)
            obtain ⟨s, e1, e2⟩ := m2 i m hi
            obtain ⟨r1, r2⟩ := q3 i _ e2
            have hil := (List.getElem?_eq_some_iff.1 hi).1
            have hsz : sz = 1 := by simpa using r1.symm
            have := (r2 0 _ rfl).int_inv
            rw [hsz, Nat.mul_one, Nat.add_zero] at this
            refine (hcell i (by rw [q2, hsz, Nat.mul_one, ← b1, ← m1]; exact hil)).trans ?_
            rw [this, e1]
          have slcs : allB (allB AV.mf1) l = true → RelV (mkX base O0 μ hp (pushW w (.cells zs e))) (.slc sz (.l n) (fun i => getRow l (Int.ofNat i))) (.slice (some ⟨w.heap.size, 0, none⟩) n n) := by
            intro hm
            rw [allB_eq, List.all_eq_true] at hm
            have grow : ∀ i, i < n → getRow l (Int.ofNat i) = l.getD i [] := fun i hi => getRow_eq l (Int.ofNat i) (by simp)
            have grow2 : ∀ i, (hi : i < n) → l[i]? = some (getRow l (Int.ofNat i)) := fun i hi => by
              rw [grow i hi]
              simp [List.getD, List.getElem?_eq_getElem (by omega : i < l.length)]
            refine RoV.slc sz (.l n) _ ⟨w.heap.size, 0, none⟩ n (fun i j => zs.getD (i * sz + j) undef) rfl hO (by simp [SI.val]) (by simp [SI.val]) (fun i hi => ?_) (fun i j c hi hj => ?_) (fun i j c hi hj => ?_)
            · simp only [SI.val, Int.toNat_natCast] at hi
              exact (q3 i _ (grow2 i hi)).1
            · simp only [SI.val, Int.toNat_natCast] at hi
              obtain ⟨r1, r2⟩ := q3 i _ (grow2 i hi)
              have hjl := (List.getElem?_eq_some_iff.1 hj).1
              refine hcell _ ?_
              rw [q2]
              have : i * sz + sz ≤ n * sz := by
                have := Nat.mul_le_mul_right sz (Nat.succ_le_of_lt hi)
                rw [Nat.succ_mul] at this; exact this
              omega
            · simp only [SI.val, Int.toNat_natCast] at hi
              obtain ⟨r1, r2⟩ := q3 i _ (grow2 i hi)
              have hmr := hm _ (List.mem_of_getElem? (grow2 i hi))
              rw [allB_eq, List.all_eq_true] at hmr
              exact RoV.mono ex.o ex.cell (ro_of_leaf (r2 j c hj) (hmr c (List.mem_of_getElem? hj)))
          cases k with
          | int kk =>
            dsimp only at h
            split at h
            · rename_i ns hns
              exact ⟨_, h, .inl ⟨_, _, hexec, g, ints _ _ hns⟩⟩
            · exact h.elim
          | oth => exact h.elim
          | _ =>
            dsimp only at h
            cases hm : allB (allB AV.mf1) l with
            | false => rw [hm] at h; exact h.elim
            | true =>
              rw [hm, cond_true] at h
              exact ⟨_, h, .inl ⟨_, _, hexec, g, slcs hm⟩⟩
      · exact h.elim
    · exact h.elim
  case load t a =>
    obtain ⟨v, h1, h2⟩ := load_sound hG H (hr a (by simp [Op.operands])) h
    exact ⟨v, h1, Out.val h2⟩
  case binOp op t a b t2 =>
    obtain ⟨v, h1, h2⟩ := binOp_sound (xo := a) (yo := b) hG (hr a (by simp [Op.operands])) (hr b (by simp [Op.operands])) h
    exact ⟨v, h1, Out.val h2⟩
  case unOp op t a =>
    obtain ⟨v, h1, h2⟩ := unOp_sound (P := P) (hr a (by simp [Op.operands])) h
    exact ⟨v, h1, Out.val h2⟩
  case convert src dst' a =>
    dsimp only [evPure] at h
    split at h
    · rename_i k1 _ _ _ _ k2 _ _ _ _ k3 n hk1 hk2 hv
      obtain ⟨i1, d1, z1, T1⟩ := hG.tok hk1 (by simp)
      obtain ⟨i2, d2, z2, T2⟩ := hG.tok hk2 (by simp)
      have e1 := int_of_kind T1.kind
      have e2 := int_of_kind T2.kind
      subst e1 e2
      have hva := hr a (by simp [Op.operands])
      rw [hv] at hva
      refine ⟨_, h, Out.val ⟨.int k2 (k2.wrap n.val), ?_, rel_int _ _ _ (siConv_real _ _)⟩⟩
      simp [Go.convert, run_underlying' T1.und, run_underlying' T2.und, hva.int_inv, Conv.intToInt]
    · exact h.elim
  case makeFunc fn first caps =>
    dsimp only [evPure] at h
    split at h
    · rename_i f hfst
      cases hc : allB capOK (caps.toList.map ρ) with
      | false => rw [hc] at h; exact h.elim
      | true =>
        rw [hc, cond_true] at h
        rw [allB_eq, List.all_eq_true] at hc
        have hfst' := ofList_eq hfst
        subst hfst'
        refine ⟨_, h, .inl ⟨.func (.func f) #[] (caps.map ev), w, by simp [execOp, Instr.makeFunc], Below.refl _ _, ?_⟩⟩
        refine ⟨_, rfl, by simp, fun j c hj => ?_⟩
        rw [List.getElem?_map, Option.map_eq_some_iff] at hj
        obtain ⟨y, h1, rfl⟩ := hj
        have : (caps.map ev).getD j undef = ev y := by
          simp at h1
          simp [Array.getD_eq_getD_getElem?, h1]
        rw [this]
        have hm := List.mem_of_getElem? h1
        exact leaf_of_cap (hr y (by simp only [Op.operands, Array.toList_append]; exact List.mem_append_right _ hm)) (hc _ (List.mem_map_of_mem hm))
    · exact h.elim
  case slice t a lo hi mx =>
    obtain ⟨v, h1, h2⟩ := slice_sound (ev := ev) hG (hr a (by simp [Op.operands])) (fun y hy => hr y (by subst hy; simp [Op.operands])) (fun y hy => hr y (by subst hy; simp [Op.operands]))
      (fun y hy => hr y (by subst hy; simp [Op.operands])) h
    exact ⟨v, h1, Out.val h2⟩
  case fieldAddr t a f =>
    obtain ⟨v, h1, h2⟩ := fieldAddr_sound hG (hr a (by simp [Op.operands])) h
    exact ⟨v, h1, Out.val h2⟩
  case field t a f =>
    obtain ⟨v, h1, h2⟩ := field_sound hG (hr a (by simp [Op.operands])) h
    exact ⟨v, h1, Out.val h2⟩
  case indexAddr t a i =>
    obtain ⟨v, h1, h2⟩ := indexAddr_sound hG H (hr a (by simp [Op.operands])) (hr i (by simp [Op.operands])) h
    exact ⟨v, h1, Out.val h2⟩
  case index t a i =>
    dsimp only [evPure] at h
    split at h
    · rename_i s k n hk hs hn
      obtain ⟨i1, d1, z1, T1⟩ := hG.tok (t := t) (k := .str) (sz := (G t).sz) (by_ := (G t).bytes) (z := (G t).zero) (fl := (G t).fl) (by rw [← hk]) (by simp)
      have e1 := str_of_kind T1.kind
      subst e1
      have z := siLe_real h
      clear h
      obtain ⟨h0, h⟩ := z
      have z := siLt_real h
      clear h
      obtain ⟨h1, h⟩ := z
      have hva := hr a (by simp [Op.operands])
      have hvi := hr i (by simp [Op.operands])
      rw [hs] at hva
      rw [hn] at hvi
      have h0' : 0 ≤ n.val := h0
      have h1' : n.val < (s.size : Int) := h1
      have hlt : n.val.toNat < s.size := by omega
      refine ⟨_, h, Out.val ⟨.int .u8 (s[n.val.toNat].toNat), ?_, rel_int _ _ _ ?_⟩⟩
      · simp [Instr.index, hvi.int_inv, hva.str_inv, asIntOf, run_underlying' T1.und, h0', hlt]
      · show ((s.data.getD n.val.toNat 0).toNat : Int) = _
        have : s.data.getD n.val.toNat 0 = s[n.val.toNat] := by
          rw [Array.getD_eq_getD_getElem?, Array.getElem?_eq_getElem (by exact hlt)]
          rfl
        rw [this]
    · exact h.elim
  case nilCheck a =>
    dsimp only [evPure] at h
    have hva := hr a (by simp [Op.operands])
    split at h
    · rename_i b sz r c hs
      rw [hs] at hva
      obtain ⟨_, _, hv, _⟩ := (show LeafR _ (.ptr b sz r c) _ from hva)
      exact ⟨_, h, .inl ⟨ev a, w, by simp [execOp, hv], Below.refl _ _, by rw [hv]; rw [hv] at hva; exact hva⟩⟩
    · rename_i cs hs
      rw [hs] at hva
      obtain ⟨ad, hv⟩ : ∃ ad, ev a = .pointer (some ad) := by
        generalize ev a = va at hva
        cases (show RoV _ _ (.rp cs) va from hva) with
        | rp _ ad Y _ _ _ _ => exact ⟨ad, rfl⟩
      exact ⟨_, h, .inl ⟨ev a, w, by simp [execOp, hv], Below.refl _ _, hva⟩⟩
    · exact h.elim
  case extract a i =>
    dsimp only [evPure] at h
    have hva := hr a (by simp [Op.operands])
    split at h
    · rename_i vs hs
      rw [hs] at hva
      split at h
      · rename_i v hv
        rw [nthA_eq] at hv
        obtain ⟨ys, e1, hl, hy⟩ := hva
        have hlt := (List.getElem?_eq_some_iff.1 hv).1
        have hget : ys[i]? = some (ys.getD i undef) := by
          rw [Array.getD_eq_getD_getElem?, Array.getElem?_eq_getElem (by omega)]; rfl
        refine ⟨_, h, Out.val ⟨ys.getD i undef, ?_, relV_of_agg (hy i v hv)⟩⟩
        rw [e1]
        simp only [Instr.extract, hget, Sem.run_pure]
      · exact h.elim
    · exact h.elim
  case call c =>
    obtain ⟨callee, args, ts⟩ := c
    cases callee with
    | value f =>
      dsimp only [evPure] at h
      split at h
      · rename_i g caps hf
        obtain ⟨r, hK, hmf, hfok, hc⟩ := h
        have hvf := hr f (by simp [Op.operands, Call.operands])
        rw [hf] at hvf
        obtain ⟨ys, e1, hl, hy⟩ := fn_inv hvf
        obtain ⟨a1, a2⟩ := args_rel (ev := ev) (fun y hm => hr y (by simp only [Op.operands, Call.operands, Array.toList_append]; exact List.mem_append_right _ hm)) hl hy (fun c v => relV_of_leaf)
        rw [allB_eq, List.all_eq_true] at hmf
        have hcalls := hc (okO base O0 μ hp w) w (args.map ev ++ ys) (fun n hn => okO_lt H.all hn) a1 (fun j c hj => ro_of_rel (a2 j c hj) (hmf c (List.mem_of_getElem? hj)))
        refine ⟨r, hK, .inr ⟨g, _, call_value e1 hfok w, hcalls.mono ?_⟩⟩
        rintro e w' ⟨val, he, hrel, hb⟩
        exact ⟨val, he, hb, relV_of_ro (RoV.mono (sub_okO H hb) (fun _ _ _ h => h) hrel)⟩
      · exact h.elim
    | invoke recv name => exact h.elim
    | builtin b =>
      obtain ⟨v, hK, val, hv, hrel⟩ := builtin_sound (cs := args.map fun | .const _ => true | _ => false) (ty := ty) (ev := ev) (args := args) hG (fun y hm => hr y (by simp only [Op.operands, Call.operands, Array.toList_append]; exact List.mem_append_right _ hm)) h
      refine ⟨v, hK, .inl ⟨val, w, ?_, Below.refl _ _, hrel⟩⟩
      show ((resolve ev ⟨.builtin b, args, ts⟩ ty >>= fun d => invoke d.target d.args : Sem Next)).run P w = _
      rw [Sem.run_bind]
      exact hv
end
end Go.Proofs.Ytincnfjihffllaa.Ev
