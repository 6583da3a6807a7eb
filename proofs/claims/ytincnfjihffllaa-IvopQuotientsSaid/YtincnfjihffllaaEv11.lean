/- The evaluator's operations on the call's own memory do what the model's do. -/
import Derived.Test.YtincnfjihffllaaEv10
namespace Go.Proofs.Ytincnfjihffllaa.Ev
open Go Go.RowKit
set_option linter.unusedVariables false
set_option linter.unusedSimpArgs false

section
variable {P : Program} {G : Nat → TI} {base : Nat} {O0 : Nat → Prop} {μ : Nat → Nat} {hp : List Blk} {w w' : World}

theorem heap_push (w : World) (o : Obj) : (pushW w o).heap[w.heap.size]? = some o := by simp only [pushW]; exact Array.getElem?_push_size

theorem some_of_getD {c : Array Value} {q : Nat} (h : q < c.size) : c[q]? = some (c.getD q undef) := by
  rw [Array.getD_eq_getD_getElem?, Array.getElem?_eq_getElem h]; rfl

/-- What comes of an operation. -/
def Res (base : Nat) (O0 : Nat → Prop) (μ : Nat → Nat) (hp : List Blk) (w : World) (K : AV → List Blk → Prop) (val : Value) (w' : World) : Prop :=
  ∃ v h' μ', K v h' ∧ RelV (mkX base O0 μ' h' w') v val ∧ HR base O0 μ' h' w' ∧ Ext (mkX base O0 μ hp w) (mkX base O0 μ' h' w') ∧ Below base w w'

theorem alloc_rows (H : HR base O0 μ hp w) {cells : Array Value} {e sz : Nat} {d : List AV} {l : List (List AV)} (hd : d.length = sz)
    (hrows : ∀ (i : Nat) (r : List AV), l[i]? = some r → r.length = sz ∧ ∀ (j : Nat) (a : AV), r[j]? = some a → i * sz + j < cells.size ∧ LeafR (mkX base O0 μ hp w) a (cells.getD (i * sz + j) undef)) :
    HR base O0 (μnew μ hp.length w.heap.size) (hp ++ [.rows true sz d l]) (pushW w (.cells cells e)) := by
  refine HR.alloc H _ _ ⟨hd, cells, e, heap_push w _, fun i r hi => ⟨(hrows i r hi).1, fun j a hj => ?_⟩⟩
  obtain ⟨h1, h2⟩ := (hrows i r hi).2 j a hj
  exact ⟨_, some_of_getD h1, h2.mono (Ext.alloc H _ _)⟩

theorem alloc_ints (H : HR base O0 μ hp w) {cells : Array Value} {e : Nat} {k : IntKind} {l : List Int}
    (hrows : ∀ (i : Nat) (n : Int), l[i]? = some n → i < cells.size ∧ cells.getD i undef = .int k n) :
    HR base O0 (μnew μ hp.length w.heap.size) (hp ++ [.ints true k l]) (pushW w (.cells cells e)) := by
  refine HR.alloc H _ _ ⟨cells, e, heap_push w _, fun i n hi => ?_⟩
  obtain ⟨h1, h2⟩ := hrows i n hi
  rw [some_of_getD h1, h2]

theorem rel_ptr_new {x : Blk} {sz n : Nat} (hd : x.dim = some (n, sz)) (h0 : 0 < n) :
    RelV (mkX base O0 (μnew μ hp.length w.heap.size) (hp ++ [x]) w') (.ptr (lenB hp) sz (.l 0) 0) (.pointer (some ⟨w.heap.size, 0, none⟩)) := by
  rw [lenB_eq]
  refine ⟨by simp [mkX], by simp [SI.val], by simp [mkX, μnew, SI.val], fun n' s hn => ?_⟩
  have hn' : dimB (hp ++ [x]) hp.length = some (n', s) := hn
  rw [dimB_app, if_neg (by omega), if_pos rfl, hd] at hn'
  simp only [Option.some.injEq, Prod.mk.injEq] at hn'
  exact ⟨by simp [SI.val]; omega, hn'.2.symm⟩

theorem rel_ms_new {x : Blk} {sz n : Nat} {len : SI} {cap : Nat} {cells : Array Value} {e : Nat} (hd : x.dim = some (n, sz)) (hl : len.val.toNat ≤ n) (h0 : 0 ≤ len.val) (hc : len.val.toNat ≤ cap) (hcap : cap * sz ≤ cells.size) :
    RelV (mkX base O0 (μnew μ hp.length w.heap.size) (hp ++ [x]) (pushW w (.cells cells e))) (.ms (lenB hp) sz (.l 0) len) (.slice (some ⟨w.heap.size, 0, none⟩) len.val.toNat cap) := by
  rw [lenB_eq]
  refine ⟨by simp [mkX], by simp [SI.val], h0, _, cap, rfl, hc, fun _ => by simp [mkX, μnew, SI.val], fun n' s hn => ?_⟩
  have hn' : dimB (hp ++ [x]) hp.length = some (n', s) := hn
  rw [dimB_app, if_neg (by omega), if_pos rfl, hd] at hn'
  simp only [Option.some.injEq, Prod.mk.injEq] at hn'
  have z0 : (SI.l 0).val.toNat = 0 := rfl
  refine ⟨by omega, hn'.2.symm, e, cells.size, ?_, by rw [z0, Nat.zero_add]; exact hcap⟩
  simp only [mkX, μnew, if_pos trivial]
  simp only [World.shape?, heap_push]

theorem res_alloc (H : HR base O0 μ hp w) {o : Obj} {x : Blk} {K : AV → List Blk → Prop} {v : AV} {val : Value} (hK : K v (appB hp x)) (hH : HR base O0 (μnew μ hp.length w.heap.size) (hp ++ [x]) (pushW w o))
    (hv : RelV (mkX base O0 (μnew μ hp.length w.heap.size) (hp ++ [x]) (pushW w o)) v val) : Res base O0 μ hp w K val (pushW w o) :=
  ⟨v, hp ++ [x], _, by rw [← appB_eq]; exact hK, hv, hH, Ext.alloc H o x, (below_push w o).mono H.all⟩

theorem run_newVar (e : TypeId) (v : Value) (w : World) : (newVar e v).run P w = .ok ⟨w.heap.size, 0, none⟩ (pushW w (.cells v.cells e)) := by
  simp only [newVar, newRow, Sem.run_bind, run_newObj, Result.andThen_ok, Sem.run_pure]
  rfl

theorem zero_cells {t sz by_ : Nat} {k : TK} {z : List AV} {fl : Option (List (Option IntKind))} {i : TypeInfo} {d : TypeDesc} {v : Value} (T : TOK P t k sz by_ z fl i d v) {x : X} : CellsR x z v.cells := by
  rw [← T.zc]
  refine ⟨by simp, fun j c hj => ?_⟩
  rw [List.getElem?_map, Option.map_eq_some_iff] at hj
  obtain ⟨y, h1, rfl⟩ := hj
  have : v.cells.getD j undef = y := by
    rw [Array.getD_eq_getD_getElem?]
    simp at h1
    simp [h1]
  rw [this]
  exact ofLeaf_rel y

/-- a variable of its own, that holds nought -/
theorem alloc_one (hG : GOK P G) (H : HR base O0 μ hp w) {t sz by_ : Nat} {k : TK} {z : List AV} {fl : Option (List (Option IntKind))} (hk : G t = ⟨k, sz, by_, z, fl⟩) (hne : k ≠ .oth) {K : AV → List Blk → Prop}
    (h : bif Nat.beq (lenC z) sz && allB AV.leaf z then K (.ptr (lenB hp) sz (.l 0) 0) (appB hp (.rows true sz z [z])) else False) :
    ∃ val w', (Instr.alloc t true (.tuple #[])).run P w = .ok val w' ∧ Res base O0 μ hp w K val w' := by
  obtain ⟨i, d, v, T⟩ := hG.tok hk hne
  cases hb : Nat.beq (lenC z) sz && allB AV.leaf z with
  | false => rw [hb] at h; exact h.elim
  | true =>
    rw [hb, cond_true] at h
    simp only [Bool.and_eq_true] at hb
    have hl := Nat.eq_of_beq_eq_true hb.1
    rw [lenC_eq] at hl
    have hz := zero_cells T (x := mkX base O0 μ hp w)
    refine ⟨.pointer (some ⟨w.heap.size, 0, none⟩), _, ?_, res_alloc (o := .cells v.cells t) H h ?_ (rel_ptr_new (n := 1) rfl (by omega))⟩
    · have hzr : (zeroValue t).run P w = .ok v w := by simp [zeroValue, run_typeInfo' T.info, T.zer]
      simp only [Instr.alloc, Sem.run_bind, hzr, Result.andThen_ok, run_newVar, Sem.run_pure]
    · refine alloc_rows H hl (fun i r hi => ?_)
      cases i with
      | zero =>
        simp at hi
        subst hi
        refine ⟨hl, fun j a hj => ?_⟩
        have := (List.getElem?_eq_some_iff.1 hj).1
        rw [Nat.zero_mul, Nat.zero_add]
        exact ⟨by have := hz.1; omega, hz.2 j a hj⟩
      | succ i => simp at hi

theorem chunks_length : ∀ (n sz : Nat) (l : List AV), (chunks n sz l).length = n
  | 0, _, _ => rfl
  | n + 1, sz, l => by simp [chunks, chunks_length n sz]
theorem chunks_get : ∀ (n sz : Nat) (l : List AV) (i : Nat), i < n → (chunks n sz l)[i]? = some ((l.drop (i * sz)).take sz)
  | 0, _, _, _, h => by omega
  | n + 1, sz, l, 0, h => by simp [chunks, takeC_eq]
  | n + 1, sz, l, i + 1, h => by
    simp only [chunks, List.getElem?_cons_succ, chunks_get n sz _ i (by omega), dropC_eq, List.drop_drop]
    rw [show sz + i * sz = (i + 1) * sz by rw [Nat.add_mul]; omega]

theorem alloc_sound (hG : GOK P G) (H : HR base O0 μ hp w) {t : Nat} {tt : List (Nat × AV)} {K : AV → List Blk → Prop} (h : evOp (realE P) G ⟨tt, hp⟩ (.alloc t) K) :
    ∃ val w', (Instr.alloc t true (.tuple #[])).run P w = .ok val w' ∧ Res base O0 μ hp w K val w' := by
  dsimp only [evOp] at h
  split at h
  · exact h.elim
  · rename_i n e sz1 by1 z fl1 hk
    obtain ⟨i, d, v, T⟩ := hG.tok hk (by simp)
    have hd := array_of_kind T.kind
    subst hd
    generalize hk2 : G e = ge at h
    obtain ⟨k2, sz, by2, z', fl2⟩ := ge
    have hne : k2 ≠ .oth := by rintro rfl; exact h
    have h' : bif Nat.beq (lenC z) (n * sz) && Nat.beq (lenC z') sz && Nat.ble 1 n then K (.ptr (lenB hp) sz (.l 0) 0) (appB hp (.rows true sz z' (chunks n sz z))) else False := by
      cases k2 <;> first | exact h | exact absurd rfl hne
    clear h
    cases hb : Nat.beq (lenC z) (n * sz) && Nat.beq (lenC z') sz && Nat.ble 1 n with
    | false => rw [hb] at h'; exact h'.elim
    | true =>
      rw [hb, cond_true] at h'
      simp only [Bool.and_eq_true] at hb
      have b1 := Nat.eq_of_beq_eq_true hb.1.1
      have b2 := Nat.eq_of_beq_eq_true hb.1.2
      have b3 := Nat.le_of_ble_eq_true hb.2
      rw [lenC_eq] at b1 b2
      have hz := zero_cells T (x := mkX base O0 μ hp w)
      refine ⟨.pointer (some ⟨w.heap.size, 0, none⟩), _, ?_, res_alloc (o := .cells v.cells t) H h' ?_ (rel_ptr_new (n := n) (by simp [Blk.dim, chunks_length]) (by omega))⟩
      · have hzr : (zeroValue t).run P w = .ok v w := by simp [zeroValue, run_typeInfo' T.info, T.zer]
        simp only [Instr.alloc, Sem.run_bind, hzr, Result.andThen_ok, run_newVar, Sem.run_pure]
      · refine alloc_rows H b2 (fun i r hi => ?_)
        have hil : i < n := by have := (List.getElem?_eq_some_iff.1 hi).1; rwa [chunks_length] at this
        rw [chunks_get n sz z i hil] at hi
        injection hi with hi
        subst hi
        have h3 : i * sz + sz ≤ n * sz := by
          have := Nat.mul_le_mul_right sz (Nat.succ_le_of_lt hil)
          rw [Nat.succ_mul] at this; exact this
        refine ⟨by simp; omega, fun j a hj => ?_⟩
        rw [List.getElem?_take] at hj
        split at hj
        · rw [List.getElem?_drop] at hj
          have := (List.getElem?_eq_some_iff.1 hj).1
          exact ⟨by have := hz.1; omega, hz.2 _ a hj⟩
        · cases hj
  · rename_i k sz by_ z fl h1 h2 hk
    exact alloc_one hG H hk h1 h

theorem box_sound (hG : GOK P G) (H : HR base O0 μ hp w) {t : Nat} {y : Operand} {tt : List (Nat × AV)} {va : Value} {K : AV → List Blk → Prop} (hv : RelV (mkX base O0 μ hp w) (opd tt y) va)
    (h : evOp (realE P) G ⟨tt, hp⟩ (.box t y) K) : ∃ val w', (Instr.box t va).run P w = .ok val w' ∧ Res base O0 μ hp w K val w' := by
  dsimp only [evOp] at h
  split at h
  · exact h.elim
  · exact h.elim
  · rename_i k sz by_ z fl h1 h2 hk
    obtain ⟨i, d, v, T⟩ := hG.tok hk h1
    cases hb : Nat.beq (lenC (opd tt y).cells) sz && Nat.beq (lenC z) sz && allB AV.leaf (opd tt y).cells with
    | false => rw [hb] at h; exact h.elim
    | true =>
      rw [hb, cond_true] at h
      simp only [Bool.and_eq_true] at hb
      have hl := Nat.eq_of_beq_eq_true hb.1.1
      have hl2 := Nat.eq_of_beq_eq_true hb.1.2
      rw [lenC_eq] at hl hl2
      obtain ⟨c1, c2⟩ := rel_cells hv hb.2
      refine ⟨.pointer (some ⟨w.heap.size, 0, none⟩), _, ?_, res_alloc (o := .cells va.cells t) H h ?_ (rel_ptr_new (n := 1) rfl (by omega))⟩
      · simp only [Instr.box, Sem.run_bind, run_newVar, Result.andThen_ok, Sem.run_pure]
      · refine alloc_rows H hl2 (fun i r hi => ?_)
        cases i with
        | zero =>
          simp at hi
          subst hi
          refine ⟨hl, fun j a hj => ?_⟩
          have := (List.getElem?_eq_some_iff.1 hj).1
          rw [Nat.zero_mul, Nat.zero_add]
          exact ⟨by omega, (c2 j a hj).1⟩
        | succ i => simp at hi

theorem buildSlice_sound (hG : GOK P G) (H : HR base O0 μ hp w) {t n : Nat} {parts : Array (Nat × Operand)} {tt : List (Nat × AV)} {ev : Operand → Value} {K : AV → List Blk → Prop}
    (hr : ∀ (i : Nat) (y : Operand), (i, y) ∈ parts.toList → RelV (mkX base O0 μ hp w) (opd tt y) (ev y))
    (h : evOp (realE P) G ⟨tt, hp⟩ (.buildSlice t n parts) K) : ∃ val w', (Instr.buildSlice t n (parts.map fun p => (p.1, ev p.2))).run P w = .ok val w' ∧ Res base O0 μ hp w K val w' := by
  dsimp only [evOp] at h
  split at h
  · rename_i e sz1 by1 z1 fl1 hk
    obtain ⟨i, d, z', T⟩ := hG.tok hk (by simp)
    have hd := slice_of_kind T.kind
    subst hd
    generalize hk2 : G e = ge at h
    obtain ⟨k, sz, by2, z2, fl2⟩ := ge
    dsimp only at h
    split at h
    · rename_i l hl
      cases hb : Nat.beq (lenR l) n && Nat.ble (n * sz) 1000 && Nat.beq (lenC z2) sz with
      | false => rw [hb] at h; exact h.elim
      | true =>
        rw [hb, cond_true] at h
        simp only [Bool.and_eq_true, lenR_eq] at hb
        have b1 := Nat.eq_of_beq_eq_true hb.1.1
        have b2 := Nat.le_of_ble_eq_true hb.1.2
        have b3 := Nat.eq_of_beq_eq_true hb.2
        rw [lenC_eq] at b3
        have hne : k ≠ .oth := by rintro rfl; exact h
        obtain ⟨i2, d2, z2', T2⟩ := hG.tok hk2 hne
        obtain ⟨zs, q1, q2, q3⟩ := run_buildSlice T.und T2 hr hl b1 b2 w
        refine ⟨_, _, q1, ?_⟩
        have rows : K (.ms (lenB hp) sz (.l 0) (.l n)) (appB hp (.rows true sz z2 l)) → Res base O0 μ hp w K (.slice (some ⟨w.heap.size, 0, none⟩) n n) (pushW w (.cells zs e)) := by
          intro hK
          refine res_alloc H hK (alloc_rows H b3 (fun i r hi => ⟨(q3 i r hi).1, fun j a hj => ⟨?_, (q3 i r hi).2 j a hj⟩⟩)) ?_
          · have hil := (List.getElem?_eq_some_iff.1 hi).1
            have hjl := (List.getElem?_eq_some_iff.1 hj).1
            have := (q3 i r hi).1
            rw [q2]
            have h3 : i * sz + sz ≤ n * sz := by
              have := Nat.mul_le_mul_right sz (Nat.succ_le_of_lt (by omega : i < n))
              rw [Nat.succ_mul] at this; exact this
            omega
          · have := rel_ms_new (base := base) (O0 := O0) (μ := μ) (hp := hp) (w := w) (x := .rows true sz z2 l) (sz := sz) (n := n) (len := .l n) (cap := n) (cells := zs) (e := e) (by simp [Blk.dim, b1]) (by simp [SI.val]) (by simp [SI.val]) (by simp [SI.val]) (by rw [q2]; exact Nat.le_refl _)
            simpa [SI.val] using this
        cases k with
        | int kk =>
          dsimp only at h
          split at h
          · rename_i ns hns
            obtain ⟨m1, m2⟩ := ints_rows hns
            refine res_alloc H h (alloc_ints H (fun i m hi => ?_)) ?_
            · obtain ⟨s, e1, e2⟩ := m2 i m hi
              obtain ⟨r1, r2⟩ := q3 i _ e2
              have hil := (List.getElem?_eq_some_iff.1 hi).1
              have hsz : sz = 1 := by simpa using r1.symm
              have := (r2 0 _ rfl).int_inv
              rw [hsz, Nat.mul_one, Nat.add_zero] at this
              exact ⟨by rw [q2, hsz]; omega, by rw [this, e1]⟩
            · have hcap : n * 1 ≤ zs.size := by
                rw [q2, Nat.mul_one]
                cases hl0 : l with
                | nil => rw [hl0] at b1; simp at b1; omega
                | cons r rest =>
                  have hn0 : 0 < ns.length := by rw [m1, hl0]; simp
                  obtain ⟨s, e1, e2⟩ := m2 0 ns[0] (List.getElem?_eq_getElem hn0)
                  obtain ⟨r1, r2⟩ := q3 0 _ e2
                  have hsz : sz = 1 := by simpa using r1.symm
                  rw [hsz, Nat.mul_one]
                  exact Nat.le_refl _
              have := rel_ms_new (base := base) (O0 := O0) (μ := μ) (hp := hp) (w := w) (x := .ints true kk ns) (sz := 1) (n := n) (len := .l n) (cap := n) (cells := zs) (e := e) (by simp [Blk.dim, b1, m1]) (by simp [SI.val]) (by simp [SI.val]) (by simp [SI.val]) hcap
              simpa [SI.val] using this
          · exact h.elim
        | oth => exact h.elim
        | _ => exact rows h
    · exact h.elim
  · exact h.elim
end
end Go.Proofs.Ytincnfjihffllaa.Ev
