/- Texts of the proof, joined and shortened. -/
import Derived.Test.YtmlcglmbjjmijaaGreatDoorB1
set_option linter.unusedVariables false
set_option linter.unusedSimpArgs false
namespace Go.Proofs.YtmlcglmbjjmijaaGreatDoor.Ev
section
open Go Go.RowKit
section
variable {P : Program} {G : Nat → TI} {base : Nat} {O0 : Nat → Prop} {μ : Nat → Nat} {hp : List Blk} {w w' : World}
theorem dI (w : World) (o : Obj) : (cC w o).heap[w.heap.size]? = some o := by simp only [cC]; exact Array.getElem?_push_size
theorem bU {c : Array Value} {q : Nat} (h : q < c.size) : c[q]? = some (c.getD q undef) := by
 rw [Array.getD_eq_getD_getElem?, Array.getElem?_eq_getElem h]; rfl
def Res (base : Nat) (O0 : Nat → Prop) (μ : Nat → Nat) (hp : List Blk) (w : World) (K : AV → List Blk → Prop) (val : Value) (w' : World) : Prop :=
 ∃ v h' μ', K v h' ∧ RelV (mkX base O0 μ' h' w') v val ∧ HR base O0 μ' h' w' ∧ Ext (mkX base O0 μ hp w) (mkX base O0 μ' h' w') ∧ Below base w w'
theorem kQ (H : HR base O0 μ hp w) {cells : Array Value} {e sz : Nat} {d : List AV} {l : List (List AV)} (hd : d.length = sz)
 (hrows : ∀ (i : Nat) (r : List AV), l[i]? = some r → r.length = sz ∧ ∀ (j : Nat) (a : AV), r[j]? = some a → i * sz + j < cells.size ∧ LeafR (mkX base O0 μ hp w) a (cells.getD (i * sz + j) undef))
 (hneed : cB (cW d) e = true) : HR base O0 (μnew μ hp.length w.heap.size) (hp ++ [.rows true sz d l]) (cC w (.cells cells e)) := by
 refine HR.alloc H _ _ ⟨hd, cells, e, dI w _, fun i r hi => ⟨(hrows i r hi).1, fun j a hj => ?_⟩⟩ (TyR.new (dI w _) hneed);obtain ⟨h1, h2⟩ := (hrows i r hi).2 j a hj;exact ⟨_, bU h1, h2.mono (Ext.alloc H _ _)⟩
theorem uK (H : HR base O0 μ hp w) {cells : Array Value} {e : Nat} {k : IntKind} {l : List Int}
 (hrows : ∀ (i : Nat) (n : Int), l[i]? = some n → i < cells.size ∧ cells.getD i undef = .int k n) (hneed : cB (iS k) e = true) :
 HR base O0 (μnew μ hp.length w.heap.size) (hp ++ [.ints true k l]) (cC w (.cells cells e)) := by
 refine HR.alloc H _ _ ⟨cells, e, dI w _, fun i n hi => ?_⟩ (TyR.new (dI w _) hneed);obtain ⟨h1, h2⟩ := hrows i n hi;rw [bU h1, h2]
theorem lX {x : Blk} {sz n : Nat} (hd : x.dim = some (n, sz)) (h0 : 0 < n) :
 RelV (mkX base O0 (μnew μ hp.length w.heap.size) (hp ++ [x]) w') (.ptr (lenB hp) sz (.l 0) 0) (.pointer (some ⟨w.heap.size, 0, none⟩)) := by
 rw [eJ];refine ⟨by simp [mkX], by simp [SI.val], by simp [mkX, μnew, SI.val], fun n' s hn => ?_⟩;have hn' : dimB (hp ++ [x]) hp.length = some (n', s) := hn;rw [dimB_app, if_neg (by omega), if_pos rfl, hd] at hn';simp only [Option.some.injEq, Prod.mk.injEq] at hn';exact ⟨by simp [SI.val]; omega, hn'.2.symm⟩
theorem iB {x : Blk} {sz n : Nat} {len : SI} {cap : Nat} {cells : Array Value} {e : Nat} (hd : x.dim = some (n, sz)) (hl : len.val.toNat ≤ n) (h0 : 0 ≤ len.val) (hc : len.val.toNat ≤ cap) (hcap : cap * sz ≤ cells.size) :
 RelV (mkX base O0 (μnew μ hp.length w.heap.size) (hp ++ [x]) (cC w (.cells cells e))) (.ms (lenB hp) sz (.l 0) len) (.slice (some ⟨w.heap.size, 0, none⟩) len.val.toNat cap) := by
 rw [eJ];refine ⟨by simp [mkX], by simp [SI.val], h0, _, cap, rfl, hc, fun _ => by simp [mkX, μnew, SI.val], fun n' s hn => ?_⟩;have hn' : dimB (hp ++ [x]) hp.length = some (n', s) := hn;rw [dimB_app, if_neg (by omega), if_pos rfl, hd] at hn';simp only [Option.some.injEq, Prod.mk.injEq] at hn';have z0 : (SI.l 0).val.toNat = 0 := rfl;refine ⟨by omega, hn'.2.symm, e, cells.size, ?_, by rw [z0, Be]; exact hcap⟩;simp only [mkX, μnew, if_pos trivial];simp only [World.shape?, dI]
theorem iT (H : HR base O0 μ hp w) {o : Obj} {x : Blk} {K : AV → List Blk → Prop} {v : AV} {val : Value} (hK : K v (appB hp x)) (hH : HR base O0 (μnew μ hp.length w.heap.size) (hp ++ [x]) (cC w o))
 (hv : RelV (mkX base O0 (μnew μ hp.length w.heap.size) (hp ++ [x]) (cC w o)) v val) : Res base O0 μ hp w K val (cC w o) :=
 ⟨v, hp ++ [x], _, by rw [← gW]; exact hK, hv, hH, Ext.alloc H o x, (dQ w o).mono H.all⟩
theorem kV (e : TypeId) (v : Value) (w : World) : (newVar e v).run P w = .ok ⟨w.heap.size, 0, none⟩ (cC w (.cells v.cells e)) := by
 simp only [newVar, newRow, Sem.run_bind, run_newObj, Result.andThen_ok, Sem.run_pure];rfl
theorem oE {t sz by_ : Nat} {k : TK} {z : List AV} {fl : Option (List (Option IntKind))} {i : TypeInfo} {d : TypeDesc} {v : Value} (T : TOK P t k sz by_ z fl i d v) {x : X} : jX x z v.cells := by
 rw [← T.zc];refine ⟨by simp, fun j c hj => ?_⟩;rw [List.getElem?_map, Option.map_eq_some_iff] at hj;obtain ⟨y, h1, rfl⟩ := hj;have : v.cells.getD j undef = y := by
  rw [Array.getD_eq_getD_getElem?];simp at h1;simp [h1]
 rw [this];exact lG y
theorem alloc_one (hG : GOK P G) (H : HR base O0 μ hp w) {t sz by_ : Nat} {k : TK} {z : List AV} {fl : Option (List (Option IntKind))} (hk : G t = ⟨k, sz, by_, z, fl⟩) (hne : k ≠ .oth) {K : AV → List Blk → Prop}
 (h : bif Nat.beq (lenC z) sz && allB AV.leaf z && cB (cW z) t then K (.ptr (lenB hp) sz (.l 0) 0) (appB hp (.rows true sz z [z])) else False) :
 ∃ val w', (Instr.alloc t true (.tuple #[])).run P w = .ok val w' ∧ Res base O0 μ hp w K val w' := by
 obtain ⟨i, d, v, T⟩ := hG.tok hk hne;cases hb : Nat.beq (lenC z) sz && allB AV.leaf z && cB (cW z) t with
 | false => rw [hb] at h; exact h.elim
 | true =>
  rw [hb, cond_true] at h;simp only [Aj] at hb;obtain ⟨hb, hneed⟩ := hb;have hl := Ad hb.1;rw [gA] at hl;have hz := oE T (x := mkX base O0 μ hp w);refine ⟨.pointer (some ⟨w.heap.size, 0, none⟩), _, ?_, iT (o := .cells v.cells t) H h ?_ (lX (n := 1) rfl (by omega))⟩
  · have hzr : (zeroValue t).run P w = .ok v w := by simp [zeroValue, cF T.info, T.zer]
    simp only [Instr.alloc, Sem.run_bind, hzr, Result.andThen_ok, kV, Sem.run_pure]
  · refine kQ H hl (fun i r hi => ?_) hneed;cases i with
    | zero =>
     simp at hi;subst hi;refine ⟨hl, fun j a hj => ?_⟩;have := (List.getElem?_eq_some_iff.1 hj).1;rw [Cx, Be];exact ⟨by have := hz.1; omega, hz.2 j a hj⟩
    | succ i => simp at hi
theorem jZ : ∀ (n sz : Nat) (l : List AV), (chunks n sz l).length = n
 | 0, _, _ => rfl
 | n + 1, sz, l => by simp [chunks, jZ n sz]
theorem wD : ∀ (n sz : Nat) (l : List AV) (i : Nat), i < n → (chunks n sz l)[i]? = some ((l.drop (i * sz)).take sz)
 | 0, _, _, _, h => by omega
 | n + 1, sz, l, 0, h => by simp [chunks, lT]
 | n + 1, sz, l, i + 1, h => by
  simp only [chunks, List.getElem?_cons_succ, wD n sz _ i (by omega), mH, List.drop_drop];rw [show sz + i * sz = (i + 1) * sz by rw [Bd]; omega]
theorem aBW (hG : GOK P G) (H : HR base O0 μ hp w) {t : Nat} {tt : List (Nat × AV)} {K : AV → List Blk → Prop} (h : evOp (aB P) G ⟨tt, hp⟩ (.alloc t) K) :
 ∃ val w', (Instr.alloc t true (.tuple #[])).run P w = .ok val w' ∧ Res base O0 μ hp w K val w' := by
 dsimp only [evOp] at h;split at h
 · exact h.elim
 · rename_i n e sz1 by1 z fl1 hk;obtain ⟨i, d, v, T⟩ := hG.tok hk (by simp);have hd := kC T.kind;subst hd;generalize hk2 : G e = ge at h;obtain ⟨k2, sz, by2, z', fl2⟩ := ge;have hne : k2 ≠ .oth := by rintro rfl; exact h
   have h' : bif Nat.beq (lenC z) (n * sz) && Nat.beq (lenC z') sz && Nat.ble 1 n && cB (cW z') t then K (.ptr (lenB hp) sz (.l 0) 0) (appB hp (.rows true sz z' (chunks n sz z))) else False := by
    cases k2 <;> first | exact h | exact absurd rfl hne
   clear h;cases hb : Nat.beq (lenC z) (n * sz) && Nat.beq (lenC z') sz && Nat.ble 1 n && cB (cW z') t with
   | false => rw [hb] at h'; exact h'.elim
   | true =>
    rw [hb, cond_true] at h';simp only [Aj] at hb;obtain ⟨hb, hneed⟩ := hb;have b1 := Ad hb.1.1;have b2 := Ad hb.1.2;have b3 := An hb.2;rw [gA] at b1 b2;have hz := oE T (x := mkX base O0 μ hp w);refine ⟨.pointer (some ⟨w.heap.size, 0, none⟩), _, ?_, iT (o := .cells v.cells t) H h' ?_ (lX (n := n) (by simp [Blk.dim, jZ]) (by omega))⟩
    · have hzr : (zeroValue t).run P w = .ok v w := by simp [zeroValue, cF T.info, T.zer]
      simp only [Instr.alloc, Sem.run_bind, hzr, Result.andThen_ok, kV, Sem.run_pure]
    · refine kQ H b2 (fun i r hi => ?_) hneed;have hil : i < n := by have := (List.getElem?_eq_some_iff.1 hi).1; rwa [jZ] at this
      rw [wD n sz z i hil] at hi;injection hi with hi
      subst hi;have h3 : i * sz + sz ≤ n * sz := by
       have := Ai sz (Bu hil);rw [Co] at this; exact this
      refine ⟨by simp; omega, fun j a hj => ?_⟩;rw [List.getElem?_take] at hj;split at hj
      · rw [List.getElem?_drop] at hj;have := (List.getElem?_eq_some_iff.1 hj).1;exact ⟨by have := hz.1; omega, hz.2 _ a hj⟩
      · cases hj
 · rename_i k sz by_ z fl h1 h2 hk;exact alloc_one hG H hk h1 h
theorem box_sound (hG : GOK P G) (H : HR base O0 μ hp w) {t : Nat} {y : Operand} {tt : List (Nat × AV)} {va : Value} {K : AV → List Blk → Prop} (hv : RelV (mkX base O0 μ hp w) (opd tt y) va)
 (h : evOp (aB P) G ⟨tt, hp⟩ (.box t y) K) : ∃ val w', (Instr.box t va).run P w = .ok val w' ∧ Res base O0 μ hp w K val w' := by
 dsimp only [evOp] at h;split at h
 · exact h.elim
 · exact h.elim
 · rename_i k sz by_ z fl h1 h2 hk;obtain ⟨i, d, v, T⟩ := hG.tok hk h1;cases hb : Nat.beq (lenC (opd tt y).cells) sz && Nat.beq (lenC z) sz && allB AV.leaf (opd tt y).cells && cB (cW z) t with
   | false => rw [hb] at h; exact h.elim
   | true =>
    rw [hb, cond_true] at h;simp only [Aj] at hb;obtain ⟨hb, hneed⟩ := hb;have hl := Ad hb.1.1;have hl2 := Ad hb.1.2;rw [gA] at hl hl2;obtain ⟨c1, c2⟩ := nG hv hb.2;refine ⟨.pointer (some ⟨w.heap.size, 0, none⟩), _, ?_, iT (o := .cells va.cells t) H h ?_ (lX (n := 1) rfl (by omega))⟩
    · simp only [Instr.box, Sem.run_bind, kV, Result.andThen_ok, Sem.run_pure]
    · refine kQ H hl2 (fun i r hi => ?_) hneed;cases i with
      | zero =>
       simp at hi;subst hi;refine ⟨hl, fun j a hj => ?_⟩;have := (List.getElem?_eq_some_iff.1 hj).1;rw [Cx, Be];exact ⟨by omega, (c2 j a hj).1⟩
      | succ i => simp at hi
theorem rL (hG : GOK P G) (H : HR base O0 μ hp w) {t n : Nat} {parts : Array (Nat × Operand)} {tt : List (Nat × AV)} {ev : Operand → Value} {K : AV → List Blk → Prop}
 (hr : ∀ (i : Nat) (y : Operand), (i, y) ∈ parts.toList → RelV (mkX base O0 μ hp w) (opd tt y) (ev y))
 (h : evOp (aB P) G ⟨tt, hp⟩ (.buildSlice t n parts) K) : ∃ val w', (Instr.buildSlice t n (parts.map fun p => (p.1, ev p.2))).run P w = .ok val w' ∧ Res base O0 μ hp w K val w' := by
 dsimp only [evOp] at h;split at h
 · rename_i e sz1 by1 z1 fl1 hk;obtain ⟨i, d, z', T⟩ := hG.tok hk (by simp);have hd := eQ T.kind;subst hd;generalize hk2 : G e = ge at h;obtain ⟨k, sz, by2, z2, fl2⟩ := ge;dsimp only at h;split at h
   · rename_i l hl;cases hb : Nat.beq (lenR l) n && Nat.ble (n * sz) 1000 && Nat.beq (lenC z2) sz with
     | false => rw [hb] at h; exact h.elim
     | true =>
      rw [hb, cond_true] at h;simp only [Aj, lH] at hb;have b1 := Ad hb.1.1;have b2 := An hb.1.2;have b3 := Ad hb.2;rw [gA] at b3;have hne : k ≠ .oth := by rintro rfl; exact h
      obtain ⟨i2, d2, z2', T2⟩ := hG.tok hk2 hne;obtain ⟨zs, q1, q2, q3⟩ := lS T.und T2 hr hl b1 b2 w;refine ⟨_, _, q1, ?_⟩;have rows : (bif cB (cW z2) e then K (.ms (lenB hp) sz (.l 0) (.l n)) (appB hp (.rows true sz z2 l)) else False) → Res base O0 μ hp w K (.slice (some ⟨w.heap.size, 0, none⟩) n n) (cC w (.cells zs e)) := by
       intro hK;have hneed : cB (cW z2) e = true := by
        cases hq : cB (cW z2) e with
        | false => rw [hq] at hK; exact hK.elim
        | true => rfl
       rw [hneed, cond_true] at hK;refine iT H hK (kQ H b3 (fun i r hi => ⟨(q3 i r hi).1, fun j a hj => ⟨?_, (q3 i r hi).2 j a hj⟩⟩) hneed) ?_
       · have hil := (List.getElem?_eq_some_iff.1 hi).1;have hjl := (List.getElem?_eq_some_iff.1 hj).1;have := (q3 i r hi).1;rw [q2];have h3 : i * sz + sz ≤ n * sz := by
          have := Ai sz (Bu (by omega : i < n));rw [Co] at this; exact this
         omega
       · have := iB (base := base) (O0 := O0) (μ := μ) (hp := hp) (w := w) (x := .rows true sz z2 l) (sz := sz) (n := n) (len := .l n) (cap := n) (cells := zs) (e := e) (by simp [Blk.dim, b1]) (by simp [SI.val]) (by simp [SI.val]) (by simp [SI.val]) (by rw [q2]; exact Ba _)
         simpa [SI.val] using this
      cases k with
      | int kk =>
       dsimp only at h;split at h
       · rename_i ns hns;obtain ⟨m1, m2⟩ := rU hns;have hneed : cB (iS kk) e = true := by
          cases hq : cB (iS kk) e with
          | false => rw [hq] at h; exact h.elim
          | true => rfl
         rw [hneed, cond_true] at h;refine iT H h (uK H (fun i m hi => ?_) hneed) ?_
         · obtain ⟨s, e1, e2⟩ := m2 i m hi;obtain ⟨r1, r2⟩ := q3 i _ e2;have hil := (List.getElem?_eq_some_iff.1 hi).1;have hsz : sz = 1 := by simpa using r1.symm
           have := (r2 0 _ rfl).cJ;rw [hsz, By, Bn] at this;exact ⟨by rw [q2, hsz]; omega, by rw [this, e1]⟩
         · have hcap : n * 1 ≤ zs.size := by
            rw [q2, By];cases hl0 : l with
            | nil => rw [hl0] at b1; simp at b1; omega
            | cons r rest =>
             have hn0 : 0 < ns.length := by rw [m1, hl0]; simp
             obtain ⟨s, e1, e2⟩ := m2 0 ns[0] (List.getElem?_eq_getElem hn0);obtain ⟨r1, r2⟩ := q3 0 _ e2;have hsz : sz = 1 := by simpa using r1.symm
             rw [hsz, By];exact Ba _
           have := iB (base := base) (O0 := O0) (μ := μ) (hp := hp) (w := w) (x := .ints true kk ns) (sz := 1) (n := n) (len := .l n) (cap := n) (cells := zs) (e := e) (by simp [Blk.dim, b1, m1]) (by simp [SI.val]) (by simp [SI.val]) (by simp [SI.val]) hcap
           simpa [SI.val] using this
       · exact h.elim
      | oth => exact h.elim
      | _ => exact rows h
   · exact h.elim
 · exact h.elim
end
end
section
open Go Go.RowKit
section
variable {P : Program} {G : Nat → TI} {base : Nat} {O0 : Nat → Prop} {μ : Nat → Nat} {hp : List Blk} {w w' : World}
structure Turned (g : Nat) (w w' : World) (c c' : Array Value) (e : TypeId) : Prop where
 size : w'.heap.size = w.heap.size
 other : ∀ k, k ≠ g → w'.heap[k]? = w.heap[k]?
 os : w'.os = w.os
 tape : w'.tape = w.tape
 output : w'.output = w.output
 blk : w'.heap[g]? = some (.cells c' e (0, 0))
 csize : c'.size = c.size
theorem gY {g off : Nat} {e : TypeId} : ∀ (vs : List Value) (i : Nat) (w : World) (c : Array Value), w.heap[g]? = some (.cells c e (0, 0)) → (∀ v ∈ vs, v.oneCell' = true) →
 off + i + vs.length ≤ c.size → ∃ w' c', (storeCells ⟨g, off, none⟩ vs i).run P w = .ok () w' ∧ Turned g w w' c c' e ∧
  ∀ q, c'.getD q undef = if off + i ≤ q ∧ q < off + i + vs.length then (vs[q - (off + i)]?).getD undef else c.getD q undef
 | [], i, w, c, hg, _, _ => ⟨w, c, rfl, ⟨rfl, fun _ _ => rfl, rfl, rfl, rfl, hg, rfl⟩, fun q => by rw [if_neg (by simp)]⟩
 | v :: vs, i, w, c, hg, h1, h2 => by
  simp only [List.length_cons] at h2;have hcell : w.cell? ⟨g, off + i, none⟩ = some (c.getD (off + i) undef) := by
   simp only [World.cell?, hg];exact bU (by omega)
  have hfr : w.frozen? ⟨g, off + i, none⟩ = false := by
   simp [World.frozen?, hg]
  have hg' : (w.setCell ⟨g, off + i, none⟩ v).heap[g]? = some (.cells (c.setIfInBounds (off + i) v) e (0, 0)) := by
   simp only [World.setCell, Array.getElem?_modify, if_pos trivial, hg];rfl
  obtain ⟨w', c', r1, T, r2⟩ := gY (off := off) (e := e) vs (i + 1) (w.setCell ⟨g, off + i, none⟩ v) (c.setIfInBounds (off + i) v) hg' (fun v hv => h1 v (by simp [hv])) (by simp; omega);refine ⟨w', c', ?_, ⟨by rw [T.size]; simp [World.setCell], fun k hk => by rw [T.other k hk]; exact Below.heap_setCell _ _ _ _ (by exact hk), T.os, T.tape, T.output, T.blk, by rw [T.csize]; simp⟩, fun q => ?_⟩
  · simp only [storeCells, Sem.run_bind];rw [cX rfl, run_store P w _ v _ (h1 v (by simp))];simp only [hcell, hfr, Br, if_false, Result.andThen_ok];exact r1
  · rw [r2 q];by_cases hq0 : q = off + i
    · subst hq0;rw [if_neg (by omega), if_pos (by simp)];simp [Array.getD_eq_getD_getElem?, show off + i < c.size by omega]
    · by_cases hin : off + (i + 1) ≤ q ∧ q < off + (i + 1) + vs.length
      · rw [if_pos hin, if_pos (by simp; omega)];have : q - (off + i) = (q - (off + (i + 1))) + 1 := by omega
        rw [this, List.getElem?_cons_succ]
      · rw [if_neg hin, if_neg (by simp; omega)];simp [Array.getD_eq_getD_getElem?, Array.getElem?_setIfInBounds_ne (by omega : off + i ≠ q)]
theorem Turned.below {g : Nat} {c c' : Array Value} {e : TypeId} (T : Turned g w w' c c' e) (hg : base ≤ g) : Below base w w' :=
 ⟨T.os, T.tape, T.output, by rw [T.size]; exact Ba _, fun k hk => T.other k (by omega)⟩
theorem Turned.shape {g : Nat} {c c' : Array Value} {e : TypeId} {fr : Nat × Nat} (T : Turned g w w' c c' e) (h : w.heap[g]? = some (.cells c e fr)) : ∀ s, w.shape? g = some s → w'.shape? g = some s := by
 intro s hs;simp only [World.shape?, h] at hs;simp only [World.shape?, T.blk, T.csize];exact hs
theorem xK (H : HR base O0 μ hp w) {tsz : Nat} {p v : AV} {vp vv : Value} (hp' : RelV (mkX base O0 μ hp w) p vp) (hv : RelV (mkX base O0 μ hp w) v vv) {K : List Blk → Prop}
 (h : qG (aB P) hp tsz p v K) : ∃ a w' h', vp = .pointer (some a) ∧ vv.cells.size = tsz ∧ (storeCells a vv.cells.toList).run P w = .ok () w' ∧ K h' ∧ HR base O0 μ h' w' ∧
  Ext (mkX base O0 μ hp w) (mkX base O0 μ h' w') ∧ Below base w w' := by
 unfold qG at h;split at h
 · rename_i b psz row col;obtain ⟨hb, h0, rfl, hd⟩ := (show LeafR _ (.ptr b psz row col) vp from hp')
   split at h
   · rename_i k l hblk;have hb' := cD hblk (by simp);split at h
     · rename_i k' n;cases hc : Nat.beq tsz 1 && Nat.beq col 0 && ikEq k k' with
       | false => rw [hc] at h; exact h.elim
       | true =>
        rw [hc, cond_true] at h;simp only [Aj] at hc;have e1 := Ad hc.1.1;have e2 := Ad hc.1.2;have e3 := fI hc.2;subst e1 e2 e3;have hvv := hv.cJ;subst hvv;obtain ⟨c, e, hcell, hh⟩ := H.blk b _ hb';have hdim : dimB hp b = some (l.length, 1) := by simp [dimB, hb', Blk.dim]
        have hwr : wrB hp b = true := by simp [wrB, hb', Blk.wr]
        obtain ⟨hlt, hsz⟩ := hd _ _ hdim;subst hsz;have hcellw : w.heap[μ b]? = some (.cells c e (0, 0)) := hcell;have hcl : row.val.toNat < c.size := by
         have := hh row.val.toNat l[row.val.toNat] (List.getElem?_eq_getElem hlt);exact (Array.getElem?_eq_some_iff.1 this).1
        obtain ⟨w', c', r1, T, r2⟩ := gY (P := P) (off := row.val.toNat * 1 + 0) [.int k n.val] 0 w c hcellw (by simp [Value.oneCell']) (by simp; omega);rw [setBlk_eq] at h;have hx : BlkR (mkX base O0 μ (hp.set b (.ints true k (l.set row.val.toNat n.val))) w') (μ b) (.ints true k (l.set row.val.toNat n.val)) := by
         refine ⟨c', e, T.blk, fun i m hi => ?_⟩;have hil : i < l.length := by have := (List.getElem?_eq_some_iff.1 hi).1; simpa using this
         have hic : i < c'.size := by
          rw [T.csize];have := hh i l[i] (List.getElem?_eq_getElem hil);exact (Array.getElem?_eq_some_iff.1 this).1
         rw [bU hic, r2 i];rw [List.getElem?_set] at hi;by_cases hri : row.val.toNat = i
         · subst hri;rw [if_pos rfl, if_pos hil] at hi;injection hi with hi
           subst hi;rw [if_pos (by simp only [List.length_singleton]; omega)];simp
         · rw [if_neg hri] at hi;rw [if_neg (by simp only [List.length_singleton]; omega)];rw [← bU (by rw [← T.csize]; exact hic)];exact hh i m hi
        exact ⟨_, w', _, rfl, rfl, r1, h, HR.turn H hb (.inl hwr) (fun _ => hwr) (.inr (by rw [hdim]; simp [Blk.dim, aB])) T.size T.other (T.shape hcellw) hx (.inr ⟨_, hb', rfl⟩),
          Ext.turn H (.inl hwr) (fun _ => hwr) (.inr (by rw [hdim]; simp [Blk.dim, aB])) T.size T.other (T.shape hcellw), T.below (H.low b (by rw [hdim]; simp))⟩
     · exact h.elim
   · rename_i rsz d' l hblk;have hb' := cD hblk (by simp);obtain ⟨hdl, c, e, hcell, hh⟩ := H.blk b _ hb';have hdim : dimB hp b = some (l.length, rsz) := by simp [dimB, hb', Blk.dim]
     have hwr : wrB hp b = true := by simp [wrB, hb', Blk.wr]
     obtain ⟨hlt, hsz⟩ := hd _ _ hdim;subst hsz;have hcellw : w.heap[μ b]? = some (.cells c e (0, 0)) := hcell;have hrow : rowAt (aB P) l d' row = l[row.val.toNat] := by
      cases row with
      | l i => simp only [rowAt, nJ l i h0]; simp only [SI.val] at hlt; simp [List.getD, List.getElem?_eq_getElem hlt, SI.val]
      | s i => simp only [rowAt, aB]; simp only [SI.val] at hlt; simp [List.getD, List.getElem?_eq_getElem hlt, SI.val]
     have hput : ∀ r, aEW (aB P) l r row = l.set row.val.toNat r := by
      intro r;cases row with
      | l i => simp only [aEW, yG l i r h0]; rfl
      | s i => rfl
     obtain ⟨hrl, hrc⟩ := hh _ _ (List.getElem?_eq_getElem hlt);rw [hrow] at h;cases hc : Nat.beq (lenC v.cells) tsz && Nat.ble (col + lenC v.cells) (lenC l[row.val.toNat]) && Nat.beq (lenC l[row.val.toNat]) rsz && allB AV.leaf v.cells with
     | false => rw [hc] at h; exact h.elim
     | true =>
      rw [hc, cond_true] at h;simp only [Aj, gA] at hc;have e1 := Ad hc.1.1.1;have e2 := An hc.1.1.2;obtain ⟨k1, k2⟩ := nG hv hc.2;rw [hput, setBlk_eq] at h;have hrowle : row.val.toNat * rsz + rsz ≤ c.size := by
       cases hz : rsz with
       | zero => rw [Cp]; omega
       | succ m =>
        have hlast : m < (l[row.val.toNat]).length := by omega
        obtain ⟨y, q1, q2⟩ := hrc m _ (List.getElem?_eq_getElem hlast);have := (Array.getElem?_eq_some_iff.1 q1).1;rw [hz] at this;omega
      obtain ⟨w', c', r1, T, r2⟩ := gY (P := P) (off := row.val.toNat * rsz + col) vv.cells.toList 0 w c hcellw (fun u hu => by
        obtain ⟨j, hj, rfl⟩ := List.getElem_of_mem hu;have hj' : j < v.cells.length := by rw [← k1]; simpa using hj
        have := k2 j _ (List.getElem?_eq_getElem hj');have hone := rD this.1 this.2;have : vv.cells.getD j undef = vv.cells.toList[j] := by
          rw [Array.getD_eq_getD_getElem?, Array.getElem?_eq_getElem (by simpa using hj)];simp
        rwa [this] at hone) (by simp; omega)
      simp only [Bn, Array.length_toList] at r2;have hx : BlkR (mkX base O0 μ (hp.set b (.rows true rsz d' (l.set row.val.toNat (splice l[row.val.toNat] col v.cells)))) w') (μ b) (.rows true rsz d' (l.set row.val.toNat (splice l[row.val.toNat] col v.cells))) := by
       have ex := Ext.turn H (x := .rows true rsz d' (l.set row.val.toNat (splice l[row.val.toNat] col v.cells))) (.inl hwr) (fun _ => hwr) (.inr (by rw [hdim]; simp [Blk.dim])) T.size T.other (T.shape hcellw);refine ⟨hdl, c', e, T.blk, fun i r hi => ?_⟩;rw [List.getElem?_set] at hi;by_cases hri : row.val.toNat = i
       · subst hri;rw [if_pos rfl, if_pos hlt] at hi;injection hi with hi
         subst hi;refine ⟨by rw [splice_length]; exact hrl, fun j a hj => ?_⟩;rw [iY _ _ _ _ (by omega)] at hj;have hjl : j < rsz := by
          split at hj
          · omega
          · have := (List.getElem?_eq_some_iff.1 hj).1; omega
         have hic : row.val.toNat * rsz + j < c'.size := by rw [T.csize]; omega
         refine ⟨_, bU hic, ?_⟩;rw [r2];split at hj
         · rename_i hin;rw [if_pos (by omega)];have := (k2 _ a hj).1;have he : (vv.cells.toList[row.val.toNat * rsz + j - (row.val.toNat * rsz + col)]?).getD undef = vv.cells.getD (j - col) undef := by
            rw [show row.val.toNat * rsz + j - (row.val.toNat * rsz + col) = j - col by omega];simp [Array.getD_eq_getD_getElem?]
           rw [he];exact this.mono ex
         · rename_i hin;rw [if_neg (by omega)];obtain ⟨y, q1, q2⟩ := hrc j a hj;have : c.getD (row.val.toNat * rsz + j) undef = y := by rw [Array.getD_eq_getD_getElem?, q1]; rfl
           rw [this];exact q2.mono ex
       · rw [if_neg hri] at hi;obtain ⟨g1, g2⟩ := hh i r hi;refine ⟨g1, fun j a hj => ?_⟩;obtain ⟨y, q1, q2⟩ := g2 j a hj;have hjl := (List.getElem?_eq_some_iff.1 hj).1;have hic : i * rsz + j < c'.size := by rw [T.csize]; exact (Array.getElem?_eq_some_iff.1 q1).1
         refine ⟨_, bU hic, ?_⟩;rw [r2];have hne : ¬ (row.val.toNat * rsz + col ≤ i * rsz + j ∧ i * rsz + j < row.val.toNat * rsz + col + vv.cells.size) := by
          rintro ⟨u1, u2⟩;rcases Nat.lt_or_gt_of_ne hri with hlt2 | hlt2
          · have := Ai rsz (Bu hlt2);rw [Co] at this;omega
          · have := Ai rsz (Bu hlt2);rw [Co] at this;omega
         rw [if_neg hne];have : c.getD (i * rsz + j) undef = y := by rw [Array.getD_eq_getD_getElem?, q1]; rfl
         rw [this];exact q2.mono ex
      exact ⟨_, w', _, rfl, by omega, r1, h, HR.turn H hb (.inl hwr) (fun _ => hwr) (.inr (by rw [hdim]; simp [Blk.dim])) T.size T.other (T.shape hcellw) hx (.inr ⟨_, hb', rfl⟩),
        Ext.turn H (.inl hwr) (fun _ => hwr) (.inr (by rw [hdim]; simp [Blk.dim])) T.size T.other (T.shape hcellw), T.below (H.low b (by rw [hdim]; simp))⟩
   · exact h.elim
 · exact h.elim
theorem tD (hG : GOK P G) (H : HR base O0 μ hp w) {t : Nat} {p v : AV} {vp vv : Value} (hp' : RelV (mkX base O0 μ hp w) p vp) (hv : RelV (mkX base O0 μ hp w) v vv) {K : List Blk → Prop}
 (h : store (aB P) G hp t p v K) : ∃ w' h', (Instr.storeAt t vp vv).run P w = .ok () w' ∧ K h' ∧ HR base O0 μ h' w' ∧
  Ext (mkX base O0 μ hp w) (mkX base O0 μ h' w') ∧ Below base w w' := by
 unfold store at h;split at h
 · exact h.elim
 · rename_i k sz by_ z fl hne hk;obtain ⟨i, d, z', T⟩ := hG.tok hk hne;obtain ⟨a, w', h', rfl, e1, e2, e3, e4, e5, e6⟩ := xK H hp' hv h;refine ⟨w', h', ?_, e3, e4, e5, e6⟩;simp only [Instr.storeAt, Instr.sureAddr, storeVar, Sem.run_bind, Sem.run_pure, Result.andThen_ok, cO T.info, T.size, e1, ne_eq, not_true_eq_false, if_false, e2]
theorem zL {n : Int} (h0 : 0 ≤ n) (h1 : n ≤ most) : IntKind.i64.wrap n = n := by
 unfold most at h1;have hm : n % (2 ^ 64 : Int) = n := by omega
 simp only [IntKind.wrap, IntKind.bits, IntKind.signed, hm];rw [if_neg (by simp; omega)]
theorem tN (hG : GOK P G) (H : HR base O0 μ hp w) {t : Nat} {x y : Operand} {tt : List (Nat × AV)} {vx vy : Value} {K : AV → List Blk → Prop}
 (hx : RelV (mkX base O0 μ hp w) (opd tt x) vx) (hy : RelV (mkX base O0 μ hp w) (opd tt y) vy) (h : evOp (aB P) G ⟨tt, hp⟩ (.makeSlice t x y) K) :
 ∃ val w', (Instr.makeSlice t vx vy).run P w = .ok val w' ∧ Res base O0 μ hp w K val w' := by
 dsimp only [evOp] at h;split at h
 · rename_i e sz1 by1 z1 fl1 kn n kc c hk hxe hye;rw [hxe] at hx;rw [hye] at hy;have e1 := hx.cJ;have e2 := hy.cJ;subst e1 e2;obtain ⟨i, d, z', T⟩ := hG.tok hk (by simp);have hd := eQ T.kind;subst hd;split at h
   · rename_i k sz bytes z fl hk2;obtain ⟨i2, d2, v2, T2⟩ := hG.tok hk2 (by simp);cases hb : ikEq kn .i64 && ikEq kc .i64 && Nat.ble bytes 16 && Nat.beq sz 1 && zInt k z && cB (iS k) e with
     | false => rw [hb] at h; exact h.elim
     | true =>
      rw [hb, cond_true] at h;simp only [Aj] at hb;obtain ⟨hb, hneed⟩ := hb;have b1 := An hb.1.1.2;have b2 := Ad hb.1.2;have hz : z = [.int k (.l 0)] := by
       have := hb.2;unfold zInt at this;split at this
       · rw [fI this]
       · cases this
      subst hz b2;have hvc : v2.cells = #[.int k 0] := by
       obtain ⟨y, h1, h2⟩ := aBZ T2.zc;have h1' := ofList_eq h1;rw [h1'];unfold oR at h2;split at h2 <;> simp_all
      have q := cT h;clear h;obtain ⟨h0, h⟩ := q;have q := cT h;clear h;obtain ⟨h1, h⟩ := q;have q := cT h;clear h;obtain ⟨h2, h⟩ := q;have h0' : 0 ≤ n.val := h0;have h2' : c.val ≤ most := h2;have wn := zL h0' (by omega);have wc := zL (by omega : 0 ≤ c.val) h2';have hbytes : i2.bytes = bytes := T2.byt;have hm : most = 17179869184 := rfl;have hmul : (bytes : Int) * c.val ≤ 2 ^ 48 := by
       have : (bytes : Int) * c.val ≤ 16 * 17179869184 := Dj (by omega) (by omega) (by omega) (by omega);omega
      refine ⟨.slice (some ⟨w.heap.size, 0, none⟩) n.val.toNat c.val.toNat, cC w (.cells ((Array.range c.val.toNat).map fun _ => Value.int k 0) e), ?_, ?_⟩
      · have hzr : (zeroValue e).run P w = .ok v2 w := by simp [zeroValue, cF T2.info, T2.zer]
        have hsz : (sizeOf e).run P w = .ok 1 w := by rw [cO T2.info, T2.size]
        have hnt : (c.val < 0 || (bytes : Int) * c.val > 2 ^ 48) = false := by
         simp only [Bool.or_eq_false_iff, Aa];exact ⟨by omega, by omega⟩
        simp only [Instr.makeSlice, Sem.run_bind, aU T.und, Result.andThen_ok, asInt, asIntOf, Sem.run_pure, cF T2.info, wn, wc, Sem.run_ite, hbytes];rw [if_neg (by simp only [hnt]; simp; omega)];simp only [run_askRoom, Result.andThen_ok, hsz, By];split
        · rename_i hc0;simp only [Result.andThen_ok, newRow, Sem.run_bind, run_newObj, Sem.run_pure, hc0];simp [cC, show Array.range 0 = #[] from rfl]
        · simp only [hzr, Result.andThen_ok, hvc, newRow, Sem.run_bind, run_newObj, Sem.run_pure];simp [cC, Nat.mod_one]
      · refine iT H h (uK H (fun i m hi => ?_) hneed) ?_
        · have hi' : (List.replicate n.val.toNat (0 : Int))[i]? = some m := hi;rw [List.getElem?_replicate] at hi';split at hi'
          · rename_i hil;injection hi' with hi'
            subst hi';have : i < c.val.toNat := by omega
            simp [Array.getD_eq_getD_getElem?, this]
          · cases hi'
        · exact iB (n := n.val.toNat) (by simp [Blk.dim, aB]) (Ba _) h0' (by omega) (by simp)
   · exact h.elim
 · exact h.elim
end
end
section
open Go Go.RowKit
section
variable {P : Program} {G : Nat → TI} {base : Nat} {O0 : Nat → Prop} {μ : Nat → Nat} {hp : List Blk} {w w' : World}
theorem zP (need : Nat) : ∀ (r c : Nat), c ≤ need → Builtin.growBy need r c ≤ 2 * need + 200
 | 0, c, h => by simp only [Builtin.growBy]; omega
 | r + 1, c, h => by
  simp only [Builtin.growBy];split
  · omega
  · rename_i hlt;by_cases h2 : c + (c + 768) / 4 ≤ need
    · exact zP need r _ h2
    · cases r with
      | zero => simp only [Builtin.growBy]; omega
      | succ r =>
       simp only [Builtin.growBy];rw [if_pos (by omega)];omega
theorem aFN {need cap : Nat} (h : cap < need) : Builtin.nextslicecap need cap ≤ 2 * need + 512 := by
 unfold Builtin.nextslicecap;split
 · omega
 · split
   · omega
   · have := zP need 4 cap (by omega);omega
def Lies (w : World) (A : Option Addr) (cs : Array Value) : Prop := ∀ q, q < cs.size → ∃ a, A = some a ∧ w.cell? (a.add q) = some (cs.getD q undef)
theorem iZ {A : Option Addr} {n cap sz : Nat} {cs : Array Value} (hl : Lies w A cs) (hs : cs.size = n * sz) : (Builtin.firstCells sz n (.slice A n cap)).run P w = .ok cs w := by
 cases A with
 | none =>
  have h0 : cs.size = 0 := by
   rcases Ao cs.size with h | h
   · exact h
   · obtain ⟨a, h1, _⟩ := hl 0 h; cases h1
  have : cs = #[] := by simpa using h0
  subst this;rfl
 | some a =>
  simp only [Builtin.firstCells];rw [← hs, run_loadCells w a cs.size (fun q => cs.getD q undef) (fun q hq => by obtain ⟨a', h1, h2⟩ := hl q hq; injection h1 with h1; subst h1; exact h2)];congr 1;apply Array.ext
  · simp
  · intro i h1 h2;simp [Array.getD_eq_getD_getElem?, h2]
def gS (w : World) : World := { w with drawn := w.drawn + 1 }
theorem jA (B : Nat) (w : World) : Below B w (gS w) := ⟨rfl, rfl, rfl, Ba _, fun _ _ => rfl⟩
def stA (A : Option Addr) (off : Nat) (vs : List Value) : Sem Unit := match A with
 | some a => storeCells (a.add off) vs
 | none => pure ()
theorem run_append {t t2 e e2 sz by_ : Nat} {k : TK} {z : List AV} {fl : Option (List (Option IntKind))} {i : TypeInfo} {d : TypeDesc} {v : Value} (hu : P.underlying t = some (.slice e)) (hu2 : P.underlying t2 = some (.slice e2))
 (T : TOK P e k sz by_ z fl i d v) (hby : by_ ≤ 128) (hz : z.length = sz) {ts : Array TypeId} {rest : List TypeId} (hts : ts.toList = t :: t2 :: rest) {ty : TypeId} {A B : Option Addr} {sLen sCap n xc : Nat} {old new : Array Value}
 (ho : Lies w A old) (hos : old.size = sLen * sz) (hn : Lies w B new) (hns : new.size = n * sz) (hneed : ((sLen + n : Nat) : Int) ≤ most) :
 (sLen + n ≤ sCap ∧ (Builtin.append_ ts ty #[.slice A sLen sCap, .slice B n xc]).run P w =
   ((stA A (sLen * sz) new.toList).run P w).andThen fun _ w' => .ok (.slice A (sLen + n) sCap) w') ∨
 (sCap < sLen + n ∧ ∃ cap rest', sLen + n ≤ cap ∧ rest'.size = (cap - (sLen + n)) * sz ∧
   (Builtin.append_ ts ty #[.slice A sLen sCap, .slice B n xc]).run P w = .ok (.slice (some ⟨w.heap.size, 0, none⟩) (sLen + n) cap) (cC (gS w) (.cells (old ++ new ++ rest') e))) := by
 have hts' := ofList_eq hts;subst hts';have hzs : v.cells.size = sz := by rw [← hz, ← T.zc]; simp
 have hsz : ∀ w, (sizeOf e).run P w = .ok sz w := fun w => by rw [cO T.info, T.size]
 have hti : ∀ w, (typeInfo e).run P w = .ok i w := fun w => cF T.info w
 have hzr : ∀ w, (zeroValue e).run P w = .ok v w := fun w => by simp [zeroValue, cF T.info, T.zer]
 have hmost : most = 17179869184 := rfl;by_cases hc : sLen + n ≤ sCap
 · refine .inl ⟨hc, ?_⟩;simp only [Builtin.append_, Sem.run_bind, List.getElem?_toArray, List.getElem?_cons_zero, List.getElem?_cons_succ, Result.andThen_ok, aU hu, aU hu2, hsz, Sem.run_pure, Builtin.lenOf, Br, if_false];rw [if_pos hc];simp only [Bool.not_false, if_true, Sem.run_bind, iZ hn hns, Result.andThen_ok];cases A with
   | none => rfl
   | some a => simp [stA]
 · refine .inr ⟨by omega, ?_⟩;have hib : i.bytes = by_ := T.byt;have hnc := aFN (need := sLen + n) (cap := sCap) (by omega);have hcapb : ¬ Builtin.nextslicecap (sLen + n) sCap * by_ > 2 ^ 48 := by
    have : Builtin.nextslicecap (sLen + n) sCap * by_ ≤ (2 * (sLen + n) + 512) * 128 := Di hnc hby;omega
   have hmax : ¬ (((sLen + n : Nat) : Int) > IntKind.i64.max ∧ (False ∨ by_ = 0)) := by
    rintro ⟨h, _⟩;have : IntKind.i64.max = 9223372036854775807 := by decide
    omega
   refine ⟨(Question.appendCap (sLen + n) sCap e).cut (w.tape w.drawn (.appendCap (sLen + n) sCap e)), Builtin.zeroCells v.cells ((Question.appendCap (sLen + n) sCap e).cut (w.tape w.drawn (.appendCap (sLen + n) sCap e)) - (sLen + n)), ?_, ?_, ?_⟩
   · simp only [Question.cut]; omega
   · simp [Builtin.zeroCells, hzs]
   · simp only [Builtin.append_, Sem.run_bind, List.getElem?_toArray, List.getElem?_cons_zero, List.getElem?_cons_succ, Result.andThen_ok, aU hu, aU hu2, hsz, Sem.run_pure, Builtin.lenOf, Br, if_false];rw [if_neg hc];simp only [Sem.run_bind, hti, Result.andThen_ok, hib];rw [if_neg hmax];simp only [Sem.run_bind, hti, Result.andThen_ok, hib];rw [if_neg hcapb];have hoD : Lies (gS w) A old := ho;have hnD : Lies (gS w) B new := hn;simp only [Sem.run_bind, run_choose, Question.forced, Br, if_false, Result.andThen_ok, hti, run_askRoom];rw [show ({ w with drawn := w.drawn + 1 } : World) = gS w from rfl, iZ hoD hos];simp only [Bool.not_false, if_true, Result.andThen_ok, iZ hnD hns, hzr, newRow, Sem.run_bind, run_newObj, Sem.run_pure];rfl
theorem qR {b b' : Nat} {y : Blk} (h : (hp.set b .dead)[b']? = some y) (hd : y.dim ≠ none) : b' ≠ b ∧ hp[b']? = some y := by
 rw [List.getElem?_set] at h;split at h
 · split at h
   · injection h with h; subst h; exact absurd rfl hd
   · cases h
 · rename_i hne; exact ⟨fun e => hne e.symm, h⟩
theorem set_dead_wr {b b' : Nat} (h : wrB (hp.set b .dead) b' = true) : b' ≠ b ∧ wrB hp b' = true := by
 unfold wrB at h ⊢;by_cases he : b = b'
 · subst he;rw [List.getElem?_set, if_pos rfl] at h;by_cases hl : b < hp.length
   · rw [if_pos hl] at h; simp [Blk.wr] at h
   · rw [if_neg hl] at h; simp [Blk.wr] at h
 · rw [List.getElem?_set, if_neg he] at h;exact ⟨fun e => he e.symm, h⟩
theorem pB {b b' : Nat} {n : Nat × Nat} (h : dimB (hp.set b .dead) b' = some n) : b' ≠ b ∧ dimB hp b' = some n := by
 unfold dimB at h ⊢;by_cases he : b = b'
 · subst he;rw [List.getElem?_set, if_pos rfl] at h;by_cases hl : b < hp.length
   · rw [if_pos hl] at h; simp [Blk.dim] at h
   · rw [if_neg hl] at h; simp [Blk.dim] at h
 · rw [List.getElem?_set, if_neg he] at h;exact ⟨fun e => he e.symm, h⟩
theorem Ext.reuse (H : HR base O0 μ hp w) {b : Nat} {x : Blk} {c c' : Array Value} {e : TypeId} {fr : Nat × Nat} (hb : b < hp.length) (hw : wrB hp b = true) (T : Turned (μ b) w w' c c' e) (hc : w.heap[μ b]? = some (.cells c e fr)) :
 Ext (mkX base O0 μ hp w) (mkX base O0 (μnew μ hp.length (μ b)) (hp.set b .dead ++ [x]) w') := by
 have hlen : (hp.set b .dead).length = hp.length := by simp
 refine ⟨fun n hn => ?_, fun b' hb' => ?_, by simp [mkX], fun b' hb' n h => ?_, fun a v ho hcell => ?_, fun r s hs => ?_⟩
 · rcases hn with h | ⟨h1, h2, h3⟩
   · exact .inl h
   · refine .inr ⟨h1, by have := T.size; omega, fun b' hb' => ?_⟩;have h4 : wrB (hp.set b .dead ++ [x]) b' = true := hb';rw [wrB_app, hlen] at h4;show μnew μ hp.length (μ b) b' ≠ n;unfold μnew;split
     · exact h3 b hw
     · rename_i hne;split at h4
       · exact h3 b' (set_dead_wr h4).2
       · cases h4
 · have hb'' : b' < hp.length := hb';show μnew μ hp.length (μ b) b' = μ b';unfold μnew;rw [if_neg (by omega)]
 · have hb'' : b' < hp.length := hb';have h' : dimB (hp.set b .dead ++ [x]) b' = some n := h;rw [dimB_app, hlen, if_pos hb''] at h';exact (pB h').2
 · have hne : a.block ≠ μ b := by
    rcases ho with ⟨h1, _⟩ | ⟨_, _, h3⟩
    · have := H.low b (fP hw); omega
    · exact fun e => h3 b hw e.symm
   have hcell' : w.cell? a = some v := hcell;show w'.cell? a = some v;unfold World.cell? at hcell' ⊢;rw [T.other _ hne]; exact hcell'
 · by_cases he : r = μ b
   · subst he; exact T.shape hc s hs
   · exact (shape_of_block (T.other r he)).trans hs
theorem HR.reuse (H : HR base O0 μ hp w) {b : Nat} {x : Blk} {c c' : Array Value} {e : TypeId} {fr : Nat × Nat} (hb : b < hp.length) (hw : wrB hp b = true) (T : Turned (μ b) w w' c c' e) (hc : w.heap[μ b]? = some (.cells c e fr))
 (hx : BlkR (mkX base O0 (μnew μ hp.length (μ b)) (hp.set b .dead ++ [x]) w') (μ b) x) (hy : x.need = none ∨ ∃ y, hp[b]? = some y ∧ x.need = y.need) : HR base O0 (μnew μ hp.length (μ b)) (hp.set b .dead ++ [x]) w' := by
 have ex := Ext.reuse H (x := x) hb hw T hc;have hlen : (hp.set b .dead).length = hp.length := by simp
 have key : ∀ b', dimB (hp.set b .dead ++ [x]) b' ≠ none → b' = hp.length ∨ (b' ≠ hp.length ∧ b' ≠ b ∧ dimB hp b' ≠ none) := by
  intro b' h;rw [dimB_app, hlen] at h;split at h
  · rename_i hl;cases hd : dimB (hp.set b .dead) b' with
    | none => exact absurd hd h
    | some n => obtain ⟨q1, q2⟩ := pB hd; exact .inr ⟨by omega, q1, by rw [q2]; simp⟩
  · split at h
    · exact .inl ‹_›
    · exact absurd rfl h
 have keyw : ∀ b', wrB (hp.set b .dead ++ [x]) b' = true → b' = hp.length ∨ (b' ≠ hp.length ∧ b' ≠ b ∧ wrB hp b' = true) := by
  intro b' h;rw [wrB_app, hlen] at h;split at h
  · rename_i hl;obtain ⟨q1, q2⟩ := set_dead_wr h;exact .inr ⟨by omega, q1, q2⟩
  · split at h
    · exact .inl ‹_›
    · cases h
 refine ⟨by rw [T.size]; exact H.all, fun b' y hb' => ?_, fun b' h => ?_, fun b1 b2 h1 h2 h3 => ?_, fun b' y hb' => ?_, H.gl.mono (fun _ h => h) (fun a v ho hc => ex.cell a v (.inl ho) hc)⟩
 · rw [List.getElem?_append, hlen] at hb';split at hb'
   · rename_i hl;cases hy : y.dim with
     | none => cases y <;> first | trivial | simp [Blk.dim] at hy
     | some n =>
      obtain ⟨hne, hg⟩ := qR hb' (by rw [hy]; simp);have hdy : dimB hp b' ≠ none := by simp [dimB, hg, hy]
      show BlkR _ (μnew μ hp.length (μ b) b') y;unfold μnew;rw [if_neg (by omega)];exact (H.blk b' _ hg).mono ex (T.other _ (fun e1 => hne (H.inj b b' hw hdy e1.symm).symm))
   · have : b' = hp.length := by
      rcases Ar (b' - hp.length) 1 with h1 | h1
      · omega
      · rw [List.getElem?_eq_none (by simpa using h1)] at hb'; cases hb'
     subst this;simp at hb';subst hb';show BlkR _ (μnew μ hp.length (μ b) hp.length) x;unfold μnew;rw [if_pos rfl];exact hx
 · unfold μnew;rcases key b' h with h | ⟨h1, h2, h3⟩
   · rw [if_pos h]; exact H.low b (fP hw)
   · rw [if_neg h1]; exact H.low b' h3
 · unfold μnew at h3;rcases keyw b1 h1 with q1 | ⟨q1, q2, q3⟩ <;> rcases key b2 h2 with r1 | ⟨r1, r2, r3⟩
   · omega
   · rw [if_pos q1, if_neg r1] at h3;exact absurd (H.inj b b2 hw r3 h3).symm r2
   · rw [if_neg q1, if_pos r1] at h3;exact absurd (H.inj b1 b q3 (fP hw) h3) q2
   · rw [if_neg q1, if_neg r1] at h3;exact H.inj b1 b2 q3 r3 h3
 · rw [List.getElem?_append, hlen] at hb';split at hb'
   · rename_i hl;show TyR w' (μnew μ hp.length (μ b) b') y;unfold μnew;rw [if_neg (by omega)];cases hy : y.dim with
     | none => exact TyR.less (y := .dead) (.inl (by cases y <;> first | rfl | simp [Blk.dim] at hy)) (fun ts ht => by cases ht)
     | some n =>
      obtain ⟨hne, hg⟩ := qR hb' (by rw [hy]; simp);exact (H.ty b' y hg).mono (fun s hs => ex.shape _ s hs)
   · have : b' = hp.length := by
      rcases Ar (b' - hp.length) 1 with h1 | h1
      · omega
      · rw [List.getElem?_eq_none (by simpa using h1)] at hb'; cases hb'
     subst this;simp at hb';subst hb';show TyR w' (μnew μ hp.length (μ b) hp.length) x;unfold μnew;rw [if_pos rfl];rcases hy with hy | ⟨z, hz, hy⟩
     · exact TyR.less (y := .dead) (.inl hy) (fun ts ht => by cases ht)
     · exact TyR.less (.inr hy) ((H.ty b z hz).mono (fun s hs => ex.shape _ s hs))
theorem HR.drew (H : HR base O0 μ hp w) : HR base O0 μ hp (gS w) := H.grow (jA _ w)
theorem Ext.drew (H : HR base O0 μ hp w) : Ext (mkX base O0 μ hp w) (mkX base O0 μ hp (gS w)) := Ext.grow H.all (jA _ w)
theorem HR.kill (H : HR base O0 μ hp w) {b : Nat} (hb : b < hp.length) : HR base O0 μ (hp.set b .dead) w ∧ Ext (mkX base O0 μ hp w) (mkX base O0 μ (hp.set b .dead) w) :=
 ⟨
   HR.turn H hb (.inr rfl) (fun h => by simp [Blk.wr] at h) (.inl rfl) rfl (fun _ _ => rfl) (fun _ h => h) trivial (.inl rfl),
   Ext.turn H (.inr rfl) (fun h => by simp [Blk.wr] at h) (.inl rfl) rfl (fun _ _ => rfl) (fun _ h => h)⟩
theorem mV {A : Option Addr} {g off m : Nat} {c : Array Value} {e : TypeId} {fr : Nat × Nat} (hA : 0 < m → A = some ⟨g, off, none⟩) (hc : w.heap[g]? = some (.cells c e fr)) (hle : off + m ≤ c.size) : Lies w A (c.extract off (off + m)) := by
 intro q hq;simp at hq;refine ⟨⟨g, off, none⟩, hA (by omega), ?_⟩;rw [cX rfl, dO _ _ _ _ (by omega)];simp only [World.cell?, hc];exact bU (by omega)
structure Src (w : World) (vy : Value) (m : SI) (sz : Nat) (new : Array Value) : Prop where
 form : ∃ B xc, vy = .slice B m.val.toNat xc ∧ Lies w B new
 pos : 0 ≤ m.val
 size : new.size = m.val.toNat * sz
theorem sP (l : List Int) (k : IntKind) (i : Nat) (n : Int) (h : l[i]? = some n) : (l.map (fun n => Value.int k n)).toArray.getD i undef = .int k n := by
 simp [Array.getD_eq_getD_getElem?, h]
theorem pT (H : HR base O0 μ hp w) {b : Option Nat} {k : IntKind} {y : AV} {vy : Value} {m : SI} {ys : List Int} (hy : RelV (mkX base O0 μ hp w) y vy) (h : tW (aB P) hp b k y = some (m, ys)) :
 ∃ new, Src w vy m 1 new ∧ ys.length = m.val.toNat ∧ ∀ (i : Nat) (n : Int), ys[i]? = some n → new.getD i undef = .int k n := by
 unfold tW at h;split at h
 · rename_i c sz row len;obtain ⟨hc, h0, h1, A, cap, rfl, hle, hA, hd⟩ := (show LeafR _ (.ms c sz row len) vy from hy)
   cases hg : aHQ b c with
   | true => rw [hg] at h; cases h
   | false =>
    rw [hg, cond_false] at h;split at h
    · rename_i wr k' l hblk;cases hk : ikEq k k' with
      | false => rw [hk] at h; cases h
      | true =>
       rw [hk, cond_true] at h;have := fI hk;subst this;injection h with h
       injection h with e1 e2
       subst e1 e2;have hb' := cD hblk (by simp);obtain ⟨ca, e, hcell, hh⟩ := H.blk c _ hb';have hdim : dimB hp c = some (l.length, 1) := by simp [dimB, hb', Blk.dim]
       obtain ⟨q1, q2, e', mm, q3, q4⟩ := hd _ _ hdim;subst q2;have hcellw : w.heap[μ c]? = some (.cells ca e (0, 0)) := hcell;have hmm : mm = ca.size := by
        have q3' : w.shape? (μ c) = some (e', mm) := q3;simp only [World.shape?, hcellw] at q3';injection q3' with q3'
        injection q3' with _ q3'
        exact q3'.symm
       refine ⟨ca.extract row.val.toNat (row.val.toNat + len.val.toNat), ⟨⟨A, cap, rfl, mV (g := μ c) (off := row.val.toNat) (m := len.val.toNat) (fun hp => by rw [hA (by omega), By]; rfl) hcellw (by omega)⟩, h1, by simp; omega⟩, ?_, fun i n hi => ?_⟩
       · show ((l.drop row.val.toNat).take len.val.toNat).length = _;simp; omega
       · have hi' : ((l.drop row.val.toNat).take len.val.toNat)[i]? = some n := hi;rw [List.getElem?_take] at hi';split at hi'
         · rw [List.getElem?_drop] at hi';rw [dO _ _ _ _ (by omega)];have := hh _ n hi';rw [Array.getD_eq_getD_getElem?, this];rfl
         · cases hi'
    · cases h
 · rename_i k' l;cases hk : ikEq k k' with
   | false => rw [hk] at h; cases h
   | true =>
    rw [hk, cond_true] at h;have := fI hk;subst this;injection h with h
    injection h with e1 e2
    subst e1 e2;have hv : (SI.s ((aB P).len l)).val = (l.length : Int) := rfl;refine ⟨(l.map (fun n => Value.int k n)).toArray, ⟨?_, by rw [hv]; omega, by rw [hv]; simp⟩, by rw [hv]; simp, fun i n hi => sP l k i n hi⟩;rw [hv];cases (show RoV _ _ (.sli k l) vy from hy) with
    | sli _ _ a cap hs ho hp h =>
     refine ⟨some a, cap, rfl, fun q hq => ⟨a, rfl, ?_⟩⟩;rw [cX hs];have hql : q < l.length := by simpa using hq
     have := h q l[q] (List.getElem?_eq_getElem hql);rw [sP l k q l[q] (List.getElem?_eq_getElem hql)];exact this
    | sliN _ A cap => exact ⟨A, cap, rfl, fun q hq => by simp at hq⟩
 · cases h
theorem aHP (f : Nat → List AV) : ∀ (n i : Nat), rofN n f i = (List.range n).map (fun j => f (i + j))
 | 0, i => rfl
 | n + 1, i => by
  rw [List.range_succ_eq_map];simp only [rofN, List.map_cons, List.map_map, aHP f n (i + 1), Bn];congr 1;refine List.map_congr_left (fun j _ => ?_);simp only [Function.comp];congr 1;omega
theorem aBI {m : SI} {ys : List (List AV)} {K : Unit → Prop} (h : aFD m ys K) : allB (allB AV.leaf) ys = true ∧ K () := by
 unfold aFD at h;split at h
 · cases hc : allB (allB AV.leaf) ys with
   | true => rw [hc] at h; exact ⟨rfl, h⟩
   | false => rw [hc] at h; exact h.elim
 · exact h
theorem lJ (H : HR base O0 μ hp w) {b : Option Nat} {sz : Nat} {y : AV} {vy : Value} {m : SI} {ys : List (List AV)} (hy : RelV (mkX base O0 μ hp w) y vy) (h : pG (aB P) hp b sz y = some (m, ys)) :
 ∃ new, Src w vy m sz new ∧ ys.length = m.val.toNat ∧ ∀ (i : Nat) (r : List AV), ys[i]? = some r → r.length = sz ∧ ∀ (j : Nat) (a : AV), r[j]? = some a → LeafR (mkX base O0 μ hp w) a (new.getD (i * sz + j) undef) := by
 unfold pG at h;split at h
 · rename_i c sz' row len;obtain ⟨hc, h0, h1, A, cap, rfl, hle, hA, hd⟩ := (show LeafR _ (.ms c sz' row len) vy from hy)
   cases hg : aHQ b c with
   | true => rw [hg] at h; cases h
   | false =>
    rw [hg, cond_false] at h;split at h
    · rename_i wr sz'' d l hblk;cases hk : Nat.beq sz sz' && Nat.beq sz sz'' with
      | false => rw [hk] at h; cases h
      | true =>
       rw [hk, cond_true] at h;simp only [Aj] at hk;have e1 := Ad hk.1;have e2 := Ad hk.2;subst e1 e2;have hb' := cD hblk (by simp);obtain ⟨hdl, ca, e, hcell, hh⟩ := H.blk c _ hb';have hdim : dimB hp c = some (l.length, sz) := by simp [dimB, hb', Blk.dim]
       obtain ⟨q1, q2, e', mm, q3, q4⟩ := hd _ _ hdim;have hys : ys = (l.drop row.val.toNat).take len.val.toNat ∧ m = len := by
        injection h with h
        injection h with e1 e2
        refine ⟨?_, e1.symm⟩;rw [← e2];split
        · rename_i n;cases hdec : decide (Int.ofNat (lenR l) = n) with
          | true =>
           rw [cond_true];have := Bt hdec;rw [lH] at this;simp only [SI.val];rw [← this];simp
          | false => rfl
        · rfl
       obtain ⟨rfl, rfl⟩ := hys;have hcellw : w.heap[μ c]? = some (.cells ca e (0, 0)) := hcell;have hmm : mm = ca.size := by
        have q3' : w.shape? (μ c) = some (e', mm) := q3;simp only [World.shape?, hcellw] at q3';injection q3' with q3'
        injection q3' with _ q3'
        exact q3'.symm
       have hle2 : row.val.toNat * sz + m.val.toNat * sz ≤ ca.size := by
        rw [← hmm, ← Bd];exact Ae (Ai _ (by omega)) q4
       refine ⟨ca.extract (row.val.toNat * sz) (row.val.toNat * sz + m.val.toNat * sz), ⟨⟨A, cap, rfl, mV (g := μ c) (off := row.val.toNat * sz) (m := m.val.toNat * sz) (fun hp => ?_) hcellw hle2⟩, h1, by simp; omega⟩, by simp; omega, fun i r hi => ?_⟩
       · have hcp : 0 < cap := by
          rcases Ao cap with h | h
          · exfalso;have h7 : m.val.toNat = 0 := by omega
            rw [h7, Cx] at hp;omega
          · exact h
         rw [hA hcp];rfl
       · rw [List.getElem?_take] at hi;split at hi
         · rename_i hlt;rw [List.getElem?_drop] at hi;obtain ⟨r1, r2⟩ := hh _ r hi;refine ⟨r1, fun j a hj => ?_⟩;obtain ⟨y, s1, s2⟩ := r2 j a hj;have hjl := (List.getElem?_eq_some_iff.1 hj).1;have h3 : i * sz + sz ≤ m.val.toNat * sz := by
            have := Ai sz (Bu hlt);rw [Co] at this; exact this
           rw [dO _ _ _ _ (by omega), show row.val.toNat * sz + (i * sz + j) = (row.val.toNat + i) * sz + j by rw [Bd]; omega, Array.getD_eq_getD_getElem?, s1];exact s2
         · cases hi
    · cases h
 · rename_i sz' n f;cases hk : Nat.beq sz sz' with
   | false => rw [hk] at h; cases h
   | true =>
    rw [hk, cond_true] at h;have e1 := Ad hk;subst e1;injection h with h
    injection h with e1 e2
    subst e1;have hrof : ys = (List.range n.val.toNat).map f := by
     rw [← e2];cases n with
     | s k => rfl
     | l k =>
      dsimp only [SI.val];cases hd : decide (0 ≤ k) with
      | true => rw [cond_true, aHP]; simp
      | false => rfl
    rw [hrof];cases (show RoV _ _ (.slc sz n f) vy from hy) with
    | slc _ _ _ a cap Y hs ho hm0 hp2 hll hc hr =>
     refine ⟨((List.range (n.val.toNat * sz)).map fun q => Y (q / sz) (q % sz)).toArray, ⟨⟨some a, cap, rfl, fun q hq => ⟨a, rfl, ?_⟩⟩, hm0, by simp⟩, by simp, fun i r hi => ?_⟩
     · have hql : q < n.val.toNat * sz := by simpa using hq
       have hsz0 : 0 < sz := by rcases Ao sz with h | h; rw [h] at hql; simp at hql; exact h
       have hdiv : q / sz < n.val.toNat := (Bv hsz0).2 hql;have hmod := Cz q hsz0;have hlen := hll _ hdiv;have := hc (q / sz) (q % sz) _ hdiv (List.getElem?_eq_getElem (by rw [hlen]; exact hmod));rw [cX hs];have hq2 : q / sz * sz + q % sz = q := by rw [Ax]; exact Ch q sz
       rw [hq2] at this;simp only [Array.getD_eq_getD_getElem?];simp [hql];exact this
     · rw [List.getElem?_map, Option.map_eq_some_iff] at hi;obtain ⟨i', h1, rfl⟩ := hi;have hi' : i < n.val.toNat := by have := (List.getElem?_eq_some_iff.1 h1).1; simpa using this
       have : i' = i := by simp [hi'] at h1; exact h1.symm
       subst this;refine ⟨hll _ hi', fun j a hj => ?_⟩;have hjl : j < sz := by have := (List.getElem?_eq_some_iff.1 hj).1; rw [hll _ hi'] at this; exact this
       have hlt : i' * sz + j < n.val.toNat * sz := by
        have := Ai sz (Bu hi');rw [Co] at this;omega
       have hd : (i' * sz + j) / sz = i' := by
        rw [Ax, Nat.mul_add_div (by omega)];rw [Ca hjl]; rfl
       have hm : (i' * sz + j) % sz = j := by
        rw [Ax, Nat.mul_add_mod];exact Dh hjl
       have : (((List.range (n.val.toNat * sz)).map fun q => Y (q / sz) (q % sz)).toArray.getD (i' * sz + j) undef) = Y i' j := by
        simp only [Array.getD_eq_getD_getElem?];simp [hlt, hd, hm]
       rw [this];exact aR (hr i' j a hi' hj)
    | slcN _ _ _ A cap hm =>
     refine ⟨#[], ⟨⟨A, cap, by rw [hm]; rfl, fun q hq => by simp at hq⟩, by omega, by rw [hm]; simp⟩, by simp, fun i r hi => ?_⟩;rw [hm] at hi;simp at hi
 · cases h
theorem aNA {g : Nat} {c : Array Value} {e e' mm : Nat} {fr : Nat × Nat} (h : w.heap[g]? = some (.cells c e fr)) (h2 : w.shape? g = some (e', mm)) : mm = c.size := by
 simp only [World.shape?, h] at h2;injection h2 with h2
 injection h2 with _ h2
 exact h2.symm
theorem getD_app3 {a b c : Array Value} {q : Nat} : (a ++ b ++ c).getD q undef = if q < a.size then a.getD q undef else if q < a.size + b.size then b.getD (q - a.size) undef else c.getD (q - (a.size + b.size)) undef := by
 rw [gL];simp only [Array.size_append];by_cases h1 : q < a.size
 · rw [if_pos (by omega), if_pos h1, gL, if_pos h1]
 · rw [if_neg h1];by_cases h2 : q < a.size + b.size
   · rw [if_pos h2, if_pos h2, gL, if_neg h1]
   · rw [if_neg h2, if_neg h2]
theorem wC (H : HR base O0 μ hp w) {t t2 e e2 sz by_ : Nat} {k : TK} {z : List AV} {fl : Option (List (Option IntKind))} {i : TypeInfo} {d : TypeDesc} {v : Value} (hu : P.underlying t = some (.slice e)) (hu2 : P.underlying t2 = some (.slice e2))
 (T : TOK P e k sz by_ z fl i d v) (hby : by_ ≤ 128) (hz : z.length = sz) {ts : Array TypeId} {rest : List TypeId} (hts : ts.toList = t :: t2 :: rest) {ty : TypeId} {b psz : Nat} {n m : SI} {vx vy : Value} {x : Blk} {new : Array Value}
 (hx : RelV (mkX base O0 μ hp w) (.ms b psz (.l 0) n) vx) (hb' : hp[b]? = some x) (hdim : ∃ N, x.dim = some (N, sz)) (hwr : x.wr = true) (hsrc : Src w vy m sz new) (hone : ∀ q, q < new.size → (new.getD q undef).oneCell' = true)
 (hneed : n.val + m.val ≤ most) (mk : Blk) (hnd1 : cB mk.need e = true) (hnd2 : mk.need = x.need) (hmk : mk.dim = some (n.val.toNat + m.val.toNat, sz))
 (hblk : ∀ (x' : X) (g : Nat) (c c' : Array Value) (e1 e2 : TypeId), Ext (mkX base O0 μ hp w) x' → w.heap[μ b]? = some (.cells c e1 (0, 0)) → x'.w.heap[g]? = some (.cells c' e2 (0, 0)) → n.val.toNat * sz ≤ c.size → n.val.toNat * sz + m.val.toNat * sz ≤ c'.size →
   (∀ q, q < n.val.toNat * sz → c'.getD q undef = c.getD q undef) → (∀ q, q < m.val.toNat * sz → c'.getD (n.val.toNat * sz + q) undef = new.getD q undef) → BlkR x' g mk) {K : AV → List Blk → Prop}
 (hK : K (.ms (lenB hp) sz (.l 0) (lP (aB P) n m)) (appB (setBlk hp b .dead) mk)) :
 ∃ val w', (Builtin.append_ ts ty #[vx, vy]).run P w = .ok val w' ∧ Res base O0 μ hp w K val w' := by
 obtain ⟨hbl, _, hn0, A, cap, rfl, hle, hA, hd⟩ := (show LeafR _ (.ms b psz (.l 0) n) vx from hx)
 obtain ⟨⟨B, xc, rfl, hlies⟩, hm0, hnsz⟩ := hsrc;obtain ⟨N, hN⟩ := hdim;have hdimb : dimB hp b = some (N, sz) := by simp [dimB, hb', hN]
 have hwrb : wrB hp b = true := by simp [wrB, hb', hwr]
 obtain ⟨q1, q2, e', mm, q3, q4⟩ := hd _ _ hdimb;subst q2;have z0 : (SI.l 0).val.toNat = 0 := rfl;rw [z0, Be] at q1 q4;obtain ⟨c, hcellw⟩ : ∃ c e, w.heap[μ b]? = some (.cells c e (0, 0)) := by
  have := H.blk b x hb';cases x with
  | dead => simp [Blk.wr] at hwr
  | ints wr k l => obtain ⟨c, e, h1, _⟩ := this; exact ⟨c, e, h1⟩
  | rows wr sz d l => obtain ⟨_, c, e, h1, _⟩ := this; exact ⟨c, e, h1⟩
 obtain ⟨ce, hcellw⟩ := hcellw;have hmm := aNA hcellw q3;subst hmm;have hlec : n.val.toNat * sz ≤ c.size := Ae (Ai _ hle) q4;have hA' : 0 < cap → A = some ⟨μ b, 0, none⟩ := fun h => by rw [hA h, z0, Cx]; rfl
 have hAn : 0 < n.val.toNat * sz → A = some ⟨μ b, 0, none⟩ := fun h => hA' (by
   rcases Ao n.val.toNat with h2 | h2
   · rw [h2, Cx] at h; omega
   · omega)
 have hold := mV (w := w) (A := A) (g := μ b) (off := 0) (m := n.val.toNat * sz) hAn hcellw (by omega);rw [Be] at hold;have hneedN : ((n.val.toNat + m.val.toNat : Nat) : Int) ≤ most := by omega
 have hadd : (lP (aB P) n m).val = n.val + m.val := dT n m;have haddN : (lP (aB P) n m).val.toNat = n.val.toNat + m.val.toNat := by rw [hadd]; omega
 rw [eJ, gW, setBlk_eq] at hK;have hlen : (hp.set b .dead).length = hp.length := by simp
 rcases run_append (P := P) (w := w) (ty := ty) hu hu2 T hby hz hts (sCap := cap) (xc := xc) hold (by simp; omega) hlies hnsz hneedN with ⟨hc, hrun⟩ | ⟨hc, cap', rest', hc1, hc2, hrun⟩
 ·
  obtain ⟨w', c', hst, T', hcs⟩ : ∃ w' c', (stA A (n.val.toNat * sz) new.toList).run P w = .ok () w' ∧ Turned (μ b) w w' c c' ce ∧
   ∀ q, c'.getD q undef = if n.val.toNat * sz ≤ q ∧ q < n.val.toNat * sz + m.val.toNat * sz then new.getD (q - n.val.toNat * sz) undef else c.getD q undef := by
   rcases Ao cap with h0 | h0
   · have hn00 : n.val.toNat = 0 := by omega
     have hm00 : m.val.toNat = 0 := by omega
     have hnew : new = #[] := by
      have : new.size = 0 := by rw [hnsz, hm00, Cx]
      simpa using this
     refine ⟨w, c, ?_, ⟨rfl, fun _ _ => rfl, rfl, rfl, rfl, hcellw, rfl⟩, fun q => by rw [if_neg (by rw [hn00, hm00]; omega)]⟩;subst hnew;cases A <;> rfl
   · rw [hA' h0];have hfit : n.val.toNat * sz + m.val.toNat * sz ≤ c.size := by
      rw [← Bd];exact Ae (Ai _ hc) q4
     obtain ⟨w', c', r1, T', r2⟩ := gY (P := P) (off := n.val.toNat * sz) new.toList 0 w c hcellw (fun u hu' => by
       obtain ⟨j, hj, rfl⟩ := List.getElem_of_mem hu';have hj' : j < new.size := by simpa using hj
       have := hone j hj';rw [Array.getD_eq_getD_getElem?, Array.getElem?_eq_getElem hj'] at this
       simpa using this) (by simp; omega)
     refine ⟨w', c', ?_, T', fun q => ?_⟩
     · show (storeCells ((⟨μ b, 0, none⟩ : Addr).add (n.val.toNat * sz)) new.toList).run P w = _;rw [cX rfl, Be];exact r1
     · rw [r2 q];simp only [Bn, Array.length_toList, hnsz];split
       · simp [Array.getD_eq_getD_getElem?]
       · rfl
  rw [hst] at hrun;have hfit : n.val.toNat * sz + m.val.toNat * sz ≤ c.size := by
   rw [← Bd];exact Ae (Ai _ hc) q4
  have ex := Ext.reuse H (x := mk) hbl hwrb T' hcellw;have hB := hblk (mkX base O0 (μnew μ hp.length (μ b)) (hp.set b .dead ++ [mk]) w') (μ b) c c' ce ce ex hcellw T'.blk hlec (by rw [T'.csize]; exact hfit)
   (fun q hq => by rw [hcs q, if_neg (by omega)]) (fun q hq => by rw [hcs _, if_pos (by omega)]; congr 1; omega)
  refine ⟨_, _, hrun, _, _, _, hK, ?_, HR.reuse H hbl hwrb T' hcellw hB (.inr ⟨_, hb', hnd2⟩), ex, T'.below (H.low b (by rw [hdimb]; simp))⟩;rw [← haddN];refine ⟨by simp [mkX], by rw [z0] at *; exact Bc 0, by omega, A, cap, rfl, by omega, fun h => ?_, fun n' s hn' => ?_⟩
  · rw [hA' h, z0, Cx];show some _ = some (⟨μnew μ hp.length (μ b) hp.length, 0, none⟩ : Addr);simp [μnew]
  · have hn'' : dimB (hp.set b .dead ++ [mk]) hp.length = some (n', s) := hn';rw [dimB_app, hlen, if_neg (by omega), if_pos rfl, hmk] at hn'';injection hn'' with hn''
    injection hn'' with e1 e2
    refine ⟨by rw [z0]; omega, e2.symm, e', c.size, ?_, by rw [z0, Be]; exact q4⟩;show w'.shape? (μnew μ hp.length (μ b) hp.length) = _;rw [show μnew μ hp.length (μ b) hp.length = μ b by simp [μnew]];exact T'.shape hcellw _ q3
 ·
  have H1 := HR.drew H;obtain ⟨H2, X2⟩ := HR.kill H1 hbl;have X12 := (Ext.drew H).trans X2;have hbig : n.val.toNat * sz + m.val.toNat * sz ≤ (c.extract 0 (n.val.toNat * sz) ++ new ++ rest').size := by
   simp [hnsz]; omega
  have X3 := Ext.alloc H2 (.cells (c.extract 0 (n.val.toNat * sz) ++ new ++ rest') e) mk;have hcs1 : (c.extract 0 (n.val.toNat * sz)).size = n.val.toNat * sz := by simp; omega
  have hB := hblk (mkX base O0 (μnew μ (hp.set b .dead).length (gS w).heap.size) (hp.set b .dead ++ [mk]) (cC (gS w) (.cells (c.extract 0 (n.val.toNat * sz) ++ new ++ rest') e))) (gS w).heap.size c
   (c.extract 0 (n.val.toNat * sz) ++ new ++ rest') ce e (X12.trans X3) hcellw (dI _ _) hlec hbig
   (fun q hq => by rw [getD_app3, hcs1, if_pos hq, dO _ _ _ _ (by omega), Be]) (fun q hq => by rw [getD_app3, hcs1, if_neg (by omega), if_pos (by omega)]; congr 1; omega)
  refine ⟨_, _, hrun, _, _, _, hK, ?_, HR.alloc H2 _ _ hB (TyR.new (dI _ _) hnd1), X12.trans X3, (jA _ w).trans ((dQ _ _).mono H.all)⟩;rw [← haddN];have := iB (base := base) (O0 := O0) (μ := μ) (hp := hp.set b .dead) (w := gS w) (x := mk) (len := lP (aB P) n m) (cap := cap') (cells := c.extract 0 (n.val.toNat * sz) ++ new ++ rest') (e := e) hmk (by omega) (by omega) (by omega)
   (by simp [hnsz, hc2, hcs1]; rw [← Bd, ← Bd]; exact Ai _ (by omega))
  rw [eJ, hlen] at this;rw [hlen];exact this
theorem iD (H : HR base O0 μ hp w) {t t2 e e2 sz by_ : Nat} {k : TK} {z : List AV} {fl : Option (List (Option IntKind))} {i : TypeInfo} {d : TypeDesc} {v : Value} (hu : P.underlying t = some (.slice e)) (hu2 : P.underlying t2 = some (.slice e2))
 (T : TOK P e k sz by_ z fl i d v) (hby : by_ ≤ 128) (hz : z.length = sz) {ts : Array TypeId} {rest : List TypeId} (hts : ts.toList = t :: t2 :: rest) {ty : TypeId} {m : SI} {vy : Value} {new : Array Value}
 (hsrc : Src w vy m sz new) (hneed : m.val ≤ most) (mk : Blk) (hnd1 : cB mk.need e = true) (hmk : mk.dim = some (m.val.toNat, sz))
 (hblk : ∀ (x' : X) (g : Nat) (c' : Array Value) (e2 : TypeId), Ext (mkX base O0 μ hp w) x' → x'.w.heap[g]? = some (.cells c' e2 (0, 0)) → m.val.toNat * sz ≤ c'.size →
   (∀ q, q < m.val.toNat * sz → c'.getD q undef = new.getD q undef) → BlkR x' g mk) {K : AV → List Blk → Prop}
 (hK0 : m.val = 0 → K .s0 hp) (hK : m.val ≠ 0 → K (.ms (lenB hp) sz (.l 0) m) (appB hp mk)) :
 ∃ val w', (Builtin.append_ ts ty #[.slice none 0 0, vy]).run P w = .ok val w' ∧ Res base O0 μ hp w K val w' := by
 obtain ⟨⟨B, xc, rfl, hlies⟩, hm0, hnsz⟩ := hsrc;have hold : Lies w none #[] := fun q hq => by simp at hq
 have hneedN : ((0 + m.val.toNat : Nat) : Int) ≤ most := by omega
 rcases run_append (P := P) (w := w) (ty := ty) hu hu2 T hby hz hts (sLen := 0) (sCap := 0) (xc := xc) (A := none) hold (by simp) hlies hnsz hneedN with ⟨hc, hrun⟩ | ⟨hc, cap', rest', hc1, hc2, hrun⟩
 · have hm00 : m.val.toNat = 0 := by omega
   have hnew : new = #[] := by
    have : new.size = 0 := by rw [hnsz, hm00, Cx]
    simpa using this
   subst hnew;have hst : (stA none (0 * sz) (#[] : Array Value).toList).run P w = .ok () w := rfl;rw [hst] at hrun;refine ⟨_, _, hrun, _, _, _, hK0 (by omega), ?_, H, Ext.refl _, Below.refl _ _⟩;rw [hm00];exact RoV.s0
 · have H1 := HR.drew H;have X1 := Ext.drew H;have hsz : (#[] ++ new ++ rest' : Array Value).size = new.size + rest'.size := by simp
   have X3 := Ext.alloc H1 (.cells (#[] ++ new ++ rest') e) mk;have hB := hblk (mkX base O0 (μnew μ hp.length (gS w).heap.size) (hp ++ [mk]) (cC (gS w) (.cells (#[] ++ new ++ rest') e))) (gS w).heap.size (#[] ++ new ++ rest') e (X1.trans X3) (dI _ _) (by rw [hsz, hnsz]; omega)
    (fun q hq => by rw [getD_app3]; simp only [List.size_toArray, List.length_nil, Nat.not_lt_zero, if_false, Be, Nat.sub_zero]; rw [if_pos (by omega)])
   refine ⟨_, _, hrun, _, _, _, hK (by omega), ?_, by rw [gW]; exact HR.alloc H1 _ _ hB (TyR.new (dI _ _) hnd1), by rw [gW]; exact X1.trans X3, (jA _ w).trans ((dQ _ _).mono H.all)⟩;have := iB (base := base) (O0 := O0) (μ := μ) (hp := hp) (w := gS w) (x := mk) (len := m) (cap := cap') (cells := #[] ++ new ++ rest') (e := e) hmk (by omega) (by omega) (by omega)
    (by rw [hsz, hnsz, hc2, ← Bd]; exact Ai _ (by omega))
   rw [gW, Be];exact this
theorem aEJ (H : HR base O0 μ hp w) {t t2 e e2 sz by_ : Nat} {k : TK} {z : List AV} {fl : Option (List (Option IntKind))} {i : TypeInfo} {d : TypeDesc} {v : Value} (hu : P.underlying t = some (.slice e)) (hu2 : P.underlying t2 = some (.slice e2))
 (T : TOK P e k sz by_ z fl i d v) (hby : by_ ≤ 128) (hz : z.length = sz) {ts : Array TypeId} {rest : List TypeId} (hts : ts.toList = t :: t2 :: rest) {ty : TypeId} {m : SI} {vy : Value} {new : Array Value}
 {sLen : Nat} {A : Option Addr} {old : Array Value} (ho : Lies w A old) (hos : old.size = sLen * sz)
 (hsrc : Src w vy m sz new) (hm1 : 1 ≤ m.val) (hneed : ((sLen + m.val.toNat : Nat) : Int) ≤ most) {len : SI} (hlen : len.val = ((sLen + m.val.toNat : Nat) : Int)) (mk : Blk) (hnd1 : cB mk.need e = true) (hmk : mk.dim = some (sLen + m.val.toNat, sz))
 (hblk : ∀ (x' : X) (g : Nat) (c' : Array Value) (e2 : TypeId), Ext (mkX base O0 μ hp w) x' → x'.w.heap[g]? = some (.cells c' e2 (0, 0)) → (sLen + m.val.toNat) * sz ≤ c'.size →
   (∀ q, q < sLen * sz → c'.getD q undef = old.getD q undef) → (∀ q, q < m.val.toNat * sz → c'.getD (sLen * sz + q) undef = new.getD q undef) → BlkR x' g mk) {K : AV → List Blk → Prop}
 (hK : K (.ms (lenB hp) sz (.l 0) len) (appB hp mk)) :
 ∃ val w', (Builtin.append_ ts ty #[.slice A sLen sLen, vy]).run P w = .ok val w' ∧ Res base O0 μ hp w K val w' := by
 obtain ⟨⟨B, xc, rfl, hlies⟩, hm0, hnsz⟩ := hsrc;rcases run_append (P := P) (w := w) (ty := ty) hu hu2 T hby hz hts (sLen := sLen) (sCap := sLen) (xc := xc) (A := A) ho hos hlies hnsz hneed with ⟨hc, hrun⟩ | ⟨hc, cap', rest', hc1, hc2, hrun⟩
 · omega
 · have H1 := HR.drew H;have X1 := Ext.drew H;have hsz : (old ++ new ++ rest' : Array Value).size = (sLen + m.val.toNat) * sz + rest'.size := by rw [Array.size_append, Array.size_append, hos, hnsz, Bd]
   have X3 := Ext.alloc H1 (.cells (old ++ new ++ rest') e) mk;have hB := hblk (mkX base O0 (μnew μ hp.length (gS w).heap.size) (hp ++ [mk]) (cC (gS w) (.cells (old ++ new ++ rest') e))) (gS w).heap.size (old ++ new ++ rest') e (X1.trans X3) (dI _ _) (by rw [hsz]; omega)
    (fun q hq => by rw [getD_app3, if_pos (by omega)])
    (fun q hq => by rw [getD_app3, if_neg (by omega), if_pos (by omega), hos, show sLen * sz + q - sLen * sz = q by omega])
   refine ⟨_, _, hrun, _, _, _, hK, ?_, by rw [gW]; exact HR.alloc H1 _ _ hB (TyR.new (dI _ _) hnd1), by rw [gW]; exact X1.trans X3, (jA _ w).trans ((dQ _ _).mono H.all)⟩;have := iB (base := base) (O0 := O0) (μ := μ) (hp := hp) (w := gS w) (x := mk) (len := len) (cap := cap') (cells := old ++ new ++ rest') (e := e) hmk (by omega) (by omega) (by omega)
    (by rw [hsz, hc2, ← Bd]; exact Ai _ (by omega))
   rw [gW, show sLen + m.val.toNat = len.val.toNat by omega];exact this
theorem ints_of_cells {x' : X} {g : Nat} {c' : Array Value} {e : TypeId} {wr : Bool} {k : IntKind} {l : List Int} (hg : x'.w.heap[g]? = some (.cells c' e (0, 0))) (hl : l.length ≤ c'.size) (h : ∀ (i : Nat) (n : Int), l[i]? = some n → c'.getD i undef = .int k n) :
 BlkR x' g (.ints wr k l) :=
 ⟨c', e, hg, fun i n hi => by rw [bU (by have := (List.getElem?_eq_some_iff.1 hi).1; omega), h i n hi]⟩
theorem aLS {ys : List (List AV)} {sz M : Nat} {new : Array Value} (hns : new.size = M * sz) (hyl : ys.length = M) (hyn : ∀ (i : Nat) (r : List AV), ys[i]? = some r → r.length = sz ∧ ∀ (j : Nat) (a : AV), r[j]? = some a → LeafR (mkX base O0 μ hp w) a (new.getD (i * sz + j) undef))
 (hleaf : allB (allB AV.leaf) ys = true) : ∀ q, q < new.size → (new.getD q undef).oneCell' = true := by
 intro q hq;rw [allB_eq, List.all_eq_true] at hleaf;have hsz0 : 0 < sz := by
  rcases Ao sz with h | h
  · rw [hns, h] at hq; simp at hq
  · exact h
 have hdiv : q / sz < ys.length := by rw [hyl]; exact (Bv hsz0).2 (by omega)
 have hmod := Cz q hsz0;obtain ⟨r1, r2⟩ := hyn (q / sz) _ (List.getElem?_eq_getElem hdiv);have hml : q % sz < (ys[q / sz]).length := by omega
 have := r2 (q % sz) _ (List.getElem?_eq_getElem hml);have hq2 : q / sz * sz + q % sz = q := by rw [Ax]; exact Ch q sz
 rw [hq2] at this;have hl := hleaf _ (List.getElem_mem hdiv);rw [allB_eq, List.all_eq_true] at hl;exact rD this (hl _ (List.getElem_mem hml))
theorem rows_of_cells {x' : X} {g : Nat} {c' : Array Value} {e : TypeId} {wr : Bool} {sz : Nat} {d : List AV} {l : List (List AV)} (hd : d.length = sz) (hg : x'.w.heap[g]? = some (.cells c' e (0, 0))) (hl : l.length * sz ≤ c'.size)
 (h : ∀ (i : Nat) (r : List AV), l[i]? = some r → r.length = sz ∧ ∀ (j : Nat) (a : AV), r[j]? = some a → LeafR x' a (c'.getD (i * sz + j) undef)) : BlkR x' g (.rows wr sz d l) := by
 refine ⟨hd, c', e, hg, fun i r hi => ⟨(h i r hi).1, fun j a hj => ⟨_, bU ?_, (h i r hi).2 j a hj⟩⟩⟩;have hil := (List.getElem?_eq_some_iff.1 hi).1;have hjl := (List.getElem?_eq_some_iff.1 hj).1;have := (h i r hi).1;have h3 : i * sz + sz ≤ l.length * sz := by
  have := Ai sz (Bu hil);rw [Co] at this; exact this
 omega
theorem aDI {l : List (List AV)} {n : SI} : aAY (aB P) l n = l.take n.val.toNat := by
 have hr : ∀ z : Int, (aB P).rsub l 0 z = l.take z.toNat := fun z => by
  show (l.drop (0 : Int).toNat).take z.toNat = _;simp
 cases n with
 | l n =>
  simp only [aAY];cases hdec : decide (Int.ofNat (lenR l) = n) with
  | true =>
   have := Bt hdec;rw [lH] at this;rw [cond_true];simp only [SI.val];rw [← this];simp
  | false => rw [cond_false, hr]; rfl
 | s n => simp only [aAY]; rw [hr]; rfl
theorem aAW (hG : GOK P G) (H : HR base O0 μ hp w) {t t2 : Nat} {x y : AV} {vx vy : Value} {ts : Array TypeId} {rest : List TypeId} (hts : ts.toList = t :: t2 :: rest) {ty : TypeId} {K : AV → List Blk → Prop}
 (hx : RelV (mkX base O0 μ hp w) x vx) (hy : RelV (mkX base O0 μ hp w) y vy) (h : uU (aB P) G hp t t2 x y K) :
 ∃ val w', (Builtin.append_ ts ty #[vx, vy]).run P w = .ok val w' ∧ Res base O0 μ hp w K val w' := by
 unfold uU at h;split at h
 · rename_i e sz1 by1 z1 fl1 e2 sz2 by2 z2 fl2 hk1 hk2;obtain ⟨i1, d1, v1, T1⟩ := hG.tok hk1 (by simp);obtain ⟨i2, d2, v2, T2⟩ := hG.tok hk2 (by simp);have hd1 := eQ T1.kind;have hd2 := eQ T2.kind;subst hd1 hd2;split at h
   · exact h.elim
   ·
    rename_i k sz by_ z fl hk;obtain ⟨i3, d3, v3, T3⟩ := hG.tok hk (by simp);cases hb : Nat.ble by_ 128 && Nat.beq sz 1 && Nat.beq (lenC z) 1 && cB (iS k) e with
    | false => rw [hb] at h; exact h.elim
    | true =>
     rw [hb, cond_true] at h;simp only [Aj] at hb;obtain ⟨hb, hnd⟩ := hb;have b1 := An hb.1.1;have b2 := Ad hb.1.2;have b3 := Ad hb.2;rw [gA] at b3;subst b2;split at h
     · rename_i b psz n;split at h
       · rename_i k' l hblk;have hb' := cD hblk (by simp);cases hkk : ikEq k k' with
         | false => rw [hkk] at h; exact h.elim
         | true =>
          rw [hkk, cond_true] at h;have := fI hkk;subst this;split at h
          · rename_i m ys hs;obtain ⟨hne, h⟩ := cT h;rw [dT] at hne;obtain ⟨new, hsrc, hyl, hyn⟩ := pT H hy hs;have hdimb : dimB hp b = some (l.length, 1) := by simp [dimB, hb', Blk.dim]
            have hnl : n.val.toNat ≤ l.length := by
             obtain ⟨_, _, _, _, _, _, _, _, hd⟩ := (show LeafR _ (.ms b psz (.l 0) n) vx from hx)
             have := (hd _ _ hdimb).1;have z0 : (SI.l 0).val.toNat = 0 := rfl;omega
            have hsub : (aB P).sub l 0 n.val = l.take n.val.toNat := by
             show (l.drop (0 : Int).toNat).take n.val.toNat = _;simp
            rw [hsub] at h;refine wC H T1.und T2.und T3 b1 b3 hts hx hb' ⟨_, rfl⟩ rfl hsrc (fun q hq => ?_) hne (.ints true k (l.take n.val.toNat ++ ys)) hnd rfl ?_ ?_ h
            · have hql : q < ys.length := by rw [hyl]; have := hsrc.size; omega
              rw [hyn q ys[q] (List.getElem?_eq_getElem hql)]; rfl
            · show some ((l.take n.val.toNat ++ ys).length, 1) = _;simp [hyl]; omega
            · intro x' g c c' e1 e2 ex hc hc' s1 s2 o1 o2;refine ints_of_cells hc' (by show (l.take n.val.toNat ++ ys).length ≤ _; simp [hyl]; omega) (fun i nn hi => ?_);have hi' : (l.take n.val.toNat ++ ys)[i]? = some nn := hi;rw [List.getElem?_append] at hi';have htl : (l.take n.val.toNat).length = n.val.toNat := by simp; omega
              rw [htl] at hi';split at hi'
              · rename_i hlt;rw [o1 i (by omega)];rw [List.getElem?_take, if_pos hlt] at hi';obtain ⟨cc, ee, hcell, hh⟩ := H.blk b _ hb';have hcell' : w.heap[μ b]? = some (.cells cc ee (0, 0)) := hcell;rw [hc] at hcell';injection hcell' with hcell'
                injection hcell' with hcell' _
                subst hcell';rw [Array.getD_eq_getD_getElem?, hh i nn hi'];rfl
              · rename_i hlt;have hil := (List.getElem?_eq_some_iff.1 hi').1;have := o2 (i - n.val.toNat) (by omega);rw [show n.val.toNat * 1 + (i - n.val.toNat) = i by omega] at this;rw [this, hyn _ nn hi']
          · exact h.elim
       · exact h.elim
     · cases (show RoV _ _ .s0 vx from hx) with
       | s0 =>
        split at h
        · cases (show RoV _ _ .s0 vy from hy) with
          | s0 =>
           refine iD H T1.und T2.und T3 b1 b3 hts (m := .l 0) (new := #[]) ⟨⟨none, 0, rfl, fun q hq => by simp at hq⟩, by simp [SI.val], by simp [SI.val]⟩ (by decide) (.ints true k []) hnd rfl ?_ (fun _ => h) (fun h0 => absurd rfl h0);intro x' g c' e2 ex hc s1 o1;exact ints_of_cells hc (by simp) (fun i n hi => by simp at hi)
        · split at h
          · rename_i m ys hs;obtain ⟨new, hsrc, hyl, hyn⟩ := pT H hy hs;have hmk : (Blk.ints true k ys).dim = some (m.val.toNat, 1) := by simp [Blk.dim, hyl]
            have hblk : ∀ (x' : X) (g : Nat) (c' : Array Value) (e2 : TypeId), Ext (mkX base O0 μ hp w) x' → x'.w.heap[g]? = some (.cells c' e2 (0, 0)) → m.val.toNat * 1 ≤ c'.size →
             (∀ q, q < m.val.toNat * 1 → c'.getD q undef = new.getD q undef) → BlkR x' g (.ints true k ys) := by
             intro x' g c' e2 ex hc s1 o1;refine ints_of_cells hc (by omega) (fun i n hi => ?_);have hil := (List.getElem?_eq_some_iff.1 hi).1;rw [o1 i (by omega), hyn i n hi]
            rcases brB_real h with ⟨h1, h2⟩ | ⟨h1, h2⟩
            · rw [bX] at h1;have hm0 : m.val = 0 := eq_of_beq (show (m.val == 0) = true from h1);exact iD H T1.und T2.und T3 b1 b3 hts hsrc (by rw [hm0]; decide) (.ints true k ys) hnd hmk hblk (fun _ => h2) (fun h0 => absurd hm0 h0)
            · rw [bX] at h1;have hm0 : m.val ≠ 0 := by intro h3; rw [h3] at h1; cases h1
              obtain ⟨hne, h3⟩ := cT h2;exact iD H T1.und T2.und T3 b1 b3 hts hsrc hne (.ints true k ys) hnd hmk hblk (fun h0 => absurd h0 hm0) (fun _ => h3)
          · exact h.elim
     · exact h.elim
   ·
    rename_i k sz by_ z fl hno1 hno2 hk;obtain ⟨i3, d3, v3, T3⟩ := hG.tok hk hno1;cases hb : Nat.ble by_ 128 && Nat.beq (lenC z) sz && cB (cW z) e with
    | false => rw [hb] at h; exact h.elim
    | true =>
     rw [hb, cond_true] at h;simp only [Aj] at hb;obtain ⟨hb, hnd⟩ := hb;have b1 := An hb.1;have b3 := Ad hb.2;rw [gA] at b3;split at h
     · rename_i b psz n;split at h
       · rename_i sz' d l hblk;have hb' := cD hblk (by simp);cases hkk : Nat.beq sz sz' && cB (cW d) e with
         | false => rw [hkk] at h; exact h.elim
         | true =>
          rw [hkk, cond_true] at h;simp only [Aj] at hkk;obtain ⟨hkk, hnd'⟩ := hkk;have := Ad hkk;subst this;split at h
          · rename_i m ys hs;obtain ⟨hleaf, h⟩ := aBI h;obtain ⟨hne, h⟩ := cT h;rw [dT] at hne;obtain ⟨new, hsrc, hyl, hyn⟩ := lJ H hy hs;have hdimb : dimB hp b = some (l.length, sz) := by simp [dimB, hb', Blk.dim]
            have hnl : n.val.toNat ≤ l.length := by
             obtain ⟨_, _, _, _, _, _, _, _, hd⟩ := (show LeafR _ (.ms b psz (.l 0) n) vx from hx)
             have := (hd _ _ hdimb).1;have z0 : (SI.l 0).val.toNat = 0 := rfl;omega
            have hn0 : 0 ≤ n.val := by
             obtain ⟨_, _, hn0, _⟩ := (show LeafR _ (.ms b psz (.l 0) n) vx from hx)
             exact hn0
            obtain ⟨cc, ee, hdl, hcell, hh⟩ : ∃ cc ee, d.length = sz ∧ w.heap[μ b]? = some (.cells cc ee (0, 0)) ∧ ∀ (i : Nat) (r : List AV), l[i]? = some r → r.length = sz ∧ ∀ (j : Nat) (a : AV), r[j]? = some a → ∃ y, cc[i * sz + j]? = some y ∧ LeafR (mkX base O0 μ hp w) a y := by
             obtain ⟨q1, cc, ee, q2, q3⟩ := H.blk b _ hb';exact ⟨cc, ee, q1, q2, q3⟩
            rw [aDI] at h;have hns := hsrc.size;refine wC H T1.und T2.und T3 b1 b3 hts hx hb' ⟨_, rfl⟩ rfl hsrc (aLS hns hyl hyn hleaf) hne (.rows true sz d (l.take n.val.toNat ++ ys)) hnd' rfl ?_ ?_ h
            · show some ((l.take n.val.toNat ++ ys).length, sz) = _;simp [hyl]; omega
            · intro x' g c c' e1 e2 ex hc hc' s1 s2 o1 o2;have hll : (l.take n.val.toNat ++ ys).length = n.val.toNat + m.val.toNat := by simp [hyl]; omega
              refine rows_of_cells hdl hc' (by show (l.take n.val.toNat ++ ys).length * sz ≤ _; rw [hll, Bd]; exact s2) (fun i r hi => ?_);have hi' : (l.take n.val.toNat ++ ys)[i]? = some r := hi;rw [List.getElem?_append] at hi';have htl : (l.take n.val.toNat).length = n.val.toNat := by simp; omega
              rw [htl] at hi';rw [hc] at hcell;injection hcell with hcell
              injection hcell with hcell _
              subst hcell;split at hi'
              · rename_i hlt;rw [List.getElem?_take, if_pos hlt] at hi';obtain ⟨r1, r2⟩ := hh i r hi';refine ⟨r1, fun j a hj => ?_⟩;obtain ⟨y, y1, y2⟩ := r2 j a hj;have hjl := (List.getElem?_eq_some_iff.1 hj).1;have h3 : i * sz + sz ≤ n.val.toNat * sz := by
                 have := Ai sz (Bu hlt);rw [Co] at this; exact this
                rw [o1 _ (by omega), Array.getD_eq_getD_getElem?, y1];exact y2.mono ex
              · rename_i hlt;obtain ⟨r1, r2⟩ := hyn _ r hi';refine ⟨r1, fun j a hj => ?_⟩;have hil := (List.getElem?_eq_some_iff.1 hi').1;have hjl := (List.getElem?_eq_some_iff.1 hj).1;have h3 : (i - n.val.toNat) * sz + sz ≤ m.val.toNat * sz := by
                 have := Ai sz (Bu (by omega : i - n.val.toNat < m.val.toNat));rw [Co] at this; exact this
                have h4 : n.val.toNat * sz + ((i - n.val.toNat) * sz + j) = i * sz + j := by
                 rw [← Cs, ← Bd];congr 2; omega
                have := o2 ((i - n.val.toNat) * sz + j) (by omega);rw [h4] at this;rw [this];exact (r2 j a hj).mono ex
          · exact h.elim
       · exact h.elim
     · cases (show RoV _ _ .s0 vx from hx) with
       | s0 =>
        split at h
        · cases (show RoV _ _ .s0 vy from hy) with
          | s0 =>
           refine iD H T1.und T2.und T3 b1 b3 hts (m := .l 0) (new := #[]) ⟨⟨none, 0, rfl, fun q hq => by simp at hq⟩, by simp [SI.val], by simp [SI.val]⟩ (by decide) (.rows true sz z []) hnd rfl ?_ (fun _ => h) (fun h0 => absurd rfl h0);intro x' g c' e2 ex hc s1 o1;exact rows_of_cells b3 hc (by simp) (fun i n hi => by simp at hi)
        · split at h
          · rename_i m ys hs;obtain ⟨new, hsrc, hyl, hyn⟩ := lJ H hy hs;have hmk : (Blk.rows true sz z ys).dim = some (m.val.toNat, sz) := by simp [Blk.dim, hyl]
            have hblk : ∀ (x' : X) (g : Nat) (c' : Array Value) (e2 : TypeId), Ext (mkX base O0 μ hp w) x' → x'.w.heap[g]? = some (.cells c' e2 (0, 0)) → m.val.toNat * sz ≤ c'.size →
             (∀ q, q < m.val.toNat * sz → c'.getD q undef = new.getD q undef) → BlkR x' g (.rows true sz z ys) := by
             intro x' g c' e2 ex hc s1 o1;refine rows_of_cells b3 hc (by rw [hyl]; exact s1) (fun i r hi => ?_);obtain ⟨r1, r2⟩ := hyn i r hi;refine ⟨r1, fun j a hj => ?_⟩;have hil := (List.getElem?_eq_some_iff.1 hi).1;have hjl := (List.getElem?_eq_some_iff.1 hj).1;have h3 : i * sz + sz ≤ m.val.toNat * sz := by
              have := Ai sz (Bu (by omega : i < m.val.toNat));rw [Co] at this; exact this
             rw [o1 _ (by omega)];exact (r2 j a hj).mono ex
            rcases brB_real h with ⟨h1, h2⟩ | ⟨h1, h2⟩
            · rw [bX] at h1;have hm0 : m.val = 0 := eq_of_beq (show (m.val == 0) = true from h1);exact iD H T1.und T2.und T3 b1 b3 hts hsrc (by rw [hm0]; decide) (.rows true sz z ys) hnd hmk hblk (fun _ => h2) (fun h0 => absurd hm0 h0)
            · rw [bX] at h1;have hm0 : m.val ≠ 0 := by intro h3; rw [h3] at h1; cases h1
              obtain ⟨hne, h3⟩ := cT h2;exact iD H T1.und T2.und T3 b1 b3 hts hsrc hne (.rows true sz z ys) hnd hmk hblk (fun h0 => absurd h0 hm0) (fun _ => h3)
          · exact h.elim
     · rename_i sz' l;cases hq : Nat.beq sz sz' with
       | false => rw [hq] at h; exact h.elim
       | true =>
        rw [hq, cond_true] at h;have := Ad hq;subst this;split at h
        · rename_i m ys hs;cases hone : aNF m && Nat.ble (lenR l) 1000 with
          | false => rw [hone] at h; exact h.elim
          | true =>
           rw [hone, cond_true] at h;simp only [Aj, lH] at hone;have hl := An hone.2;have hm1 : m.val = 1 := by
            have := hone.1;unfold aNF at this;split at this
            · rfl
            · cases this
           have hm1' : m.val.toNat = 1 := by omega
           obtain ⟨new, hsrc, hyl, hyn⟩ := lJ H hy hs;cases (show RoV _ _ (.slx sz l) vx from hx) with
           | slx _ _ ad Y hsp ho hrl hrc hrr =>
            have hns := hsrc.size;have hbig : (1000 : Int) + 1 ≤ most := by decide
            let old : Array Value := (List.range (l.length * sz)).toArray.map (fun q => Y (q / sz) (q % sz));have hos : old.size = l.length * sz := by simp [old]
            have row : ∀ q, q < l.length * sz → ∃ r c, l[q / sz]? = some r ∧ r[q % sz]? = some c ∧ q / sz * sz + q % sz = q := by
             intro q hq;have hsz0 : 0 < sz := by
              rcases Ao sz with h | h
              · rw [h] at hq; simp at hq
              · exact h
             have hdiv : q / sz < l.length := (Bv hsz0).2 hq;have hmod := Cz q hsz0;have e1 := List.getElem?_eq_getElem hdiv;have r1 := hrl _ _ e1;exact ⟨_, _, e1, List.getElem?_eq_getElem (by omega), by rw [Ax]; exact Ch q sz⟩
            have og : ∀ q, q < l.length * sz → old.getD q undef = Y (q / sz) (q % sz) := by
             intro q hq;simp [old, Array.getD_eq_getD_getElem?, hq]
            have hlies : Lies w (some ad) old := by
             intro q hq;rw [hos] at hq;refine ⟨ad, rfl, ?_⟩;obtain ⟨r, c, e1, e2, e3⟩ := row q hq;have := hrc _ _ r c e1 e2;rw [e3] at this;rw [og q hq, ← this];show w.cell? (ad.add q) = w.cell? _;congr 1;cases ad;simp only at hsp;subst hsp;simp [Addr.add]
            refine aEJ H T1.und T2.und T3 b1 b3 hts hlies hos hsrc (by omega) (by rw [hm1']; omega) (len := .l (Int.ofNat (lenR l + 1))) (by rw [lH, hm1']; rfl) (.rows true sz z (l ++ ys)) hnd ?_ ?_ h
            · show some ((l ++ ys).length, sz) = _;simp [hyl]
            · intro x' g c' e2 ex hc s1 o1 o2;refine rows_of_cells b3 hc (by simp only [List.length_append, hyl]; exact s1) (fun i r hi => ?_);rw [List.getElem?_append] at hi;split at hi
              · rename_i hlt;refine ⟨hrl i r hi, fun j a hj => ?_⟩;have hjl := (List.getElem?_eq_some_iff.1 hj).1;have hr1 := hrl i r hi;have h3 : i * sz + sz ≤ l.length * sz := by
                 have := Ai sz (Bu hlt);rw [Co] at this; exact this
                have hq : i * sz + j < l.length * sz := by omega
                rw [o1 _ hq, og _ hq];have e1 : (i * sz + j) / sz = i := by
                 rw [Ax, Nat.mul_add_div (by omega), Ca (by omega), Bn]
                have e2 : (i * sz + j) % sz = j := by
                 rw [Ax, Nat.mul_add_mod, Dh (by omega)]
                rw [e1, e2];exact (aR (hrr i j r a hi hj)).mono ex
              · rename_i hlt;obtain ⟨r1, r2⟩ := hyn _ r hi;refine ⟨r1, fun j a hj => ?_⟩;have hil := (List.getElem?_eq_some_iff.1 hi).1;have hjl := (List.getElem?_eq_some_iff.1 hj).1;have h3 : (i - l.length) * sz + sz ≤ m.val.toNat * sz := by
                 have := Ai sz (Bu (by omega : i - l.length < m.val.toNat));rw [Co] at this; exact this
                have h4 : l.length * sz + ((i - l.length) * sz + j) = i * sz + j := by
                 rw [← Cs, ← Bd];congr 2; omega
                have := o2 ((i - l.length) * sz + j) (by omega);rw [h4] at this;rw [this];exact (r2 j a hj).mono ex
        · exact h.elim
     · exact h.elim
 · exact h.elim
end
end
section
open Go Go.RowKit
section
variable {P : Program} {G : Nat → TI} {base : Nat} {O0 : Nat → Prop} {μ : Nat → Nat} {hp : List Blk} {w w' : World}
def TR (x : X) (tt : List (Nat × AV)) (a : Act) : Prop := ∀ t, RelV x (lookT tt t) (a.tmps.getD t undef)
theorem tE {x : X} (v : Value) : RelV x (ofConst v) v := by
 unfold ofConst;split
 · rename_i ys;refine ⟨ys, rfl, by simp, fun j c hj => ?_⟩;rw [List.getElem?_map, Option.map_eq_some_iff] at hj;obtain ⟨y, h1, rfl⟩ := hj;have : ys.getD j undef = y := by
    rw [Array.getD_eq_getD_getElem?];simp at h1;simp [h1]
   rw [this];exact lG y
 · exact relV_of_leaf (lG v)
theorem aBG {x : X} (hgl : nW x.O x.w) (g : Nat) : RelV x (mI globs g) (.pointer (some ⟨g, 0, none⟩)) := by
 rcases glob_rel hgl g with h | h
 · exact dK h
 · rw [h]; exact RoV.un _
theorem opd_rel {x : X} {tt : List (Nat × AV)} {a : Act} (h : TR x tt a) (hgl : nW x.O x.w) (y : Operand) : RelV x (opd tt y) (a.eval y) := by
 cases y with
 | tmp t => exact h t
 | const v => exact tE v
 | global g => exact aBG hgl g
 | func f => exact ⟨#[], rfl, rfl, fun j c hj => by simp at hj⟩
def aQZ (base : Nat) (O0 : Nat → Prop) (μ : Nat → Nat) (hp : List Blk) (w : World) (K : AV → List Blk → Prop) (a : Act) (o : Oper) (a' : Act) (w' : World) : Prop :=
 ∃ val, a' = a.put o.dst val ∧ Res base O0 μ hp w K val w'
theorem wp_value {o : Oper} {a : Act} {next : Act → World → Prop} {Q : Exit → Act → World → Prop} {v : Value} (h : (execOp a.eval o).run P w = .ok (.value v) w') (hn : next (a.put o.dst v) w') : o.wp P a w next Q := by
 unfold Oper.wp;rw [h];exact hn
theorem uX {s : Sem Value} {val : Value} (h : s.run P w = .ok val w') : (do pure (.value (← s)) : Sem Next).run P w = .ok (.value val) w' := by
 simp only [Sem.run_bind, h, Result.andThen_ok, Sem.run_pure]
theorem xC (hG : GOK P G) (H : HR base O0 μ hp w) {o : Oper} {a : Act} {tt : List (Nat × AV)} (hr : ∀ y, RelV (mkX base O0 μ hp w) (opd tt y) (a.eval y)) {K : AV → List Blk → Prop}
 (h : evOp (aB P) G ⟨tt, hp⟩ o.op K) {Q : Exit → Act → World → Prop} : o.wp P a w (aQZ base O0 μ hp w K a o) Q := by
 have pure_case : bO (aB P) G hp (opd tt) o.op (fun v => K v hp) → o.wp P a w (aQZ base O0 μ hp w K a o) Q := by
  intro h;obtain ⟨v, hK, hout⟩ := gN hG H (ev := a.eval) (fun y _ => hr y) h;rcases hout with ⟨val, w', h1, h2, h3⟩ | ⟨f, args, h1, h2⟩
  · exact wp_value h1 ⟨val, rfl, v, hp, μ, hK, h3, H.grow h2, Ext.grow H.all h2, h2.mono H.all⟩
  · unfold Oper.wp;rw [h1];refine h2.mono ?_;rintro e w' ⟨val, rfl, hb, hv⟩;exact ⟨val, rfl, v, hp, μ, hK, hv, H.grow hb, Ext.grow H.all hb, hb.mono H.all⟩
 obtain ⟨dst, op, ty, pos, after, guard⟩ := o;dsimp only at h pure_case;cases op <;> try exact pure_case h
 case alloc t =>
  obtain ⟨val, w', h1, h2⟩ := aBW hG H h;exact wp_value (uX h1) ⟨val, rfl, h2⟩
 case box t y =>
  obtain ⟨val, w', h1, h2⟩ := box_sound hG H (hr y) h;exact wp_value (uX h1) ⟨val, rfl, h2⟩
 case buildSlice t n parts =>
  obtain ⟨val, w', h1, h2⟩ := rL (ev := a.eval) hG H (fun i y _ => hr y) h;exact wp_value (uX h1) ⟨val, rfl, h2⟩
 case makeSlice t x y =>
  obtain ⟨val, w', h1, h2⟩ := tN hG H (hr x) (hr y) h;exact wp_value (uX h1) ⟨val, rfl, h2⟩
 case store t p y =>
  obtain ⟨w', h', h1, h2, h3, h4, h5⟩ := tD hG H (hr p) (hr y) h;unfold Oper.wp;have : (execOp a.eval ⟨dst, .store t p y, ty, pos, after, guard⟩).run P w = .ok .skip w' := by
   simp only [execOp, Sem.run_bind, h1, Result.andThen_ok, Sem.run_pure]
  rw [this];exact ⟨undef, rfl, .un, h', μ, h2, RoV.un _, h3, h4, h5⟩
 case binOp o t y z yt =>
  dsimp only [evOp] at h;rcases binNil_sound hG (xo := y) (yo := z) (hr y) (hr z) h with h | ⟨v, hK, val, h1, h2⟩
  · exact pure_case h
  · refine wp_value (v := val) (w' := w) ?_ ⟨val, rfl, v, hp, μ, hK, h2, H, Ext.refl _, Below.refl _ _⟩;exact uX h1
 case call c =>
  obtain ⟨callee, args, ts⟩ := c;cases callee with
  | value f =>
   dsimp only [evOp] at h;split at h
   · rename_i g bs caps hf;have hc := h;have hvf := hr f;obtain ⟨xs, ys, e1, hb, hl, hy⟩ := wU hvf hf;obtain ⟨a1, a2⟩ := front_rel hb (aCQ (ev := a.eval) (args := args) (ρ := opd tt) (fun y _ => hr y) hl hy (fun c v => relV_of_leaf));rcases hc base O0 μ w _ H a1 a2 with ⟨hfok, hcalls⟩ | ⟨val, hrun, hq⟩
     · unfold Oper.wp;have := wI (P := P) (args := args) (ts := ts) (ty := ty) e1 hfok w;rw [show (execOp a.eval ⟨dst, .call ⟨.value f, args, ts⟩, ty, pos, after, guard⟩) = (do let d ← resolve a.eval ⟨.value f, args, ts⟩ ty; invoke d.target d.args : Sem Next) from rfl, this];refine hcalls.mono ?_;rintro e w' ⟨val, r, h', μ', rfl, hK, hv, hH, hX, hB⟩;exact ⟨val, rfl, r, h', μ', hK, hv, hH, hX, hB⟩
     · obtain ⟨val', r, h', μ', he, hK, hv, hH, hX, hB⟩ := hq;have he' : val = val' := Ending.returned.inj he;subst he';exact wp_value ((uN (P := P) (args := args) (ts := ts) (ty := ty) e1 w).trans hrun) ⟨val, rfl, r, h', μ', hK, hv, hH, hX, hB⟩
   · exact h.elim
  | invoke recv name => exact h.elim
  | builtin b =>
   cases b <;> try exact pure_case h
   dsimp only [evOp] at h;split at h
   · rename_i x y t t2 rest hargs hts;have hargs' := ofList_eq hargs;subst hargs';obtain ⟨val, w', h1, h2⟩ := aAW hG H hts (ty := ty) (hr x) (hr y) h;refine wp_value (v := val) (w' := w') ?_ ⟨val, rfl, h2⟩;show ((resolve a.eval ⟨.builtin .append, [x, y].toArray, ts⟩ ty >>= fun d => invoke d.target d.args : Sem Next)).run P w = _;rw [Sem.run_bind];have e : (#[x, y] : Array Operand).map a.eval = #[a.eval x, a.eval y] := by simp
     simp only [resolve, Sem.run_pure, Result.andThen_ok, invoke, builtin, e];exact uX h1
   · exact h.elim
structure SR (base : Nat) (O0 : Nat → Prop) (I : X) (nt : Nat) (s : St) (μ : Nat → Nat) (a : Act) (w : World) : Prop where
 size : a.tmps.size = nt
 defers : a.defers = []
 hr : HR base O0 μ s.h w
 tmps : TR (mkX base O0 μ s.h w) s.t a
 ext : Ext I (mkX base O0 μ s.h w)
 below : Below base I.w w
theorem TR.put {x : X} {tt : List (Nat × AV)} {a : Act} (h : TR x tt a) {dst : Option Nat} {v : AV} {val : Value} (hv : RelV x v val) (hd : ∀ d, dst = some d → d < a.tmps.size) : TR x (putT tt dst v) (a.put dst val) := by
 intro t;cases dst with
 | none => exact h t
 | some d =>
  simp only [putT, lookT, Act.put];cases hb : Nat.beq d t with
  | true =>
   have := Ad hb;subst this;rw [cond_true];have := hd d rfl
   simpa [Array.getD_eq_getD_getElem?, this] using hv
  | false =>
   rw [cond_false];have hne : d ≠ t := by intro e; rw [e, Nat.beq_refl] at hb; cases hb
   have := h t
   simpa [Array.getD_eq_getD_getElem?, Array.getElem?_setIfInBounds_ne hne] using this
theorem iK (a : Act) (dst : Option Nat) (v : Value) : (a.put dst v).tmps.size = a.tmps.size := by
 cases dst <;> simp [Act.put]
theorem put_defers (a : Act) (dst : Option Nat) (v : Value) : (a.put dst v).defers = a.defers := by
 cases dst <;> rfl
theorem TR.refine {x : X} {tt : List (Nat × AV)} {a : Act} (h : TR x tt a) {d : Nat} {v : AV} (hv : RelV x v (a.tmps.getD d undef)) : TR x (putT tt (some d) v) a := by
 intro t;simp only [putT, lookT];cases hb : Nat.beq d t with
 | true => rw [cond_true, ← Ad hb]; exact hv
 | false => exact h t
theorem yQ {x : X} : RelV x (.tup []) undef := ⟨#[], rfl, rfl, fun j c hj => by simp at hj⟩
theorem sU {x : X} {ops : Array Oper} {tmps : Array Value} {j d : Nat} (hd : (ops[j]?).bind (·.dst) = some d) {vs : List AV} (hv : RelV x (.tup vs) (tmps.getD d undef)) : yielded ops tmps j = none := by
 obtain ⟨ys, e, _⟩ := hv;unfold yielded;rw [hd];simp only [Option.bind_some];cases h : tmps[d]? with
 | none => rfl
 | some v =>
  rw [Array.getD_eq_getD_getElem?, h] at e;simp only [Option.getD_some] at e;subst e;rfl
theorem guarded_sound {x : X} {ops : Array Oper} {o : Oper} {s : St} {a : Act} {go skip : St → Prop} (hT : TR x s.t a) (h : guarded (aB P) ops.toList o s go skip) :
 (Region.wanted o (yielded ops a.tmps) = true ∧ ∃ t', TR x t' a ∧ go ⟨t', s.h⟩) ∨ (Region.wanted o (yielded ops a.tmps) = false ∧ ∃ t', TR x t' a ∧ skip ⟨t', s.h⟩) := by
 unfold guarded at h;split at h
 · rename_i hg;exact .inl ⟨by simp [Region.wanted, hg], s.t, hT, h⟩
 · rename_i j want hg;split at h
   · exact h.elim
   · rename_i d hd;rw [nthO_eq] at hd;have hd' : (ops[j]?).bind (·.dst) = some d := by simpa using hd
     have yv : ∀ b : SB, lookT s.t d = .bool b → yielded ops a.tmps j = some b.val := by
      intro b hb;have hv := hT d;rw [hb] at hv;have hv' := hv.bool_inv;have hdl : d < a.tmps.size := by
       rcases Ar d a.tmps.size with h1 | h1
       · exact h1
       · rw [Array.getD_eq_getD_getElem?, Array.getElem?_eq_none h1] at hv';cases hv'
      have : a.tmps[d]? = some (.bool b.val) := by
       rw [bU hdl, hv']
      simp only [yielded, hd', Option.bind_some, this]
     split at h
     · rename_i b hb;have hy := yv _ hb;have hw : Region.wanted o (yielded ops a.tmps) = (b == want) := by
        simp only [Region.wanted, hg, hy, SB.val];cases b <;> cases want <;> rfl
       cases hbw : b == want with
       | true => rw [hbw] at h; exact .inl ⟨by rw [hw, hbw], s.t, hT, h⟩
       | false => rw [hbw] at h; exact .inr ⟨by rw [hw, hbw], s.t, hT, h⟩
     · rename_i b hb;have hy := yv _ hb;have hv := hT d;rw [hb] at hv;have hv' := hv.bool_inv;have hw : Region.wanted o (yielded ops a.tmps) = (b == want) := by
        simp only [Region.wanted, hg, hy, SB.val];cases b <;> cases want <;> rfl
       cases b with
       | true =>
        have h1 := h.1 rfl;have hT' : TR x (putT s.t (some d) (.bool (.l true))) a := hT.refine (by rw [hv']; exact rel_bool _ _ rfl);cases want with
        | true => exact .inl ⟨hw, _, hT', h1⟩
        | false => exact .inr ⟨hw, _, hT', h1⟩
       | false =>
        have h1 := h.2 rfl;have hT' : TR x (putT s.t (some d) (.bool (.l false))) a := hT.refine (by rw [hv']; exact rel_bool _ _ rfl);cases want with
        | true => exact .inr ⟨hw, _, hT', h1⟩
        | false => exact .inl ⟨hw, _, hT', h1⟩
     · rename_i vs hb;have hv := hT d;rw [hb] at hv;have hy := sU hd' hv;exact .inr ⟨by simp only [Region.wanted, hg, hy]; rfl, s.t, hT, h⟩
     · exact h.elim
theorem TR.mono {x x' : X} (e : Ext x x') {tt : List (Nat × AV)} {a : Act} (h : TR x tt a) : TR x' tt a := fun t => (h t).mono e
theorem jN (hG : GOK P G) {I : X} {nt : Nat} {ops : Array Oper} {K : St → Prop} {Q : Exit → Act → World → Prop} (hQ : ∀ s μ a w, SR base O0 I nt s μ a w → K s → Q .normal a w) :
 ∀ (l : List Oper) (s : St) (μ : Nat → Nat) (a : Act) (w : World), (∀ o ∈ l, ∀ d, o.dst = some d → d < nt) → SR base O0 I nt s μ a w → yP (aB P) G ops.toList l K s → wpList P ops Q l a w
 | [], s, μ, a, w, _, R, h => hQ s μ a w R h
 | o :: l, s, μ, a, w, hd, R, h => by
  simp only [yP] at h;have hdo := hd o (by simp);unfold wpList;rcases guarded_sound R.tmps h with ⟨hw, t', hT', h1⟩ | ⟨hw, t', hT', h1⟩
  · rw [if_pos hw];refine .inl (Oper.wp_mono ?_ (xC hG R.hr (tt := t') (opd_rel hT' R.hr.glob) h1));rintro a' w' ⟨val, rfl, v, h', μ', hK, hv, hH, hX, hB⟩;refine jN hG hQ l _ μ' _ w' (fun o ho => hd o (by simp [ho])) ⟨by rw [iK]; exact R.size, by rw [put_defers]; exact R.defers, hH, ?_, R.ext.trans hX, R.below.trans hB⟩ hK;exact (hT'.mono hX).put hv (fun d e => by rw [R.size]; exact hdo d e)
  · rw [if_neg (by rw [hw]; simp)];exact jN hG hQ l ⟨putT t' o.dst (.tup []), s.h⟩ μ _ w (fun o ho => hd o (by simp [ho])) ⟨by rw [iK]; exact R.size, by rw [put_defers]; exact R.defers, R.hr, hT'.put (v := .tup []) (val := undef) yQ (fun d e => by rw [R.size]; exact hdo d e), R.ext, R.below⟩ h1
end
end
section
open Go Go.RowKit
section
variable {P : Program} {G : Nat → TI} {base : Nat} {O0 : Nat → Prop} {μ : Nat → Nat} {hp : List Blk} {w w' : World}
def Picks (f : (AV → Prop) → Prop) : Prop := ∀ K, f K → ∃ v, K v ∧ f (fun v' => v' = v)
theorem aP (v : AV) : Picks (fun K => K v) := fun K h => ⟨v, h, rfl⟩
theorem aD : Picks (fun _ => False) := fun K h => h.elim
theorem fM {b : SB} {f g : (AV → Prop) → Prop} (hf : Picks f) (hg : Picks g) : Picks (fun K => brB (aB P) b (fun _ => f K) (fun _ => g K)) := by
 intro K h;rcases brB_real h with ⟨h1, h2⟩ | ⟨h1, h2⟩
 · obtain ⟨v, q1, q2⟩ := hf K h2;refine ⟨v, q1, ?_⟩;cases b with
   | l b => cases b <;> simp_all [brB, SB.val]
   | s b => simp only [SB.val] at h1; subst h1; exact ⟨fun _ => q2, fun h => (by cases h)⟩
 · obtain ⟨v, q1, q2⟩ := hg K h2;refine ⟨v, q1, ?_⟩;cases b with
   | l b => cases b <;> simp_all [brB, SB.val]
   | s b => simp only [SB.val] at h1; subst h1; exact ⟨fun h => (by cases h), fun _ => q2⟩
theorem eY {a b : SI} {f : (AV → Prop) → Prop} (hf : Picks f) : Picks (fun K => siLe (aB P) a b (fun _ => f K)) := fM hf aD
theorem jC {a b : SI} {f : (AV → Prop) → Prop} (hf : Picks f) : Picks (fun K => siLt (aB P) a b (fun _ => f K)) := fM hf aD
theorem aY {b : Bool} {f g : (AV → Prop) → Prop} (hf : Picks f) (hg : Picks g) : Picks (fun K => bif b then f K else g K) := by
 cases b
 · exact hg
 · exact hf
theorem aGJ {c : AV} {f g : (AV → Prop) → Prop} (hf : Picks f) (hg : Picks g) : Picks (fun K => brAV (aB P) c (fun _ => f K) (fun _ => g K)) := by
 cases c <;> first | exact fM hf hg | exact aD
theorem mU {agg : Bool} {n : Nat} {cs : List AV} : Picks (fun K => sJ agg n cs K) := by
 unfold sJ;refine aY (aY (aP _) ?_) aD;split
 · exact aP _
 · exact aD
theorem aEX {t : Nat} {p : AV} : Picks (fun K => load (aB P) G hp t p K) := by
 unfold load;split
 · exact aD
 · unfold aBA;split
   · exact mU
   · split
     · exact aY (aP _) aD
     · exact mU
     · exact aD
   · exact aD
theorem aEG {ti : TI} {op : BinOp} {x y : AV} : Picks (fun K => binOp (aB P) ti op x y K) := by
 unfold binOp;split
 · split
   · exact fM aD (aP _)
   · exact fM aD (aP _)
   · exact aY (fM aD (aP _)) aD
   · exact aY (fM aD (aP _)) aD
   all_goals exact aY (aP _) aD
 · split
   · exact aP _
   · exact aP _
   · exact aD
 · split
   · refine aY ?_ aD;split
     · exact aP _
     · exact aP _
     · exact aD
   · exact aD
 · split
   · exact aP _
   · exact aP _
   · exact aD
 · exact aD
theorem aEV {op : UnOp} {x : AV} : Picks (fun K => unOp (aB P) op x K) := by
 unfold unOp;split
 · exact aP _
 · exact aP _
 · exact aP _
 · exact aD
theorem aEM {x : AV} {lo hi : SI} : Picks (fun K => aHM (aB P) x lo hi K) := by
 unfold aHM;split
 · exact aP _
 · split
   · exact aP _
   · exact aP _
 · exact aP _
 · exact aD
theorem aEB {t : Nat} {x : AV} {ρ : Operand → AV} {lo hi mx : Option Operand} : Picks (fun K => qV (aB P) G t x ρ lo hi mx K) := by
 unfold qV;refine aY ?_ aD;split
 · exact aD
 · split
   · split
     · exact eY (eY (eY aEM))
     · split
       · split
         · exact aP _
         · exact aD
       · exact aD
   · exact aD
theorem aCH {t : Nat} {n : SI} {x : AV} : Picks (fun K => aBK (aB P) G t n x K) := by
 unfold aBK;refine aY ?_ aD;split
 · exact eY (jC (aP _))
 · refine eY (jC ?_);split
   · exact aP _
   · exact aP _
 · exact eY (jC (aP _))
 · exact aD
theorem tL {t : Nat} {x i : AV} : Picks (fun K => fF (aB P) G hp t x i K) := by
 cases i <;> try exact aD
 cases x <;> dsimp only [fF] <;> try exact aCH
 · split
   · split
     · exact aD
     · split
       · refine aY (aY ?_ (aP _)) aD;split
         · exact aY (aP _) aD
         · exact aD
       · exact aD
   · exact aD
 · split
   · split
     · split
       · exact aY (eY (jC (aP _))) aD
       · exact aD
     · exact aD
   · exact aD
theorem xL {b : Builtin} {xs : List AV} {ts : List Nat} : Picks (fun K => kM (aB P) G b xs ts K) := by
 unfold kM;split
 · split
   · exact aY (aP _) aD
   · exact aD
 · refine aY ?_ aD;unfold maxI;exact fM (aP _) (aP _)
 · refine aY ?_ aD;unfold minI;exact fM (aP _) (aP _)
 · exact aD
theorem tI {ti : TI} {f : Nat} {a : AV} : Picks (fun K => iI ti f a K) := by
 unfold iI;split
 · split
   · exact aY (aP _) aD
   · exact aD
 · split
   · exact aY (aP _) aD
   · exact aD
 · exact aD
theorem aBC {ti : TI} {f : Nat} {a : AV} : Picks (fun K => qA ti f a K) := by
 unfold qA;split
 · split
   · exact aY mU aD
   · exact aD
 · exact aD
theorem lA {ρ : Operand → AV} {op : Op} : Picks (fun K => bO (aB P) G hp ρ op K) := by
 cases op <;> try exact aD
 case move y => exact aP _
 case assign y =>
  dsimp only [bO];split
  · exact aP _
  · exact aP _
 case pick c a b => exact aGJ (aP _) (aP _)
 case build t parts =>
  dsimp only [bO];split
  · refine aY ?_ aD;split
    · exact aP _
    · exact aD
  · exact aD
 case buildSlice t n parts =>
  dsimp only [bO];split
  · generalize G _ = ge;obtain ⟨k, sz, by2, z2, fl2⟩ := ge;dsimp only;split
    · refine aY ?_ aD;cases k with
      | int kk =>
       dsimp only;split
       · exact aP _
       · exact aD
      | oth => exact aD
      | _ => exact aY (aY (aP _) (aP _)) aD
    · exact aD
  · exact aD
 case load t a => exact aEX
 case binOp op t a b t2 => exact aEG
 case unOp op t a => exact aEV
 case convert src dst a =>
  dsimp only [bO];split
  · exact aP _
  · exact aD
 case makeFunc fn first caps =>
  dsimp only [bO];split
  · exact aY (aP _) aD
  · split
    · exact aY (aP _) aD
    · exact aD
  · exact aD
 case slice t a lo hi mx => exact aEB
 case fieldAddr t a f => exact tI
 case field t a f => exact aBC
 case indexAddr t a i => exact tL
 case index t a i =>
  dsimp only [bO];split
  · exact eY (jC (aP _))
  · exact aD
 case nilCheck a =>
  dsimp only [bO];split
  · exact aP _
  · exact aP _
  · exact aD
 case extract a i =>
  dsimp only [bO];split
  · split
    · exact aP _
    · exact aD
  · exact aD
 case call c =>
  obtain ⟨callee, args, ts⟩ := c;cases callee with
  | value f =>
   dsimp only [bO];split
   · rintro K ⟨r, hK, h1, h2⟩;exact ⟨r, hK, r, rfl, h1, h2⟩
   · exact aD
  | invoke recv name => exact aD
  | builtin b => exact xL
def Alike (t t' : List (Nat × AV)) (u : Nat) : Prop := ∀ (x : X) (v : Value), RelV x (lookT t u) v ↔ RelV x (lookT t' u) v
theorem lookT_put_ne {t : List (Nat × AV)} {d : Option Nat} {v : AV} {u : Nat} (h : d ≠ some u) : lookT (putT t d v) u = lookT t u := by
 cases d with
 | none => rfl
 | some d =>
  simp only [putT, lookT];cases hb : Nat.beq d u with
  | true => exact absurd (by rw [Ad hb]) h
  | false => rfl
theorem dF {t : List (Nat × AV)} {d : Nat} {v : AV} : lookT (putT t (some d) v) d = v := by
 simp only [putT, lookT, Nat.beq_refl, cond_true]
theorem aAF {t : List (Nat × AV)} {d : Nat} {b : Bool} (h : lookT t d = .bool (.s b)) (u : Nat) : Alike t (putT t (some d) (.bool (.l b))) u := by
 intro x v;by_cases hu : d = u
 · subst hu;rw [dF, h];constructor
   · intro h1; rw [h1.bool_inv]; exact rel_bool _ _ rfl
   · intro h1; rw [h1.bool_inv]; exact rel_bool _ _ rfl
 · rw [lookT_put_ne (by intro e; injection e with e; exact hu e)]
inductive Path (P : Program) (G : Nat → TI) (hp : List Blk) (ops : Array Oper) : List Oper → List (Nat × AV) → List (Nat × AV) → Prop
 | nil (t : List (Nat × AV)) : Path P G hp ops [] t t
 | go (o : Oper) (r : List Oper) (t t1 t2 : List (Nat × AV)) (v : AV) (hA : ∀ u, Alike t t1 u) (hW : ∀ (x : X) (a : Act), (∀ u, u ∈ o.looksAt ops → RelV x (lookT t1 u) (a.tmps.getD u undef)) → Region.wanted o (yielded ops a.tmps) = true)
  (hv : bO (aB P) G hp (opd t1) o.op (fun v' => v' = v)) (hr : Path P G hp ops r (putT t1 o.dst v) t2) : Path P G hp ops (o :: r) t t2
 | skip (o : Oper) (r : List Oper) (t t1 t2 : List (Nat × AV)) (hA : ∀ u, Alike t t1 u) (hW : ∀ (x : X) (a : Act), (∀ u, u ∈ o.looksAt ops → RelV x (lookT t1 u) (a.tmps.getD u undef)) → Region.wanted o (yielded ops a.tmps) = false)
  (hr : Path P G hp ops r (putT t1 o.dst (.tup [])) t2) : Path P G hp ops (o :: r) t t2
theorem yS {ops : Array Oper} {o : Oper} {j d : Nat} {want : Bool} (hg : o.guard = some (j, want)) (hd : (ops[j]?).bind (·.dst) = some d) {t : List (Nat × AV)} {b : SB} (hb : lookT t d = .bool b) :
 ∀ (x : X) (a : Act), (∀ u, u ∈ o.looksAt ops → RelV x (lookT t u) (a.tmps.getD u undef)) → Region.wanted o (yielded ops a.tmps) = (b.val == want) := by
 intro x a h;have hv := h d (by simp [Oper.looksAt, hg, hd]);rw [hb] at hv;have hv' := hv.bool_inv;have hdl : d < a.tmps.size := by
  rcases Ar d a.tmps.size with h1 | h1
  · exact h1
  · rw [Array.getD_eq_getD_getElem?, Array.getElem?_eq_none h1] at hv';cases hv'
 have h2 : a.tmps[d]? = some (.bool b.val) := by
  rw [bU hdl, hv']
 simp only [Region.wanted, hg, yielded, hd, Option.bind_some, h2];cases b.val <;> cases want <;> rfl
theorem kZ {ops : Array Oper} : ∀ (l : List Oper) (K : St → Prop) (t : List (Nat × AV)), oF (aB P) G ops.toList l K ⟨t, hp⟩ → ∃ t2, Path P G hp ops l t t2 ∧ K ⟨t2, hp⟩
 | [], K, t, h => ⟨t, .nil t, h⟩
 | o :: r, K, t, h => by
  simp only [oF, guarded] at h;have goes : ∀ t1, (∀ u, Alike t t1 u) → (∀ (x : X) (a : Act), (∀ u, u ∈ o.looksAt ops → RelV x (lookT t1 u) (a.tmps.getD u undef)) → Region.wanted o (yielded ops a.tmps) = true) →
   bO (aB P) G hp (opd t1) o.op (fun v => oF (aB P) G ops.toList r K ⟨putT t1 o.dst v, hp⟩) → ∃ t2, Path P G hp ops (o :: r) t t2 ∧ K ⟨t2, hp⟩ := by
   intro t1 hA hW h;obtain ⟨v, h1, h2⟩ := lA _ h;obtain ⟨t2, p1, p2⟩ := kZ r K _ h1;exact ⟨t2, .go o r t t1 t2 v hA hW h2 p1, p2⟩
  have skips : ∀ t1, (∀ u, Alike t t1 u) → (∀ (x : X) (a : Act), (∀ u, u ∈ o.looksAt ops → RelV x (lookT t1 u) (a.tmps.getD u undef)) → Region.wanted o (yielded ops a.tmps) = false) →
   oF (aB P) G ops.toList r K ⟨putT t1 o.dst (.tup []), hp⟩ → ∃ t2, Path P G hp ops (o :: r) t t2 ∧ K ⟨t2, hp⟩ := by
   intro t1 hA hW h;obtain ⟨t2, p1, p2⟩ := kZ r K _ h;exact ⟨t2, .skip o r t t1 t2 hA hW p1, p2⟩
  split at h
  · rename_i hg;exact goes t (fun u x v => Bs) (fun x a _ => by simp [Region.wanted, hg]) h
  · rename_i j want hg;split at h
    · exact h.elim
    · rename_i d hd;rw [nthO_eq] at hd;have hd' : (ops[j]?).bind (·.dst) = some d := by simpa using hd
      split at h
      · rename_i b hb;have hW := yS hg hd' hb;cases hbw : b == want with
        | true => rw [hbw] at h; exact goes t (fun u x v => Bs) (fun x a h1 => by rw [hW x a h1]; exact hbw) h
        | false => rw [hbw] at h; exact skips t (fun u x v => Bs) (fun x a h1 => by rw [hW x a h1]; exact hbw) h
      · rename_i b hb;have hA := aAF hb;have hb2 : lookT (putT t (some d) (.bool (.l b))) d = .bool (.l b) := dF;have hW := yS hg hd' hb2;cases b with
        | true =>
         have h1 := h.1 rfl;cases want with
         | true => exact goes _ hA (fun x a h2 => hW x a h2) h1
         | false => exact skips _ hA (fun x a h2 => hW x a h2) h1
        | false =>
         have h1 := h.2 rfl;cases want with
         | true => exact skips _ hA (fun x a h2 => hW x a h2) h1
         | false => exact goes _ hA (fun x a h2 => hW x a h2) h1
      · rename_i vs hb;refine skips t (fun u x v => Bs) (fun x a h1 => ?_) h;have hv := h1 d (by simp [Oper.looksAt, hg, hd']);rw [hb] at hv;have hy := sU hd' hv;simp only [Region.wanted, hg, hy];rfl
      · exact h.elim
theorem jI {ops : Array Oper} {l : List Oper} {t t2 : List (Nat × AV)} (h : Path P G hp ops l t t2) : ∀ u, (∀ o ∈ l, o.dst ≠ some u) → Alike t t2 u := by
 induction h with
 | nil t => intro u _ x v; exact Bs
 | go o r t t1 t2 v hA hW hv hr ih =>
  intro u hu x val;have h1 := hA u x val;have h2 := ih u (fun o ho => hu o (by simp [ho])) x val;rw [lookT_put_ne (hu o (by simp))] at h2;exact h1.trans h2
 | skip o r t t1 t2 hA hW hr ih =>
  intro u hu x val;have h1 := hA u x val;have h2 := ih u (fun o ho => hu o (by simp [ho])) x val;rw [lookT_put_ne (hu o (by simp))] at h2;exact h1.trans h2
end
end
section
open Go Go.RowKit
section
variable {P : Program} {G : Nat → TI} {base : Nat} {O0 : Nat → Prop} {μ : Nat → Nat} {hp : List Blk} {w w' : World}
def aGR (ops : Array Oper) (n : Nat) : Bool :=
 (List.range ops.size).all (fun i => match ops[i]? with
   | some o => o.after.toList.all (fun e => !Region.binds .any e || decide (e.on < i))
   | none => true) &&
 (List.range n).all (fun i => match ops[i]? with
   | some o => (List.range n).all (fun j => match ops[j]? with
     | some o' => (decide (i = j) || o.dst.isNone || decide (o.dst ≠ o'.dst)) &&
         (o.looksAt ops).all (fun u => decide (o'.dst ≠ some u) || Region.waitsFor .any ops i j)
     | none => true)
   | none => true) &&
 decide (n ≤ ops.size) &&
 (decide (n = ops.size) || (Region.sinkB .any ops n && Region.chainB .any ops n)) &&
 Region.seqB .any ops (ops.size - n) n ((Array.range ops.size).map (fun i => decide (i < n)))
structure aMC (ops : Array Oper) (n : Nat) : Prop where
 back : ∀ (i : Nat) (o : Oper), ops[i]? = some o → ∀ e ∈ o.after, Region.binds .any e = true → e.on < i
 apart : ∀ (i j : Nat) (o o' : Oper), i < n → j < n → ops[i]? = some o → ops[j]? = some o' → i ≠ j → ∀ d, o.dst = some d → o'.dst ≠ some d
 looks : ∀ (i j : Nat) (o o' : Oper), i < n → j < n → ops[i]? = some o → ops[j]? = some o' → ∀ u ∈ o.looksAt ops, o'.dst = some u → Region.waitsFor .any ops i j = true
 le : n ≤ ops.size
 tail : n = ops.size ∨ (Region.sinkB .any ops n = true ∧ Region.chainB .any ops n = true)
 seq : Region.seqB .any ops (ops.size - n) n ((Array.range ops.size).map (fun i => decide (i < n))) = true
theorem aIY {ops : Array Oper} {n : Nat} (h : aGR ops n = true) : aMC ops n := by
 simp only [aGR, Aj, List.all_eq_true, Bl, Ab, Db] at h;obtain ⟨⟨⟨⟨h1, h2⟩, h3⟩, h4⟩, h5⟩ := h;refine ⟨fun i o ho e he hbi => ?_, fun i j o o' hi hj ho ho' hne d hd hd' => ?_, fun i j o o' hi hj ho ho' u hu hd => ?_, h3, h4, h5⟩
 · have hlt := (Array.getElem?_eq_some_iff.1 ho).1;have := h1 i hlt;rw [ho] at this;simp only [List.all_eq_true, Ab, Db, Dl] at this;rcases this e (by simpa using he) with h | h
   · rw [hbi] at h; cases h
   · exact h
 · have := h2 i hi;rw [ho] at this;simp only [List.all_eq_true, Bl] at this;have := this j hj;rw [ho'] at this;simp only [Aj, Db, Ab] at this;rcases this.1 with (h | h) | h
   · exact hne h
   · rw [hd] at h; cases h
   · exact h (by rw [hd, hd'])
 · have := h2 i hi;rw [ho] at this;simp only [List.all_eq_true, Bl] at this;have := this j hj;rw [ho'] at this;simp only [Aj, Db, Ab, List.all_eq_true] at this;rcases this.2 u hu with h | h
   · exact absurd hd h
   · exact h
def Does (P : Program) (base : Nat) (O0 : Nat → Prop) (μ : Nat → Nat) (hp : List Blk) (ops : Array Oper) (o : Oper) (t2 : List (Nat × AV)) : Prop :=
 ∀ (w : World) (a : Act), HR base O0 μ hp w → (∀ u, u ∈ o.looksAt ops → RelV (mkX base O0 μ hp w) (lookT t2 u) (a.tmps.getD u undef)) →
  (Region.wanted o (yielded ops a.tmps) = true ∧ ∀ (Q : Exit → Act → World → Prop), o.wp P a w (fun a' w' => ∃ val, a' = a.put o.dst val ∧ Below w.heap.size w w' ∧ ∀ d, o.dst = some d → RelV (mkX base O0 μ hp w') (lookT t2 d) val) Q) ∨
  (Region.wanted o (yielded ops a.tmps) = false ∧ ∀ d, o.dst = some d → RelV (mkX base O0 μ hp w) (lookT t2 d) undef)
theorem jH {x : X} {ops : Array Oper} {o : Oper} {t : List (Nat × AV)} {a : Act} (h : ∀ u, u ∈ o.looksAt ops → RelV x (lookT t u) (a.tmps.getD u undef)) (hgl : nW x.O x.w) : ∀ y, y ∈ o.op.operands.toList → RelV x (opd t y) (a.eval y) := by
 intro y hy;cases y with
 | tmp u =>
  refine h u ?_;simp only [Oper.looksAt, List.mem_append, List.mem_filterMap];exact .inl ⟨_, hy, rfl⟩
 | const v => exact tE v
 | global g => exact aBG hgl g
 | func f => exact ⟨#[], rfl, rfl, fun j c hj => by simp at hj⟩
theorem aJB (hG : GOK P G) {ops : Array Oper} {l : List Oper} {t t2 : List (Nat × AV)} (h : Path P G hp ops l t t2) :
 (∀ (i j : Nat) (o o' : Oper), l[i]? = some o → l[j]? = some o' → i ≤ j → ∀ u ∈ o.looksAt ops, o'.dst ≠ some u) →
 (∀ (i j : Nat) (o o' : Oper), l[i]? = some o → l[j]? = some o' → i < j → ∀ d, o.dst = some d → o'.dst ≠ some d) →
 ∀ (i : Nat) (o : Oper), l[i]? = some o → Does P base O0 μ hp ops o t2 := by
 induction h with
 | nil t => intro _ _ i o hi; simp at hi
 | go o r t t1 t2 v hA hW hv hr ih =>
  intro s1 s2 i o' hi;cases i with
  | succ i => exact ih (fun i j a b h1 h2 h3 => s1 (i + 1) (j + 1) a b (by simpa using h1) (by simpa using h2) (by omega)) (fun i j a b h1 h2 h3 => s2 (i + 1) (j + 1) a b (by simpa using h1) (by simpa using h2) (by omega)) i o' (by simpa using hi)
  | zero =>
   simp at hi;subst hi;have hlook : ∀ u, u ∈ o.looksAt ops → Alike t1 t2 u := by
    intro u hu;have h1 := jI hr u (fun o' ho' => by
      obtain ⟨j, hj⟩ := List.getElem?_of_mem ho';exact s1 0 (j + 1) o o' rfl (by simpa using hj) (by omega) u hu)
    intro x val;have := h1 x val;rwa [lookT_put_ne (s1 0 0 o o rfl rfl (Ba _) u hu)] at this
   intro w a H hrel;have hrel1 : ∀ u, u ∈ o.looksAt ops → RelV (mkX base O0 μ hp w) (lookT t1 u) (a.tmps.getD u undef) := fun u hu => ((hlook u hu) _ _).2 (hrel u hu)
   refine .inl ⟨hW _ a hrel1, fun Q => ?_⟩;have hdst : ∀ d, o.dst = some d → ∀ (x : X) (val : Value), RelV x v val → RelV x (lookT t2 d) val := by
    intro d hd x val hval;have h1 := jI hr d (fun o' ho' => by
      obtain ⟨j, hj⟩ := List.getElem?_of_mem ho';exact s2 0 (j + 1) o o' rfl (by simpa using hj) (by omega) d hd)
    have := h1 x val;rw [hd, dF] at this;exact this.1 hval
   obtain ⟨v', rfl, hout⟩ := gN hG H (ev := a.eval) (jH hrel1 H.glob) hv;rcases hout with ⟨val, w', h1, h2, h3⟩ | ⟨f, args, h1, h2⟩
   · exact wp_value h1 ⟨val, rfl, h2, fun d hd => hdst d hd _ _ h3⟩
   · unfold Oper.wp;rw [h1];refine h2.mono ?_;rintro e w' ⟨val, rfl, hb, hv⟩;exact ⟨val, rfl, hb, fun d hd => hdst d hd _ _ hv⟩
 | skip o r t t1 t2 hA hW hr ih =>
  intro s1 s2 i o' hi;cases i with
  | succ i => exact ih (fun i j a b h1 h2 h3 => s1 (i + 1) (j + 1) a b (by simpa using h1) (by simpa using h2) (by omega)) (fun i j a b h1 h2 h3 => s2 (i + 1) (j + 1) a b (by simpa using h1) (by simpa using h2) (by omega)) i o' (by simpa using hi)
  | zero =>
   simp at hi;subst hi;have hlook : ∀ u, u ∈ o.looksAt ops → Alike t1 t2 u := by
    intro u hu;have h1 := jI hr u (fun o' ho' => by
      obtain ⟨j, hj⟩ := List.getElem?_of_mem ho';exact s1 0 (j + 1) o o' rfl (by simpa using hj) (by omega) u hu)
    intro x val;have := h1 x val;rwa [lookT_put_ne (s1 0 0 o o rfl rfl (Ba _) u hu)] at this
   intro w a H hrel;have hrel1 : ∀ u, u ∈ o.looksAt ops → RelV (mkX base O0 μ hp w) (lookT t1 u) (a.tmps.getD u undef) := fun u hu => ((hlook u hu) _ _).2 (hrel u hu)
   refine .inr ⟨hW _ a hrel1, fun d hd => ?_⟩;have h1 := jI hr d (fun o' ho' => by
     obtain ⟨j, hj⟩ := List.getElem?_of_mem ho';exact s2 0 (j + 1) o o' rfl (by simpa using hj) (by omega) d hd)
   have := h1 (mkX base O0 μ hp w) undef;rw [hd, dF] at this;exact this.1 yQ
structure Mid (base : Nat) (O0 : Nat → Prop) (I : X) (nt : Nat) (ops : Array Oper) (n : Nat) (hp : List Blk) (μ : Nat → Nat) (t2 : List (Nat × AV)) (listed : Array Bool) (a : Act) (w : World) : Prop where
 size : a.tmps.size = nt
 defers : a.defers = []
 hr : HR base O0 μ hp w
 tmps : ∀ u, (∀ i o, i < n → ops[i]? = some o → o.dst = some u → listed.getD i false = true) → RelV (mkX base O0 μ hp w) (lookT t2 u) (a.tmps.getD u undef)
 ext : Ext I (mkX base O0 μ hp w)
 below : Below base I.w w
theorem aRY {I : X} {nt : Nat} {ops : Array Oper} {n : Nat} (D : aMC ops n) {t2 : List (Nat × AV)} (hdo : ∀ i o, i < n → ops[i]? = some o → Does P base O0 μ hp ops o t2)
 (hd : ∀ i o, i < n → ops[i]? = some o → ∀ d, o.dst = some d → d < nt) {Q : Exit → Act → World → Prop}
 (hend : ∀ a w, SR base O0 I nt ⟨t2, hp⟩ μ a w → wpAny P .any ops Q (ops.size - n) ((Array.range ops.size).map (fun i => decide (i < n))) a w) :
 ∀ (f : Nat) (listed : Array Bool) (a : Act) (w : World), ((List.range n).filter (fun i => !listed.getD i false)).length = f → HeadInv .any ops n listed → Mid base O0 I nt ops n hp μ t2 listed a w →
  wpAny P .any ops Q (f + (ops.size - n)) listed a w := by
 intro f;induction f with
 | zero =>
  intro listed a w hf inv M;have hall : ∀ i, i < n → listed.getD i false = true := by
   intro i hi;have h0 : (List.range n).filter (fun i => !listed.getD i false) = [] := List.length_eq_zero_iff.1 hf;rw [List.filter_eq_nil_iff] at h0;have := h0 i (Bl.2 hi)
   simpa using this
  have hl : listed = (Array.range ops.size).map (fun i => decide (i < n)) := by
   apply Array.ext
   · simp [inv.size]
   · intro i h1 h2;have hi : i < ops.size := by rw [← inv.size]; exact h1
     simp only [Array.getElem_map, Array.getElem_range];by_cases hin : i < n
     · have := hall i hin;rw [Array.getD_eq_getD_getElem?, Array.getElem?_eq_getElem h1] at this;rw [Au hin];exact this
     · have := inv.tail i (by omega) hi;rw [Array.getD_eq_getD_getElem?, Array.getElem?_eq_getElem h1] at this;rw [Az hin];exact this
  rw [Be, hl];exact hend a w ⟨M.size, M.defers, M.hr, fun u => M.tmps u (fun i o hi _ _ => hall i hi), M.ext, M.below⟩
 | succ f ih =>
  intro listed a w hf inv M;rw [show f + 1 + (ops.size - n) = (f + (ops.size - n)) + 1 by omega];have hne : (List.range n).filter (fun i => !listed.getD i false) ≠ [] := by intro h; rw [h] at hf; simp at hf
  obtain ⟨i0, hi0, hun0⟩ : ∃ i, i < n ∧ listed.getD i false = false := by
   obtain ⟨i, hi⟩ := List.exists_mem_of_ne_nil _ hne;rw [List.mem_filter, Bl] at hi;exact ⟨i, hi.1, by simpa using hi.2⟩
  have toT : ∀ i, i < n → listed.getD i false = false → listed.getD i true = false := fun i hi h => getD_in (by rw [inv.size]; have := D.le; omega) h
  have least : ∃ i, i < n ∧ i ∈ Region.ready .any ops listed := by
   have : ∀ k, k < n → listed.getD k false = false → ∃ i, i < n ∧ i ∈ Region.ready .any ops listed := by
    intro k;induction k using Nat.strongRecOn with
    | _ k ihk =>
     intro hk hun;have hks : k < ops.size := by have := D.le; omega
     by_cases hb : ∃ e ∈ (ops[k]).after, Region.binds .any e = true ∧ listed.getD e.on false = false
     · obtain ⟨e, he, hb1, hb2⟩ := hb;have := D.back k ops[k] (Array.getElem?_eq_getElem hks) e he hb1;exact ihk e.on this (by omega) hb2
     · refine ⟨k, hk, mem_ready.2 ⟨toT k hk hun, ops[k], Array.getElem?_eq_getElem hks, fun e he hb1 => ?_⟩⟩;cases hl : listed.getD e.on false with
       | true => rfl
       | false => exact absurd ⟨e, he, hb1, hl⟩ hb
   exact this i0 hi0 hun0
  refine ⟨fun h => ?_, fun i hi => ?_⟩
  · obtain ⟨i, _, hi⟩ := least;rw [h] at hi;cases hi
  · obtain ⟨hun, o, ho, hall⟩ := mem_ready.1 hi;have hil : i < ops.size := (Array.getElem?_eq_some_iff.1 ho).1;have hin : i < n := by
     rcases Ar i n with h | h
     · exact h
     · exfalso;rcases D.tail with ht | ⟨hs, hc⟩
       · omega
       · exact tail_waits hs hc (by omega) inv _ i0 rfl hi0 (toT i0 hi0 hun0) i h hi
    have hrel : ∀ u, u ∈ o.looksAt ops → RelV (mkX base O0 μ hp w) (lookT t2 u) (a.tmps.getD u undef) := by
     intro u hu;refine M.tmps u (fun j o' hj ho' hd' => ?_);obtain ⟨oj, hoj, e, he, hb, hon⟩ := Region.waitsFor_spec (D.looks i j o o' hin hj ho ho' u hu hd');have : oj = o := Option.some.inj (hoj.symm.trans ho);subst this;have := hall e he hb;rwa [hon] at this
    have hcount : ((List.range n).filter (fun j => !(listed.setIfInBounds i true).getD j false)).length = f := by
     have hnd : (List.range n).Nodup := List.nodup_range;have hmem : i ∈ (List.range n).filter (fun j => !listed.getD j false) := by
      rw [List.mem_filter, Bl];exact ⟨hin, by rw [getD_both hun]; rfl⟩
     have hsub : (List.range n).filter (fun j => !(listed.setIfInBounds i true).getD j false) = ((List.range n).filter (fun j => !listed.getD j false)).erase i := by
      rw [List.Nodup.erase_eq_filter (hnd.filter _), List.filter_filter];apply List.filter_congr;intro j hj;by_cases hji : i = j
      · subst hji;have : (listed.setIfInBounds i true).getD i false = true := by
         have : i < listed.size := by rw [inv.size]; exact hil
         simp [this]
        rw [this];simp
      · rw [getD_set_ne false hji];simp [show j ≠ i from fun e => hji e.symm]
     rw [hsub, List.length_erase_of_mem hmem, hf];rfl
    have inv' := inv.set hi hin;have next : ∀ (val : Value) (w' : World), Below w.heap.size w w' → (∀ d, o.dst = some d → RelV (mkX base O0 μ hp w') (lookT t2 d) val) →
     wpAny P .any ops Q (f + (ops.size - n)) (listed.setIfInBounds i true) (a.put o.dst val) w' := by
     intro val w' hb hv;have ex := Ext.grow (O0 := O0) (μ := μ) (hp := hp) M.hr.all hb;refine ih _ _ w' hcount inv' ⟨by rw [iK]; exact M.size, by rw [put_defers]; exact M.defers, M.hr.grow hb, fun u hu => ?_, M.ext.trans ex, M.below.trans (hb.mono M.hr.all)⟩;by_cases hdu : o.dst = some u
     · have hlt : u < a.tmps.size := by rw [M.size]; exact hd i o hin ho u hdu
       have : (a.put o.dst val).tmps.getD u undef = val := by
        rw [hdu];simp [Act.put, Array.getD_eq_getD_getElem?, hlt]
       rw [this];exact hv u hdu
     · have : (a.put o.dst val).tmps.getD u undef = a.tmps.getD u undef := by
        cases hdst : o.dst with
        | none => rfl
        | some d =>
         have hne : d ≠ u := fun e => hdu (by rw [hdst, e])
         simp [Act.put, Array.getD_eq_getD_getElem?, Array.getElem?_setIfInBounds_ne hne]
       rw [this];refine (M.tmps u (fun j o' hj ho' hd' => ?_)).mono ex;have h1 := hu j o' hj ho' hd';by_cases hij : i = j
       · subst hij;have : o' = o := Option.some.inj (ho'.symm.trans ho);subst this;exact absurd hd' hdu
       · rwa [getD_set_ne false hij] at h1
    unfold wpOp;simp only [ho];rcases hdo i o hin ho w a M.hr hrel with ⟨hw, hwp⟩ | ⟨hw, hun2⟩
    · rw [if_pos hw];refine .inl (Oper.wp_mono ?_ (hwp Q));rintro a' w' ⟨val, rfl, hb, hv⟩;exact next val w' hb hv
    · rw [if_neg (by rw [hw]; simp)];exact next undef w (Below.refl _ _) hun2
end
end
section
open Go Go.RowKit
theorem aKI {α : Type} {p : α → Bool} {l : List α} : anyB p l = true ↔ ∃ x ∈ l, p x = true := by
 induction l with
 | nil => simp [anyB]
 | cons a r ih =>
  simp only [anyB, List.mem_cons, exists_eq_or_imp];cases h : p a <;> simp [ih]
def AV.no1 (s : Nat) : AV → Prop
 | .ms b _ _ _ => b ≠ s
 | .ptr b _ _ _ => b ≠ s
 | _ => True
def AV.noA (s : Nat) : AV → Prop
 | .agg cs => ∀ c ∈ cs, AV.no1 s c
 | .fn _ cs => ∀ c ∈ cs, AV.no1 s c
 | c => AV.no1 s c
def AV.no (s : Nat) : AV → Prop
 | .tup cs => ∀ c ∈ cs, AV.noA s c
 | c => AV.noA s c
def Blk.no (s : Nat) : Blk → Prop
 | .rows _ _ _ l => ∀ r ∈ l, ∀ a ∈ r, AV.no1 s a
 | _ => True
theorem AV.no1_of_old {n s : Nat} {c : AV} (h : c.old1 n = true) (hs : n ≤ s) : c.no1 s := by
 cases c <;> try trivial
 · have := An h; show _ ≠ s; omega
 · have := An h; show _ ≠ s; omega
theorem AV.wP {n s : Nat} {c : AV} (h : c.oldA n = true) (hs : n ≤ s) : c.noA s := by
 cases c with
 | agg cs => simp only [AV.oldA, allB_eq, List.all_eq_true] at h; exact fun c hc => AV.no1_of_old (h c hc) hs
 | fn f cs => simp only [AV.oldA, allB_eq, List.all_eq_true] at h; exact fun c hc => AV.no1_of_old (h c hc) hs
 | _ => simp only [AV.oldA] at h; simp only [AV.noA]; exact AV.no1_of_old h hs
theorem AV.aJS {n s : Nat} {c : AV} (h : c.old n = true) (hs : n ≤ s) : c.no s := by
 cases c with
 | tup cs => simp only [AV.old, allB_eq, List.all_eq_true] at h; exact fun c hc => AV.wP (h c hc) hs
 | _ => simp only [AV.old] at h; simp only [AV.no]; exact AV.wP h hs
theorem LeafR.no {x : X} {c : AV} {v : Value} (h : LeafR x c v) {s : Nat} (hs : x.h.length ≤ s) : c.no1 s := by
 cases c <;> try trivial
 · have := h.1; show _ ≠ s; omega
 · have := h.1; show _ ≠ s; omega
theorem AggR.no {x : X} {c : AV} {v : Value} (h : AggR x c v) {s : Nat} (hs : x.h.length ≤ s) : c.noA s := by
 cases c with
 | agg cs =>
  obtain ⟨ys, _, _, h⟩ := h;intro c hc;obtain ⟨j, hj⟩ := List.getElem?_of_mem hc;exact (h j c hj).no hs
 | fn f cs =>
  obtain ⟨ys, _, _, h⟩ := h;intro c hc;obtain ⟨j, hj⟩ := List.getElem?_of_mem hc;exact (h j c hj).no hs
 | _ => simp only [AggR] at h; simp only [AV.noA]; exact LeafR.no h hs
theorem RelV.no {x : X} {c : AV} {v : Value} (h : RelV x c v) {s : Nat} (hs : x.h.length ≤ s) : c.no s := by
 cases c with
 | tup cs =>
  obtain ⟨ys, _, _, h⟩ := h;intro c hc;obtain ⟨j, hj⟩ := List.getElem?_of_mem hc;exact (h j c hj).no hs
 | _ => simp only [RelV] at h; simp only [AV.no]; exact AggR.no h hs
structure pA (s : Nat) (x x' : X) : Prop where
 o : ∀ n, x.O n → x'.O n
 mu : ∀ b, b ≠ s → b < x.h.length → x'.μ b = x.μ b
 len : x.h.length ≤ x'.h.length
 dim : ∀ b, b ≠ s → b < x.h.length → ∀ n, dimB x'.h b = some n → dimB x.h b = some n
 cell : ∀ a v, x.O a.block → x.w.cell? a = some v → x'.w.cell? a = some v
 shape : ∀ r s, x.w.shape? r = some s → x'.w.shape? r = some s
theorem LeafR.iN {s : Nat} {x x' : X} (e : pA s x x') {c : AV} {v : Value} (h : LeafR x c v) (hn : c.no1 s) : LeafR x' c v := by
 unfold LeafR at *
 split
 · have hne : _ ≠ s := hn;obtain ⟨hb, h0, h1, A, cap, rfl, hle, hA, hd⟩ := h;refine ⟨Av hb e.len, h0, h1, A, cap, rfl, hle, by rw [e.mu _ hne hb]; exact hA, fun n s hn => ?_⟩;obtain ⟨a1, a2, e1, m, a3, a4⟩ := hd n s (e.dim _ hne hb _ hn);exact ⟨a1, a2, e1, m, by rw [e.mu _ hne hb]; exact e.shape _ _ a3, a4⟩
 · have hne : _ ≠ s := hn;obtain ⟨hb, h0, rfl, hd⟩ := h;exact ⟨Av hb e.len, h0, by rw [e.mu _ hne hb], fun n s hn => hd n s (e.dim _ hne hb _ hn)⟩
 · rename_i c h1 h2;exact RoV.mono e.o e.cell (by split at h <;> first | exact h | (exfalso; first | exact h1 _ _ _ _ rfl | exact h2 _ _ _ _ rfl))
theorem AggR.iN {s : Nat} {x x' : X} (e : pA s x x') {c : AV} {v : Value} (h : AggR x c v) (hn : c.noA s) : AggR x' c v := by
 cases c with
 | agg cs =>
  obtain ⟨ys, rfl, hl, h⟩ := h;exact ⟨ys, rfl, hl, fun j c hj => (h j c hj).iN e (hn c (List.mem_of_getElem? hj))⟩
 | fn f cs =>
  obtain ⟨ys, rfl, hl, h⟩ := h;exact ⟨ys, rfl, hl, fun j c hj => (h j c hj).iN e (hn c (List.mem_of_getElem? hj))⟩
 | _ => simp only [AggR] at h ⊢; simp only [AV.noA] at hn; exact LeafR.iN e h hn
theorem RelV.iN {s : Nat} {x x' : X} (e : pA s x x') {c : AV} {v : Value} (h : RelV x c v) (hn : c.no s) : RelV x' c v := by
 cases c with
 | tup cs =>
  obtain ⟨ys, rfl, hl, h⟩ := h;exact ⟨ys, rfl, hl, fun j c hj => (h j c hj).iN e (hn c (List.mem_of_getElem? hj))⟩
 | _ => simp only [RelV] at h ⊢; simp only [AV.no] at hn; exact AggR.iN e h hn
theorem BlkR.iN {s : Nat} {x x' : X} (e : pA s x x') {g : Nat} (hg : x'.w.heap[g]? = x.w.heap[g]?) {b : Blk} (h : BlkR x g b) (hn : b.no s) : BlkR x' g b := by
 cases b with
 | dead => trivial
 | ints wr k l => obtain ⟨c, e1, h1, h2⟩ := h; exact ⟨c, e1, hg.trans h1, h2⟩
 | rows wr sz d l =>
  obtain ⟨h0, c, e1, h1, h2⟩ := h;exact ⟨h0, c, e1, hg.trans h1, fun i r hi => ⟨(h2 i r hi).1, fun j a hj => by
    obtain ⟨y, q1, q2⟩ := (h2 i r hi).2 j a hj;exact ⟨y, q1, q2.iN e (hn r (List.mem_of_getElem? hi) a (List.mem_of_getElem? hj))⟩⟩⟩
section
variable {P : Program} {G : Nat → TI} {base : Nat} {O0 : Nat → Prop} {μ : Nat → Nat} {hp : List Blk} {w w' : World}
theorem HR.no (H : HR base O0 μ hp w) {b : Nat} {x : Blk} (hb : hp[b]? = some x) {s : Nat} (hs : hp.length ≤ s) : x.no s := by
 have := H.blk b x hb;cases x with
 | dead => trivial
 | ints wr k l => trivial
 | rows wr sz d l =>
  obtain ⟨_, c, e, _, h⟩ := this;intro r hr a ha;obtain ⟨i, hi⟩ := List.getElem?_of_mem hr;obtain ⟨j, hj⟩ := List.getElem?_of_mem ha;obtain ⟨y, _, q⟩ := (h i r hi).2 j a hj;exact LeafR.no q hs
theorem pL {h : List Blk} {s b : Nat} {x : Blk} (hs : s < h.length) : dimB (h.set s x) b = if b = s then x.dim else dimB h b := by
 unfold dimB;by_cases e : b = s
 · subst e; simp [hs]
 · rw [if_neg e, List.getElem?_set_ne (Ne.symm e)]
theorem aHY {h : List Blk} {s b : Nat} {x : Blk} (hs : s < h.length) : wrB (h.set s x) b = if b = s then x.wr else wrB h b := by
 unfold wrB;by_cases e : b = s
 · subst e; simp [hs]
 · rw [if_neg e, List.getElem?_set_ne (Ne.symm e)]
theorem pA.tP {s : Nat} (H : HR base O0 μ hp w) (hs : s < hp.length) (hd : hp[s]? = some .dead) (o : Obj) (x : Blk) :
 pA s (mkX base O0 μ hp w) (mkX base O0 (μnew μ s w.heap.size) (hp.set s x) (cC w o)) := by
 have g := dQ w o;have e := Ext.grow (O0 := O0) (μ := μ) (hp := hp) H.all g;refine ⟨fun n hn => ?_, fun b hb _ => ?_, by simp [mkX], fun b hb hl n hn => ?_, fun a v ho hc => e.cell a v ho hc, e.shape⟩
 · rcases hn with h | ⟨h1, h2, h3⟩
   · exact .inl h
   · refine .inr ⟨h1, Av h2 g.size, fun b hb => ?_⟩;rw [aHY hs] at hb;by_cases e : b = s
     · simp only [μnew, if_pos e]; omega
     · rw [if_neg e] at hb;simp only [μnew, if_neg e];exact h3 b hb
 · simp [mkX, μnew, hb]
 · have hn' : dimB (hp.set s x) b = some n := hn;rw [pL hs, if_neg hb] at hn';exact hn'
theorem HR.tP {s : Nat} (H : HR base O0 μ hp w) (hs : s < hp.length) (hd : hp[s]? = some .dead) (hno : ∀ (b : Nat) (x : Blk), hp[b]? = some x → x.no s) (o : Obj) (x : Blk)
 (hx : BlkR (mkX base O0 (μnew μ s w.heap.size) (hp.set s x) (cC w o)) w.heap.size x) (hy : TyR (cC w o) w.heap.size x) : HR base O0 (μnew μ s w.heap.size) (hp.set s x) (cC w o) := by
 have e := pA.tP H hs hd o x;have g := dQ w o;refine ⟨Ae H.all g.size, fun b y hb => ?_, fun b hb => ?_, fun b b' h1 h2 h3 => ?_, fun b y hb => ?_, H.gl.mono (fun _ h => h) (fun a v ho hc => e.cell a v (.inl ho) hc)⟩
 · by_cases hbs : b = s
   · subst hbs;rw [List.getElem?_set_self hs] at hb;obtain rfl := Option.some.inj hb;simp only [μnew, if_pos trivial];exact hx
   · rw [List.getElem?_set_ne (Ne.symm hbs)] at hb;simp only [μnew, if_neg hbs];cases y with
     | dead => trivial
     | ints wr k l => exact (H.blk b _ hb).iN e (g.block _ (H.lt (by simp [dimB, hb, Blk.dim]))) (hno b _ hb)
     | rows wr sz d l => exact (H.blk b _ hb).iN e (g.block _ (H.lt (by simp [dimB, hb, Blk.dim]))) (hno b _ hb)
 · rw [pL hs] at hb;by_cases hbs : b = s
   · simp only [μnew, if_pos hbs]; exact H.all
   · rw [if_neg hbs] at hb;simp only [μnew, if_neg hbs];exact H.low b hb
 · rw [aHY hs] at h1;rw [pL hs] at h2;simp only [μnew] at h3;by_cases e1 : b = s <;> by_cases e2 : b' = s
   · omega
   · exfalso;rw [if_pos e1, if_neg e2] at h3;rw [if_neg e2] at h2;have := H.lt h2;omega
   · exfalso;rw [if_neg e1, if_pos e2] at h3;rw [if_neg e1] at h1;have := H.lt (fP h1);omega
   · rw [if_neg e1, if_neg e2] at h3;rw [if_neg e1] at h1;rw [if_neg e2] at h2;exact H.inj b b' h1 h2 h3
 · by_cases hbs : b = s
   · subst hbs;rw [List.getElem?_set_self hs] at hb;obtain rfl := Option.some.inj hb;simp only [μnew, if_pos trivial];exact hy
   · rw [List.getElem?_set_ne (Ne.symm hbs)] at hb;simp only [μnew, if_neg hbs];exact (H.ty b _ hb).mono (fun s hs => e.shape _ s hs)
theorem aHD {k b : Nat} : ((hp ++ List.replicate k Blk.dead)[b]?).getD .dead = (hp[b]?).getD .dead := by
 rw [List.getElem?_append];split
 · rfl
 · rename_i h;rw [List.getElem?_eq_none (by omega : hp.length ≤ b)];rw [List.getElem?_replicate];split <;> rfl
theorem HR.pad (H : HR base O0 μ hp w) (k : Nat) : HR base O0 μ (hp ++ List.replicate k .dead) w ∧ Ext (mkX base O0 μ hp w) (mkX base O0 μ (hp ++ List.replicate k .dead) w) := by
 have hd : ∀ b, dimB (hp ++ List.replicate k .dead) b = dimB hp b := fun b => by unfold dimB; rw [aHD]
 have hw : ∀ b, wrB (hp ++ List.replicate k .dead) b = wrB hp b := fun b => by unfold wrB; rw [aHD]
 have ex : Ext (mkX base O0 μ hp w) (mkX base O0 μ (hp ++ List.replicate k .dead) w) := by
  refine ⟨fun n hn => ?_, fun _ _ => rfl, by simp [mkX], fun b _ n hn => ((hd b).symm.trans hn), fun _ _ _ h => h, fun _ _ h => h⟩;rcases hn with h | ⟨h1, h2, h3⟩
  · exact .inl h
  · exact .inr ⟨h1, h2, fun b hb => h3 b (by rw [← hw]; exact hb)⟩
 refine ⟨⟨H.all, fun b x hb => ?_, fun b hb => H.low b (by rw [← hd]; exact hb), fun b b' h1 h2 h3 => H.inj b b' (by rw [← hw]; exact h1) (by rw [← hd]; exact h2) h3, fun b x hb => ?_, H.gl⟩, ex⟩;rw [List.getElem?_append] at hb;split at hb
 · exact (H.blk b x hb).mono ex rfl
 · rw [List.getElem?_replicate] at hb;split at hb
   · obtain rfl := Option.some.inj hb; trivial
   · cases hb
 rw [List.getElem?_append] at hb;split at hb
 · exact H.ty b x hb
 · rw [List.getElem?_replicate] at hb;split at hb
   · obtain rfl := Option.some.inj hb; exact fun ts ht => by cases ht
   · cases hb
theorem aDB {c : Bool} {A B C : Prop} (h : A → B) : (bif c then A else C) → (bif c then B else C) := by
 cases c
 · exact id
 · exact h
theorem tA {h h' : List Blk} (hh : ∀ b, bS h b = .dead ∨ bS h' b = bS h b) {ρ : Operand → AV} {op : Op} {K : AV → Prop} (H : bO (aB P) G h ρ op K) : bO (aB P) G h' ρ op K := by
 cases op <;> try exact H
 case load t a =>
  dsimp only [bO] at H ⊢;unfold load at H ⊢;split at H
  · exact H.elim
  · unfold aBA at H ⊢;split at H
    · exact H
    · rename_i b sz row col heq;rcases hh b with h1 | h1
      · rw [h1] at H; exact H.elim
      · rw [h1]; exact H
    · exact H.elim
 case indexAddr t x i =>
  dsimp only [bO] at H ⊢;unfold fF at H ⊢;split at H
  · split at H
    · rename_i b sz row col heq;rcases hh b with h1 | h1
      · rw [h1] at H;split at H
        · split at H
          · exact H
          · split at H
            · exact aDB (aDB (fun H => H.elim)) H
            · exact H
        · exact H
      · rw [h1]; exact H
    · exact H
    · exact H
  · exact H
 case call c =>
  obtain ⟨callee, args, ts⟩ := c;cases callee <;> exact H
end
end
section
open Go Go.RowKit
def uI (ops : Array Oper) (n : Nat) : Bool :=
 decide (n ≤ ops.size) &&
 (List.range ops.size).all (fun i => match ops[i]? with
   | some o => o.guard.isNone && o.after.toList.all (fun e => !Region.binds .any e || decide (e.on < i))
   | none => true) &&
 (List.range n).all (fun i => match ops[i]? with
   | some o => (List.range ops.size).all (fun j => match ops[j]? with
     | some o' => (decide (i = j) || o.dst.isNone || decide (o.dst ≠ o'.dst)) &&
         (o.looksAt ops).all (fun u => decide (o'.dst ≠ some u) || (bif decide (j < n) then Region.waitsFor .any ops i j else Region.waitsFor .any ops j i)) &&
         (decide (j < n) || ((!isAl o || Region.waitsFor .any ops j i) && (o'.looksAt ops).all (fun u => decide (o.dst ≠ some u) || Region.waitsFor .any ops j i)))
     | none => true)
   | none => true) &&
 (List.range ops.size).all (fun j => decide (j ≤ n) || Region.waitsFor .any ops j (j - 1))
structure aME (ops : Array Oper) (n : Nat) : Prop where
 le : n ≤ ops.size
 guard : ∀ (i : Nat) (o : Oper), ops[i]? = some o → o.guard = none
 back : ∀ (i : Nat) (o : Oper), ops[i]? = some o → ∀ e ∈ o.after, Region.binds .any e = true → e.on < i
 apart : ∀ (i j : Nat) (o o' : Oper), i < n → ops[i]? = some o → ops[j]? = some o' → i ≠ j → ∀ d, o.dst = some d → o'.dst ≠ some d
 looks : ∀ (i j : Nat) (o o' : Oper), i < n → j < n → ops[i]? = some o → ops[j]? = some o' → ∀ u ∈ o.looksAt ops, o'.dst = some u → Region.waitsFor .any ops i j = true
 hlooks : ∀ (i j : Nat) (o o' : Oper), i < n → n ≤ j → ops[i]? = some o → ops[j]? = some o' → ∀ u ∈ o.looksAt ops, o'.dst = some u → Region.waitsFor .any ops j i = true
 allocs : ∀ (i j : Nat) (o o' : Oper), i < n → n ≤ j → ops[i]? = some o → ops[j]? = some o' → isAl o = true → Region.waitsFor .any ops j i = true
 tlooks : ∀ (i j : Nat) (o o' : Oper), i < n → n ≤ j → ops[i]? = some o → ops[j]? = some o' → ∀ u ∈ o'.looksAt ops, o.dst = some u → Region.waitsFor .any ops j i = true
 chain : ∀ j, n < j → j < ops.size → Region.waitsFor .any ops j (j - 1) = true
theorem aKP {ops : Array Oper} {n : Nat} (h : uI ops n = true) : aME ops n := by
 simp only [uI, Aj, List.all_eq_true, Bl, Ab, Db] at h;obtain ⟨⟨⟨h1, h2⟩, h3⟩, h4⟩ := h;have two : ∀ (i j : Nat) (o o' : Oper), i < n → ops[i]? = some o → ops[j]? = some o' → _ := fun i j o o' hi ho ho' => by
  have hj := (Array.getElem?_eq_some_iff.1 ho').1;have := h3 i hi;rw [ho] at this;simp only [List.all_eq_true, Bl] at this;have := this j hj;rw [ho'] at this;simp only [Aj, Db, Ab, List.all_eq_true] at this;exact this
 have one : ∀ (i : Nat) (o : Oper), ops[i]? = some o → _ := fun i o ho => by
  have := h2 i (Array.getElem?_eq_some_iff.1 ho).1;rw [ho] at this;simp only [Aj, List.all_eq_true, Ab, Db, Dl] at this;exact this
 refine ⟨h1, fun i o ho => ?_, fun i o ho e he hb => ?_, fun i j o o' hi ho ho' hne d hd hd' => ?_, fun i j o o' hi hj ho ho' u hu hd => ?_, fun i j o o' hi hj ho ho' u hu hd => ?_, fun i j o o' hi hj ho ho' ha => ?_,
   fun i j o o' hi hj ho ho' u hu hd => ?_, fun j hj hj' => ?_⟩
 · have := (one i o ho).1;cases hg : o.guard with
   | none => rfl
   | some x => rw [hg] at this; cases this
 · rcases (one i o ho).2 e (by simpa using he) with h | h
   · rw [hb] at h; cases h
   · exact h
 · rcases (two i j o o' hi ho ho').1.1 with (h | h) | h
   · exact hne h
   · rw [hd] at h; cases h
   · exact h (by rw [hd, hd'])
 · rcases (two i j o o' hi ho ho').1.2 u hu with h | h
   · exact absurd hd h
   · rwa [Au hj, cond_true] at h
 · rcases (two i j o o' hi ho ho').1.2 u hu with h | h
   · exact absurd hd h
   · rwa [Az (by omega), cond_false] at h
 · rcases (two i j o o' hi ho ho').2 with h | h
   · omega
   · rcases h.1 with h | h
     · rw [ha] at h; cases h
     · exact h
 · rcases (two i j o o' hi ho ho').2 with h | h
   · omega
   · rcases h.2 u hu with h | h
     · exact absurd hd h
     · exact h
 · rcases h4 j hj' with h | h
   · omega
   · exact h
theorem fY {o : Oper} : isAl o = true ↔ ∃ ty, o.op = .alloc ty := by
 obtain ⟨dst, op, ty, pos, after, guard⟩ := o;cases op <;> simp [isAl]
section
variable {P : Program} {G : Nat → TI} {base : Nat} {O0 : Nat → Prop} {μ : Nat → Nat} {hp : List Blk} {w w' : World}
inductive jR (P : Program) (G : Nat → TI) (n0 : Nat) (hd : List Blk) : List Oper → List (Nat × AV) → List Blk → List (Nat × AV) → List Blk → Prop
 | nil (t : List (Nat × AV)) (h : List Blk) : jR P G n0 hd [] t h t h
 | alloc (o : Oper) (r : List Oper) (t : List (Nat × AV)) (h : List Blk) (t2 : List (Nat × AV)) (h2 : List Blk) (ty d sz : Nat) (x : Blk) (ho : o.op = .alloc ty) (hd' : o.dst = some d) (hx : pJ G ty = some (sz, x))
  (hr : jR P G n0 hd r ((d, .ptr (lenB h) sz (.l 0) 0) :: t) (appB h x) t2 h2) : jR P G n0 hd (o :: r) t h t2 h2
 | pure (o : Oper) (r : List Oper) (t : List (Nat × AV)) (h : List Blk) (t2 : List (Nat × AV)) (h2 : List Blk) (v : AV) (ho : isAl o = false) (hv : bO (aB P) G hd (opd t) o.op (fun v' => v' = v)) (hold : v.old n0 = true)
  (hr : jR P G n0 hd r (putT t o.dst v) h t2 h2) : jR P G n0 hd (o :: r) t h t2 h2
theorem wM {n0 : Nat} {hd : List Blk} {K : List (Nat × AV) → List Blk → Prop} : ∀ (l : List Oper) (t : List (Nat × AV)) (h : List Blk), pF (aB P) G n0 hd l t h K → ∃ t2 h2, jR P G n0 hd l t h t2 h2 ∧ K t2 h2
 | [], t, h, H => ⟨t, h, .nil t h, H⟩
 | o :: r, t, h, H => by
  unfold pF at H;split at H
  · rename_i ty hop;split at H
    · exact H.elim
    · rename_i d hdst;split at H
      · exact H.elim
      · rename_i sz x hx;obtain ⟨t2, h2, q1, q2⟩ := wM r _ _ H;exact ⟨t2, h2, .alloc o r t h t2 h2 ty d sz x hop hdst hx q1, q2⟩
  · rename_i hop;obtain ⟨v, q1, q2⟩ := lA _ H;cases hb : AV.old n0 v with
    | false => rw [hb] at q1; exact q1.elim
    | true =>
     rw [hb, cond_true] at q1;obtain ⟨t2, h2, q3, q4⟩ := wM r _ _ q1;refine ⟨t2, h2, .pure o r t h t2 h2 v ?_ q2 hb q3, q4⟩;cases ha : isAl o with
     | false => rfl
     | true => obtain ⟨ty, e⟩ := fY.1 ha; exact absurd e (hop ty)
theorem nZ {n0 : Nat} {hd : List Blk} {l : List Oper} {t t2 : List (Nat × AV)} {h h2 : List Blk} (H : jR P G n0 hd l t h t2 h2) : ∀ u, (∀ o ∈ l, o.dst ≠ some u) → lookT t2 u = lookT t u := by
 induction H with
 | nil t h => intro u _; rfl
 | alloc o r t h t2 h2 ty d sz x ho hd' hx hr ih =>
  intro u hu;rw [ih u (fun o ho => hu o (by simp [ho]))];have : d ≠ u := fun e => hu o (by simp) (by rw [hd', e])
  exact lookT_put_ne (d := some d) (by simpa using this)
 | pure o r t h t2 h2 v ho hv hold hr ih =>
  intro u hu;rw [ih u (fun o ho => hu o (by simp [ho]))];exact lookT_put_ne (hu o (by simp))
theorem nC {n0 : Nat} {hd : List Blk} {l : List Oper} {t t2 : List (Nat × AV)} {h h2 : List Blk} (H : jR P G n0 hd l t h t2 h2) :
 h2.length = h.length + (l.filter isAl).length ∧ ∀ s, s < h.length → h2[s]? = h[s]? := by
 induction H with
 | nil t h => exact ⟨by simp, fun _ _ => rfl⟩
 | alloc o r t h t2 h2 ty d sz x ho hd' hx hr ih =>
  rw [gW] at ih;refine ⟨?_, fun s hs => ?_⟩
  · rw [ih.1, List.filter_cons_of_pos (fY.2 ⟨ty, ho⟩)]; simp; omega
  · rw [ih.2 s (by simp; omega), List.getElem?_append_left hs]
 | pure o r t h t2 h2 v ho hv hold hr ih =>
  rw [List.filter_cons_of_neg (by simp [ho])];exact ih
def bR (n0 : Nat) (l : List Oper) (i : Nat) : Nat := n0 + ((l.take i).filter isAl).length
theorem hJ {n0 : Nat} {o : Oper} {r : List Oper} {i : Nat} : bR n0 (o :: r) (i + 1) = bR (n0 + (if isAl o then 1 else 0)) r i := by
 unfold bR;rw [List.take_succ_cons];cases h : isAl o
 · rw [List.filter_cons_of_neg (by simp [h])]; simp
 · rw [List.filter_cons_of_pos h]; simp; omega
theorem kX {n0 : Nat} {l : List Oper} {i : Nat} : n0 ≤ bR n0 l i := by unfold bR; omega
theorem aIQ {l : List Oper} : ∀ {n0 i j : Nat} {o : Oper}, l[i]? = some o → isAl o = true → i < j → bR n0 l i < bR n0 l j := by
 induction l with
 | nil => intro n0 i j o h _ _; simp at h
 | cons a r ih =>
  intro n0 i j o h ha hij;obtain ⟨j, rfl⟩ : ∃ k, j = k + 1 := ⟨j - 1, by omega⟩
  cases i with
  | zero =>
   simp at h; subst h;rw [hJ, if_pos ha];have := kX (n0 := n0 + 1) (l := r) (i := j);have e : bR n0 (a :: r) 0 = n0 := by simp [bR]
   omega
  | succ i =>
   rw [hJ, hJ];exact ih (by simpa using h) ha (by omega)
theorem aDQ {l : List Oper} {n0 i j : Nat} {o o' : Oper} (h : l[i]? = some o) (ha : isAl o = true) (h' : l[j]? = some o') (ha' : isAl o' = true) (e : bR n0 l i = bR n0 l j) : i = j := by
 rcases Nat.lt_trichotomy i j with g | g | g
 · have := aIQ (n0 := n0) h ha g; omega
 · exact g
 · have := aIQ (n0 := n0) h' ha' g; omega
theorem jV {n0 : Nat} {hd : List Blk} {l : List Oper} {t t2 : List (Nat × AV)} {h h2 : List Blk} (H : jR P G n0 hd l t h t2 h2) :
 (∀ (i j : Nat) (o o' : Oper), l[i]? = some o → l[j]? = some o' → i < j → ∀ d, o.dst = some d → o'.dst ≠ some d) →
 ∀ (i : Nat) (o : Oper), l[i]? = some o → ∀ ty, o.op = .alloc ty → ∃ d sz x, o.dst = some d ∧ pJ G ty = some (sz, x) ∧ h2[bR h.length l i]? = some x ∧ lookT t2 d = .ptr (bR h.length l i) sz (.l 0) 0 := by
 induction H with
 | nil t h => intro _ i o hi; simp at hi
 | alloc o r t h t2 h2 ty d sz x ho hd' hx hr ih =>
  intro s2 i o' hi ty' hty;cases i with
  | zero =>
   simp at hi;subst hi;have : ty' = ty := by rw [ho] at hty; cases hty; rfl
   subst this;have e : bR h.length (o :: r) 0 = h.length := by simp [bR]
   rw [e];have L := nC hr;rw [gW] at L;refine ⟨d, sz, x, hd', hx, ?_, ?_⟩
   · rw [L.2 _ (by simp)]; simp
   · rw [nZ hr d (fun o' ho' => by
       obtain ⟨j, hj⟩ := List.getElem?_of_mem ho';exact s2 0 (j + 1) o o' rfl (by simpa using hj) (by omega) d hd')]
     rw [eJ];exact dF (t := t) (d := d)
  | succ i =>
   rw [hJ, if_pos (fY.2 ⟨ty, ho⟩)];have := ih (fun i j a b h1 h2 h3 => s2 (i + 1) (j + 1) a b (by simpa using h1) (by simpa using h2) (by omega)) i o' (by simpa using hi) ty' hty;rw [gW] at this
   simpa using this
 | pure o r t h t2 h2 v ho hv hold hr ih =>
  intro s2 i o' hi ty' hty;cases i with
  | zero =>
   simp at hi;subst hi;rw [fY.2 ⟨ty', hty⟩] at ho;cases ho
  | succ i =>
   rw [hJ, if_neg (by simp [ho])];exact ih (fun i j a b h1 h2 h3 => s2 (i + 1) (j + 1) a b (by simpa using h1) (by simpa using h2) (by omega)) i o' (by simpa using hi) ty' hty
theorem vS {n0 : Nat} {hd : List Blk} {ops : Array Oper} {l : List Oper} {t t2 : List (Nat × AV)} {h h2 : List Blk} (H : jR P G n0 hd l t h t2 h2) :
 (∀ (i j : Nat) (o o' : Oper), l[i]? = some o → l[j]? = some o' → i ≤ j → ∀ u ∈ o.looksAt ops, o'.dst ≠ some u) →
 (∀ (i j : Nat) (o o' : Oper), l[i]? = some o → l[j]? = some o' → i < j → ∀ d, o.dst = some d → o'.dst ≠ some d) →
 ∀ (i : Nat) (o : Oper), l[i]? = some o → isAl o = false → ∃ v t1, bO (aB P) G hd (opd t1) o.op (fun v' => v' = v) ∧ v.old n0 = true ∧ (∀ u ∈ o.looksAt ops, lookT t1 u = lookT t2 u) ∧ ∀ d, o.dst = some d → lookT t2 d = v := by
 induction H with
 | nil t h => intro _ _ i o hi; simp at hi
 | alloc o r t h t2 h2 ty d sz x ho hd' hx hr ih =>
  intro s1 s2 i o' hi ha;cases i with
  | zero =>
   simp at hi;subst hi;rw [fY.2 ⟨ty, ho⟩] at ha;cases ha
  | succ i => exact ih (fun i j a b h1 h2 h3 => s1 (i + 1) (j + 1) a b (by simpa using h1) (by simpa using h2) (by omega)) (fun i j a b h1 h2 h3 => s2 (i + 1) (j + 1) a b (by simpa using h1) (by simpa using h2) (by omega)) i o' (by simpa using hi) ha
 | pure o r t h t2 h2 v ho hv hold hr ih =>
  intro s1 s2 i o' hi ha;cases i with
  | zero =>
   simp at hi;subst hi;have later : ∀ u, (∀ o' ∈ r, o'.dst ≠ some u) → lookT t2 u = lookT (putT t o.dst v) u := nZ hr;refine ⟨v, t, hv, hold, fun u hu => ?_, fun d hd' => ?_⟩
   · rw [later u (fun o' ho' => by
       obtain ⟨j, hj⟩ := List.getElem?_of_mem ho';exact s1 0 (j + 1) o o' rfl (by simpa using hj) (by omega) u hu)]
     exact (lookT_put_ne (s1 0 0 o o rfl rfl (Ba _) u hu)).symm
   · rw [later d (fun o' ho' => by
       obtain ⟨j, hj⟩ := List.getElem?_of_mem ho';exact s2 0 (j + 1) o o' rfl (by simpa using hj) (by omega) d hd'), hd']
     exact dF
  | succ i => exact ih (fun i j a b h1 h2 h3 => s1 (i + 1) (j + 1) a b (by simpa using h1) (by simpa using h2) (by omega)) (fun i j a b h1 h2 h3 => s2 (i + 1) (j + 1) a b (by simpa using h1) (by simpa using h2) (by omega)) i o' (by simpa using hi) ha
inductive sV (P : Program) (G : Nat → TI) (n0 : Nat) (ds : List Nat) : List Oper → St → St → Prop
 | nil (s : St) : sV P G n0 ds [] s s
 | assign (o : Oper) (r : List Oper) (s s2 : St) (y : Operand) (d : Nat) (v : AV) (ho : o.op = .assign y) (hd : o.dst = some d) (hv : bO (aB P) G s.h (opd s.t) o.op (fun v' => v' = v))
  (hr : sV P G n0 ds r ⟨(d, v) :: s.t, s.h⟩ s2) : sV P G n0 ds (o :: r) s s2
 | store (o : Oper) (r : List Oper) (s s2 : St) (ty : TypeId) (p y : Operand) (b sz : Nat) (row : SI) (col : Nat) (h' : List Blk) (ho : o.op = .store ty p y) (hd : o.dst = none) (hp : opd s.t p = .ptr b sz row col)
  (hb : n0 ≤ b ∨ b ∈ ds) (hs : store (aB P) G s.h ty (.ptr b sz row col) (opd s.t y) (fun h => h = h')) (hr : sV P G n0 ds r ⟨s.t, h'⟩ s2) : sV P G n0 ds (o :: r) s s2
theorem aDP {h : List Blk} {ty : Nat} {p v : AV} {K : List Blk → Prop} (H : store (aB P) G h ty p v K) : ∃ h', K h' ∧ store (aB P) G h ty p v (fun h'' => h'' = h') := by
 unfold store at H ⊢;split at H
 · exact H.elim
 · unfold qG at H ⊢;split at H
   · split at H
     · split at H
       · generalize hc : (_ && _ && _ : Bool) = c at H ⊢;cases c
         · exact H.elim
         · exact ⟨_, H, rfl⟩
       · exact H.elim
     · generalize hc : (_ && _ && _ && _ : Bool) = c at H ⊢;cases c
       · exact H.elim
       · exact ⟨_, H, rfl⟩
     · exact H.elim
   · exact H.elim
theorem uO (h : List Blk) (b : Nat) (x : Blk) : (setBlk h b x).length = h.length := by rw [setBlk_eq]; simp
theorem rQ {h : List Blk} {b b' : Nat} {x : Blk} (e : b' ≠ b) : (setBlk h b x)[b']? = h[b']? := by rw [setBlk_eq, List.getElem?_set_ne (Ne.symm e)]
theorem aCB {h h' : List Blk} {ty : Nat} {b sz : Nat} {row : SI} {col : Nat} {v : AV} (H : store (aB P) G h ty (.ptr b sz row col) v (fun h'' => h'' = h')) : h'.length = h.length ∧ ∀ b', b' ≠ b → h'[b']? = h[b']? := by
 unfold store at H;split at H
 · exact H.elim
 · unfold qG at H;dsimp only at H;split at H
   · split at H
     · generalize hc : (_ && _ && _ : Bool) = c at H;cases c
       · exact H.elim
       · rw [← show _ = h' from H]; exact ⟨uO _ _ _, fun b' e => rQ e⟩
     · exact H.elim
   · generalize hc : (_ && _ && _ && _ : Bool) = c at H;cases c
     · exact H.elim
     · rw [← show _ = h' from H]; exact ⟨uO _ _ _, fun b' e => rQ e⟩
   · exact H.elim
theorem vX {n0 : Nat} {ds : List Nat} {K : St → Prop} : ∀ (l : List Oper) (s : St), pW (aB P) G n0 ds l s K → ∃ s2, sV P G n0 ds l s s2 ∧ K s2
 | [], s, H => ⟨s, .nil s, H⟩
 | o :: r, s, H => by
  unfold pW at H;split at H
  · rename_i y hop;split at H
    · exact H.elim
    · rename_i d hdst;obtain ⟨v, q1, q2⟩ := lA _ H;obtain ⟨s2, q3, q4⟩ := vX r _ q1;exact ⟨s2, .assign o r s s2 y d v hop hdst (by rw [hop]; exact q2) q3, q4⟩
  · rename_i ty a x hop;split at H
    · exact H.elim
    · rename_i hdst;split at H
      · rename_i b sz row col hpt;cases hb : (Nat.ble n0 b || anyB (Nat.beq b) ds) with
        | false => rw [hb] at H; exact H.elim
        | true =>
         rw [hb, cond_true] at H;obtain ⟨h', q1, q2⟩ := aDP H;obtain ⟨s2, q3, q4⟩ := vX r _ q1;refine ⟨s2, .store o r s s2 ty a x b sz row col h' hop hdst hpt ?_ q2 q3, q4⟩;rw [Db] at hb;rcases hb with hb | hb
         · exact .inl (An hb)
         · obtain ⟨y, hy, e⟩ := aKI.1 hb;rw [Ad e];exact .inr hy
      · exact H.elim
  · exact H.elim
theorem killAll_get : ∀ (ds : List Nat) (h : List Blk) (b : Nat), bS (fZ h ds) b = .dead ∨ (b ∉ ds ∧ bS (fZ h ds) b = bS h b)
 | [], h, b => .inr ⟨by simp, rfl⟩
 | d :: ds, h, b => by
  rcases killAll_get ds (setBlk h d .dead) b with g | ⟨g1, g2⟩
  · exact .inl g
  · by_cases e : b = d
    · left;show bS (fZ (setBlk h d .dead) ds) b = .dead;rw [g2, dX, setBlk_eq, e];by_cases hl : d < h.length
      · simp [hl]
      · rw [List.getElem?_eq_none (by simp; omega)]; rfl
    · right;refine ⟨by simp [e, g1], ?_⟩;show bS (fZ (setBlk h d .dead) ds) b = _;rw [g2, dX, dX, rQ e]
theorem zF (hG : GOK P G) {t : Nat} {sz : Nat} {x : Blk} (h : pJ G t = some (sz, x)) : ∃ cells z, x = .rows true sz z [z] ∧ z.length = sz ∧ (∀ a ∈ z, AV.old1 0 a = true) ∧ (∀ X, jX X z cells) ∧ cB (cW z) t = true ∧
 ∀ w : World, (Instr.alloc t true (.tuple #[])).run P w = .ok (.pointer (some ⟨w.heap.size, 0, none⟩)) (cC w (.cells cells t)) := by
 unfold pJ at h;split at h
 · cases h
 · cases h
 · rename_i k sz' by_ z fl hne1 hne2 hk;cases hb : Nat.beq (lenC z) sz' && allB AV.leaf z && allB (AV.old1 0) z && cB (cW z) t with
   | false => rw [hb] at h; cases h
   | true =>
    rw [hb, cond_true] at h;simp only [Option.some.injEq, Prod.mk.injEq] at h;obtain ⟨rfl, rfl⟩ := h;simp only [Aj, allB_eq, List.all_eq_true] at hb;obtain ⟨hb, hnd⟩ := hb;have hl := Ad hb.1.1;rw [gA] at hl;obtain ⟨i, d, v, T⟩ := hG.tok hk (fun e => hne1 e);refine ⟨v.cells, z, rfl, hl, hb.2, fun X => oE T, hnd, fun w => ?_⟩;have hzr : (zeroValue t).run P w = .ok v w := by simp [zeroValue, cF T.info, T.zer]
    simp only [Instr.alloc, Sem.run_bind, hzr, Result.andThen_ok, kV, Sem.run_pure]
end
end
section
open Go Go.RowKit
section
variable {P : Program} {G : Nat → TI} {base : Nat} {O0 : Nat → Prop} {μ : Nat → Nat} {hp : List Blk} {w w' : World}
theorem Ext.aRB {s : Nat} {x y z : X} (e : Ext x y) (k : pA s y z) (hs : x.h.length ≤ s) : Ext x z :=
 ⟨
   fun n hn => k.o n (e.o n hn), fun b hb => (k.mu b (by omega) (Av hb e.len)).trans (e.mu b hb), Ae e.len k.len,
   fun b hb n hn => e.dim b hb n (k.dim b (by omega) (Av hb e.len) n hn), fun a v ho hc => k.cell a v (e.o _ ho) (e.cell a v ho hc), fun r s hs => k.shape r s (e.shape r s hs)⟩
theorem SR.aQY {I : X} {nt : Nat} {s : St} {a : Act} (R : SR base O0 I nt s μ a w) (hb : Below w.heap.size w w') : SR base O0 I nt s μ a w' := by
 have ex := Ext.grow (O0 := O0) (μ := μ) (hp := s.h) R.hr.all hb;exact ⟨R.size, R.defers, R.hr.grow hb, R.tmps.mono ex, R.ext.trans ex, R.below.trans (hb.mono R.hr.all)⟩
theorem aGK {n0 : Nat} {hd : List Blk} {l : List Oper} {t t2 : List (Nat × AV)} {h h2 : List Blk} (H : jR P G n0 hd l t h t2 h2)
 (s2 : ∀ (i j : Nat) (o o' : Oper), l[i]? = some o → l[j]? = some o' → i < j → ∀ d, o.dst = some d → o'.dst ≠ some d) (i : Nat) (o : Oper) (hi : l[i]? = some o) (ha : isAl o = true) :
 ∃ x, h2[bR h.length l i]? = some x := by
 obtain ⟨ty, e⟩ := fY.1 ha;obtain ⟨d, sz, x, _, _, q, _⟩ := jV H s2 i o hi ty e;exact ⟨x, q⟩
theorem oW : ∀ (l : List Oper) (n0 s : Nat), n0 ≤ s → s < n0 + (l.filter isAl).length → ∃ i o ty, l[i]? = some o ∧ o.op = .alloc ty ∧ bR n0 l i = s
 | [], n0, s, h1, h2 => by simp at h2; omega
 | a :: r, n0, s, h1, h2 => by
  cases ha : isAl a with
  | true =>
   rw [List.filter_cons_of_pos ha] at h2;simp only [List.length_cons] at h2;by_cases e : s = n0
   · obtain ⟨ty, q⟩ := fY.1 ha;exact ⟨0, a, ty, rfl, q, by simp [bR, e]⟩
   · obtain ⟨i, o, ty, q1, q2, q3⟩ := oW r (n0 + 1) s (by omega) (by omega);exact ⟨i + 1, o, ty, by simpa using q1, q2, by rw [hJ, if_pos ha]; exact q3⟩
  | false =>
   rw [List.filter_cons_of_neg (by simp [ha])] at h2;obtain ⟨i, o, ty, q1, q2, q3⟩ := oW r n0 s h1 h2;exact ⟨i + 1, o, ty, by simpa using q1, q2, by rw [hJ, if_neg (by simp [ha])]; exact q3⟩
theorem sQ {n0 : Nat} {hd : List Blk} {l : List Oper} {t t2 : List (Nat × AV)} {h h2 : List Blk} (H : jR P G n0 hd l t h t2 h2) (s : Nat) (h1 : h.length ≤ s) (h3 : s < h2.length) :
 ∃ i o ty, l[i]? = some o ∧ o.op = .alloc ty ∧ bR h.length l i = s := oW l h.length s h1 (by rw [← (nC H).1]; exact h3)
def hpart (ops : Array Oper) (n : Nat) : List Oper := ops.toList.take n
structure Mid2 (P : Program) (G : Nat → TI) (base : Nat) (O0 : Nat → Prop) (I : X) (nt : Nat) (ops : Array Oper) (n : Nat) (ds : List Nat) (hp : List Blk) (t2 : List (Nat × AV)) (h2 : List Blk) (sN : St)
 (listed : Array Bool) (a : Act) (w : World) (μ : Nat → Nat) (h : List Blk) (m : Nat) (s : St) : Prop where
 size : a.tmps.size = nt
 defers : a.defers = []
 lsize : listed.size = ops.size
 closed : ∀ j oj, ops[j]? = some oj → listed.getD j false = true → ∀ e ∈ oj.after, Region.binds .any e = true → listed.getD e.on false = true
 tail : ∀ t, n ≤ t → t < ops.size → (listed.getD t false = true ↔ t < n + m)
 mle : n + m ≤ ops.size
 path : sV P G hp.length ds (ops.toList.drop (n + m)) s sN
 hr : HR base O0 μ h w
 len : h.length = s.h.length ∧ s.h.length = h2.length
 at1 : ∀ b, (∀ i o, i < n → ops[i]? = some o → isAl o = true → bR hp.length (hpart ops n) i = b → listed.getD i false = true) → h[b]? = s.h[b]?
 at0 : ∀ i o, i < n → ops[i]? = some o → isAl o = true → listed.getD i false = false → h[bR hp.length (hpart ops n) i]? = some .dead
 m0 : m = 0 → s = ⟨t2, h2⟩
 unchH : ∀ b, b < hp.length → b ∉ ds → s.h[b]? = hp[b]?
 unchT : ∀ u, (∀ t o, n ≤ t → t < n + m → ops[t]? = some o → o.dst ≠ some u) → lookT s.t u = lookT t2 u
 tmps : ∀ u, (∀ i o, i < n → ops[i]? = some o → o.dst = some u → listed.getD i false = true) → RelV (mkX base O0 μ h w) (lookT s.t u) (a.tmps.getD u undef)
 ext : Ext I (mkX base O0 μ h w)
 below : Below base I.w w
theorem aPS (hG : GOK P G) {I : X} {nt : Nat} {ops : Array Oper} {n : Nat} (D : aME ops n) {ds : List Nat} {hp : List Blk} {t t2 : List (Nat × AV)} {h2 : List Blk} {sN : St}
 (hI : I.h.length ≤ hp.length) (L : jR P G hp.length (fZ hp ds) (hpart ops n) t hp t2 h2)
 (N1 : ∀ i o, i < n → ops[i]? = some o → isAl o = true → ∀ u, o.dst ≠ some u → (lookT t2 u).no (bR hp.length (hpart ops n) i))
 (N2 : ∀ (b : Nat) (x : Blk), h2[b]? = some x → ∀ s, hp.length ≤ s → x.no s)
 (hd : ∀ o ∈ ops.toList, ∀ d, o.dst = some d → d < nt) {Q : Exit → Act → World → Prop} (hQ : ∀ μ a w, SR base O0 I nt sN μ a w → Q .normal a w) :
 ∀ (f : Nat) (listed : Array Bool) (a : Act) (w : World) (μ : Nat → Nat) (h : List Blk) (m : Nat) (s : St), ((List.range ops.size).filter (fun i => !listed.getD i false)).length = f →
  Mid2 P G base O0 I nt ops n ds hp t2 h2 sN listed a w μ h m s → wpAny P .any ops Q f listed a w := by
 have hget : ∀ i o, i < n → ops[i]? = some o → (hpart ops n)[i]? = some o := by
  intro i o hi ho;rw [hpart, List.getElem?_take, if_pos hi]; simpa using ho
 have hget' : ∀ i o, (hpart ops n)[i]? = some o → i < n ∧ ops[i]? = some o := by
  intro i o hi;rw [hpart, List.getElem?_take] at hi;split at hi
  · exact ⟨‹_›, by simpa using hi⟩
  · cases hi
 have s1 : ∀ (i j : Nat) (o o' : Oper), (hpart ops n)[i]? = some o → (hpart ops n)[j]? = some o' → i ≤ j → ∀ u ∈ o.looksAt ops, o'.dst ≠ some u := by
  intro i j o o' hi hj hij u hu hd';obtain ⟨g1, g2⟩ := hget' i o hi;obtain ⟨g3, g4⟩ := hget' j o' hj;obtain ⟨oj, hoj, e, he, hb, hon⟩ := Region.waitsFor_spec (D.looks i j o o' g1 g3 g2 g4 u hu hd');have : oj = o := Option.some.inj (hoj.symm.trans g2);subst this;have := D.back i oj g2 e he hb;omega
 have s2 : ∀ (i j : Nat) (o o' : Oper), (hpart ops n)[i]? = some o → (hpart ops n)[j]? = some o' → i < j → ∀ d, o.dst = some d → o'.dst ≠ some d := by
  intro i j o o' hi hj hij d hd';obtain ⟨g1, g2⟩ := hget' i o hi;obtain ⟨g3, g4⟩ := hget' j o' hj;exact D.apart i j o o' g1 g2 g4 (by omega) d hd'
 have LL := nC L;intro f;induction f with
 | zero =>
  intro listed a w μ h m s hf M;have hall : ∀ i, i < ops.size → listed.getD i false = true := by
   intro i hi;have h0 := List.length_eq_zero_iff.1 hf;rw [List.filter_eq_nil_iff] at h0;have := h0 i (Bl.2 hi)
   simpa using this
  have hm : n + m = ops.size := by
   rcases Ar (n + m) ops.size with g | g
   · have := (M.tail (n + m) (by omega) g).1 (hall _ g); omega
   · have := M.mle; omega
  have e1 : h = s.h := by
   apply List.ext_getElem?;intro b;exact M.at1 b (fun i o hi ho _ _ => hall i (Array.getElem?_eq_some_iff.1 ho).1)
  have e2 : s = sN := by
   have := M.path;rw [hm, List.drop_eq_nil_of_le (by simp)] at this;cases this; rfl
  refine ⟨?_, ?_⟩
  · cases hr : Region.ready .any ops listed with
    | nil => rfl
    | cons i r =>
     exfalso;have hi : i ∈ Region.ready .any ops listed := by rw [hr]; simp
     obtain ⟨hun, o, ho, _⟩ := mem_ready.1 hi;have g := getD_both hun;rw [hall i (Array.getElem?_eq_some_iff.1 ho).1] at g;cases g
  · subst e1; subst e2;exact hQ μ a w ⟨M.size, M.defers, M.hr, fun u => M.tmps u (fun i o hi ho _ => hall i (Array.getElem?_eq_some_iff.1 ho).1), M.ext, M.below⟩
 | succ f ih =>
  intro listed a w μ h m s hf M;have hne : (List.range ops.size).filter (fun i => !listed.getD i false) ≠ [] := by intro h; rw [h] at hf; simp at hf
  obtain ⟨i0, hi0, hun0⟩ : ∃ i, i < ops.size ∧ listed.getD i false = false := by
   obtain ⟨i, hi⟩ := List.exists_mem_of_ne_nil _ hne;rw [List.mem_filter, Bl] at hi;exact ⟨i, hi.1, by simpa using hi.2⟩
  have toT : ∀ i, i < ops.size → listed.getD i false = false → listed.getD i true = false := fun i hi h => getD_in (by rw [M.lsize]; exact hi) h
  have least : ∃ i, i ∈ Region.ready .any ops listed := by
   have : ∀ k, k < ops.size → listed.getD k false = false → ∃ i, i ∈ Region.ready .any ops listed := by
    intro k;induction k using Nat.strongRecOn with
    | _ k ihk =>
     intro hk hun;by_cases hb : ∃ e ∈ (ops[k]).after, Region.binds .any e = true ∧ listed.getD e.on false = false
     · obtain ⟨e, he, hb1, hb2⟩ := hb;have := D.back k ops[k] (Array.getElem?_eq_getElem hk) e he hb1;exact ihk e.on this (by omega) hb2
     · refine ⟨k, mem_ready.2 ⟨toT k hk hun, ops[k], Array.getElem?_eq_getElem hk, fun e he hb1 => ?_⟩⟩;cases hl : listed.getD e.on false with
       | true => rfl
       | false => exact absurd ⟨e, he, hb1, hl⟩ hb
   exact this i0 hi0 hun0
  refine ⟨fun h => ?_, fun i hi => ?_⟩
  · obtain ⟨i, hi⟩ := least;rw [h] at hi;cases hi
  · obtain ⟨hunT, o, ho, hall⟩ := mem_ready.1 hi;have hun := getD_both hunT;have hil : i < ops.size := (Array.getElem?_eq_some_iff.1 ho).1;have waits : ∀ j, Region.waitsFor .any ops i j = true → listed.getD j false = true := by
     intro j hw;obtain ⟨oj, hoj, e, he, hb, hon⟩ := Region.waitsFor_spec hw;have : oj = o := Option.some.inj (hoj.symm.trans ho);subst this;have := hall e he hb;rwa [hon] at this
    have seen : ∀ j, listed.getD j false = true → ∀ k, Region.waitsFor .any ops j k = true → listed.getD k false = true := by
     intro j hj k hw;obtain ⟨oj, hoj, e, he, hb, hon⟩ := Region.waitsFor_spec hw;have := M.closed j oj hoj hj e he hb;rwa [hon] at this
    have hcount : ((List.range ops.size).filter (fun j => !(listed.setIfInBounds i true).getD j false)).length = f := by
     have hnd : (List.range ops.size).Nodup := List.nodup_range;have hmem : i ∈ (List.range ops.size).filter (fun j => !listed.getD j false) := by
      rw [List.mem_filter, Bl];exact ⟨hil, by rw [hun]; rfl⟩
     have hsub : (List.range ops.size).filter (fun j => !(listed.setIfInBounds i true).getD j false) = ((List.range ops.size).filter (fun j => !listed.getD j false)).erase i := by
      rw [List.Nodup.erase_eq_filter (hnd.filter _), List.filter_filter];apply List.filter_congr;intro j hj;by_cases hji : i = j
      · subst hji;have : (listed.setIfInBounds i true).getD i false = true := by
         have : i < listed.size := by rw [M.lsize]; exact hil
         simp [this]
        rw [this];simp
      · rw [getD_set_ne false hji];simp [show j ≠ i from fun e => hji e.symm]
     rw [hsub, List.length_erase_of_mem hmem, hf];rfl
    have hset : (listed.setIfInBounds i true).getD i false = true := by
     have : i < listed.size := by rw [M.lsize]; exact hil
     simp [this]
    have lsize' : (listed.setIfInBounds i true).size = ops.size := by simp [M.lsize]
    have closed' : ∀ j oj, ops[j]? = some oj → (listed.setIfInBounds i true).getD j false = true → ∀ e ∈ oj.after, Region.binds .any e = true → (listed.setIfInBounds i true).getD e.on false = true := by
     intro j oj hj hl e he hb;by_cases hij : i = j
     · subst hij;have : oj = o := Option.some.inj (hj.symm.trans ho);subst this;exact getD_set_true (hall e he hb)
     · rw [getD_set_ne false hij] at hl;exact getD_set_true (M.closed j oj hj hl e he hb)
    have hwant : Region.wanted o (yielded ops a.tmps) = true := by simp [Region.wanted, D.guard i o ho]
    unfold wpOp;simp only [ho];rw [if_pos hwant];refine .inl ?_;by_cases hin : i < n
    ·
     have tail' : ∀ t, n ≤ t → t < ops.size → ((listed.setIfInBounds i true).getD t false = true ↔ t < n + m) := by
      intro t h1 h3;rw [getD_set_ne false (by omega)];exact M.tail t h1 h3
     cases hal : isAl o with
     | true =>
      obtain ⟨ty, hop⟩ := fY.1 hal;obtain ⟨d, sz, x, hdst, hx, hslot, hlook⟩ := jV L s2 i o (hget i o hin ho) ty hop;obtain ⟨cells, z, rfl, hz, hz0, hcells, hnd, hrun⟩ := zF hG hx;have hm : m = 0 := by
       rcases Ao m with g | g
       · exact g
       · exfalso;have hnl := (M.tail n (Ba _) (by have := M.mle; omega)).2 (by omega);have hn' : n < ops.size := by have := M.mle; omega
         have := seen n hnl i (D.allocs i n o ops[n] hin (Ba _) ho (Array.getElem?_eq_getElem hn') hal);rw [hun] at this; cases this
      have hs := M.m0 hm;subst hs;have hsl : bR hp.length (hpart ops n) i < h.length := by
       rw [M.len.1];exact (List.getElem?_eq_some_iff.1 hslot).1
      have hdead := M.at0 i o hin ho hal hun;have hno : ∀ (b : Nat) (y : Blk), h[b]? = some y → y.no (bR hp.length (hpart ops n) i) := by
       intro b y hb;by_cases hc : ∀ i' o', i' < n → ops[i']? = some o' → isAl o' = true → bR hp.length (hpart ops n) i' = b → listed.getD i' false = true
       · rw [M.at1 b hc] at hb;exact N2 b y hb _ kX
       · simp only [Classical.not_forall, Classical.not_imp] at hc;obtain ⟨i', o', g1, g2, g3, g4, g5⟩ := hc;have := M.at0 i' o' g1 g2 g3 (by simpa using g5);rw [g4, hb] at this;obtain rfl := Option.some.inj this;trivial
      have ex := pA.tP M.hr hsl hdead (.cells cells ty) (.rows true sz z [z]);have hH : HR base O0 (μnew μ (bR hp.length (hpart ops n) i) w.heap.size) (h.set (bR hp.length (hpart ops n) i) (.rows true sz z [z])) (cC w (.cells cells ty)) := by
       refine HR.tP M.hr hsl hdead hno _ _ ⟨hz, cells, ty, dI w _, fun i r hi => ?_⟩ (TyR.new (dI w _) hnd);cases i with
       | zero =>
        simp at hi; subst hi;refine ⟨hz, fun j c hj => ?_⟩;have C := hcells (mkX base O0 (μnew μ (bR hp.length (hpart ops n) i) w.heap.size) (h.set (bR hp.length (hpart ops n) i) (.rows true sz z [z])) (cC w (.cells cells ty)));have := (List.getElem?_eq_some_iff.1 hj).1;rw [Cx, Be];exact ⟨_, bU (by have := C.1; omega), C.2 j c hj⟩
       | succ i => simp at hi
      have hrun' : (execOp a.eval o).run P w = .ok (.value (.pointer (some ⟨w.heap.size, 0, none⟩))) (cC w (.cells cells ty)) := by
       obtain ⟨dst, op, ty', pos, after, guard⟩ := o;dsimp only at hop;subst hop;exact uX (hrun w)
      refine wp_value hrun' ?_;refine ih _ _ _ (μnew μ (bR hp.length (hpart ops n) i) w.heap.size) (h.set (bR hp.length (hpart ops n) i) (.rows true sz z [z])) m ⟨t2, h2⟩ hcount
       ⟨by rw [iK]; exact M.size, by rw [put_defers]; exact M.defers, lsize', closed', tail', M.mle, M.path, hH, ⟨by simp [M.len.1], M.len.2⟩, fun b hb => ?_, fun i' o' g1 g2 g3 g4 => ?_, fun _ => rfl, M.unchH, M.unchT, fun u hu => ?_, M.ext.aRB ex (Ae hI kX), M.below.trans ((dQ w _).mono M.hr.all)⟩
      · by_cases e : b = bR hp.length (hpart ops n) i
        · subst e;rw [List.getElem?_set_self hsl];exact hslot.symm
        · rw [List.getElem?_set_ne (Ne.symm e)];refine M.at1 b (fun i' o' g1 g2 g3 g4 => ?_);have := hb i' o' g1 g2 g3 g4;rw [getD_set_ne false (by rintro rfl; exact e g4.symm)] at this;exact this
      · have hii : i ≠ i' := by rintro rfl; rw [hset] at g4; cases g4
        rw [getD_set_ne false hii] at g4;rw [List.getElem?_set_ne (fun e => hii (aDQ (hget i o hin ho) hal (hget i' o' g1 g2) g3 e))];exact M.at0 i' o' g1 g2 g3 g4
      · by_cases hdu : o.dst = some u
        · rw [hdst] at hdu;obtain rfl := Option.some.inj hdu;have : (a.put o.dst (.pointer (some ⟨w.heap.size, 0, none⟩))).tmps.getD d undef = .pointer (some ⟨w.heap.size, 0, none⟩) := by
           have hlt : d < a.tmps.size := by rw [M.size]; exact hd o (List.mem_of_getElem? (i := i) (by simpa using ho)) d hdst
           rw [hdst];simp [Act.put, Array.getD_eq_getD_getElem?, hlt]
          rw [this, hlook];refine ⟨by simp [mkX]; exact hsl, by simp [SI.val], by simp [mkX, μnew, SI.val], fun n' s' hn => ?_⟩;have hn' : dimB (h.set (bR hp.length (hpart ops n) i) (.rows true sz z [z])) (bR hp.length (hpart ops n) i) = some (n', s') := hn;rw [pL hsl, if_pos rfl] at hn';simp only [Blk.dim, Option.some.injEq, Prod.mk.injEq] at hn';refine ⟨?_, hn'.2.symm⟩;have e1 := hn'.1;simp [SI.val] at e1 ⊢;omega
        · have : (a.put o.dst (.pointer (some ⟨w.heap.size, 0, none⟩))).tmps.getD u undef = a.tmps.getD u undef := by
           have hne : d ≠ u := fun e => hdu (by rw [hdst, e])
           rw [hdst];simp [Act.put, Array.getD_eq_getD_getElem?, Array.getElem?_setIfInBounds_ne hne]
          rw [this];refine (M.tmps u (fun j o' hj ho' hd' => ?_)).iN ex (N1 i o hin ho hal u hdu);have h1 := hu j o' hj ho' hd';by_cases hij : i = j
          · subst hij;have : o' = o := Option.some.inj (ho'.symm.trans ho);subst this;exact absurd hd' hdu
          · rwa [getD_set_ne false hij] at h1
     | false =>
      obtain ⟨v, t1, hv, hold, hl1, hl2⟩ := vS (ops := ops) L s1 s2 i o (hget i o hin ho) hal;have unread : ∀ u, u ∈ o.looksAt ops → lookT s.t u = lookT t2 u := by
       intro u hu;refine M.unchT u (fun t' o' g1 g2 g3 g4 => ?_);have := seen t' ((M.tail t' g1 (by have := M.mle; omega)).2 g2) i (D.hlooks i t' o o' hin g1 ho g3 u hu g4);rw [hun] at this; cases this
      have hrel : ∀ u, u ∈ o.looksAt ops → RelV (mkX base O0 μ h w) (lookT t1 u) (a.tmps.getD u undef) := by
       intro u hu;rw [hl1 u hu, ← unread u hu];exact M.tmps u (fun j o' hj ho' hd' => waits j (D.looks i j o o' hin hj ho ho' u hu hd'))
      have hmem : ∀ b, bS (fZ hp ds) b = .dead ∨ bS h b = bS (fZ hp ds) b := by
       intro b;rcases killAll_get ds hp b with g | ⟨g1, g2⟩
       · exact .inl g
       · by_cases hb : b < hp.length
         · right;rw [g2, dX, dX, M.at1 b (fun i' o' _ _ _ e => by have := kX (n0 := hp.length) (l := hpart ops n) (i := i'); omega), M.unchH b hb g1]
         · left;rw [g2, dX, List.getElem?_eq_none (by omega)]; rfl
      have next : ∀ (val : Value) (w' : World), Below w.heap.size w w' → RelV (mkX base O0 μ h w') v val → wpAny P .any ops Q f (listed.setIfInBounds i true) (a.put o.dst val) w' := by
       intro val w' hb hval;have ex := Ext.grow (O0 := O0) (μ := μ) (hp := h) M.hr.all hb;refine ih _ _ _ μ h m s hcount ⟨by rw [iK]; exact M.size, by rw [put_defers]; exact M.defers, lsize', closed', tail', M.mle, M.path, M.hr.grow hb, M.len, fun b hb => ?_, fun i' o' g1 g2 g3 g4 => ?_, M.m0, M.unchH, M.unchT, fun u hu => ?_, M.ext.trans ex, M.below.trans (hb.mono M.hr.all)⟩
       · refine M.at1 b (fun i' o' g1 g2 g3 g4 => ?_);have := hb i' o' g1 g2 g3 g4;rw [getD_set_ne false (by rintro rfl; rw [Option.some.inj (g2.symm.trans ho), hal] at g3; cases g3)] at this;exact this
       · refine M.at0 i' o' g1 g2 g3 ?_;rw [getD_set_ne false (by rintro rfl; rw [Option.some.inj (g2.symm.trans ho), hal] at g3; cases g3)] at g4;exact g4
       · by_cases hdu : o.dst = some u
         · have hlt : u < a.tmps.size := by rw [M.size]; exact hd o (List.mem_of_getElem? (i := i) (by simpa using ho)) u hdu
           have : (a.put o.dst val).tmps.getD u undef = val := by
            rw [hdu];simp [Act.put, Array.getD_eq_getD_getElem?, hlt]
           rw [this];rw [M.unchT u (fun t' o' g1 g2 g3 g4 => D.apart i t' o o' hin ho g3 (by omega) u hdu g4), hl2 u hdu];exact hval
         · have : (a.put o.dst val).tmps.getD u undef = a.tmps.getD u undef := by
            cases hdst : o.dst with
            | none => rfl
            | some d =>
             have hne : d ≠ u := fun e => hdu (by rw [hdst, e])
             simp [Act.put, Array.getD_eq_getD_getElem?, Array.getElem?_setIfInBounds_ne hne]
           rw [this];refine (M.tmps u (fun j o' hj ho' hd' => ?_)).mono ex;have h1 := hu j o' hj ho' hd';by_cases hij : i = j
           · subst hij;have : o' = o := Option.some.inj (ho'.symm.trans ho);subst this;exact absurd hd' hdu
           · rwa [getD_set_ne false hij] at h1
      obtain ⟨v', rfl, hout⟩ := gN hG M.hr (ev := a.eval) (jH hrel M.hr.glob) (tA hmem hv);rcases hout with ⟨val, w', h1, h2', h3⟩ | ⟨f', args, h1, h2'⟩
      · exact wp_value h1 (next val w' h2' h3)
      · unfold Oper.wp;rw [h1];refine h2'.mono ?_;rintro e w' ⟨val, rfl, hb, hv⟩;exact next val w' hb hv
    ·
     have him : i = n + m := by
      have h1 : ¬ i < n + m := fun g => by have := (M.tail i (by omega) hil).2 g; rw [hun] at this; cases this
      rcases Ar (n + m) i with g | g
      · exfalso;have := waits (i - 1) (D.chain i (by omega) hil);have := (M.tail (i - 1) (by omega) (by omega)).1 this;omega
      · omega
     subst him;have hallal : ∀ i' o', i' < n → ops[i']? = some o' → isAl o' = true → listed.getD i' false = true := fun i' o' g1 g2 g3 => waits i' (D.allocs i' (n + m) o' o g1 (by omega) g2 ho g3)
     have eh : h = s.h := by
      apply List.ext_getElem?;intro b;exact M.at1 b (fun i' o' g1 g2 g3 _ => hallal i' o' g1 g2 g3)
     subst eh;have tail' : ∀ t, n ≤ t → t < ops.size → ((listed.setIfInBounds (n + m) true).getD t false = true ↔ t < n + (m + 1)) := by
      intro t h1 h3;by_cases e : n + m = t
      · subst e; exact ⟨fun _ => by omega, fun _ => hset⟩
      · rw [getD_set_ne false e, M.tail t h1 h3]; omega
     have hrel : ∀ u, u ∈ o.looksAt ops → RelV (mkX base O0 μ s.h w) (lookT s.t u) (a.tmps.getD u undef) := by
      intro u hu;exact M.tmps u (fun j o' hj ho' hd' => waits j (D.tlooks j (n + m) o' o hj (by omega) ho' ho u hu hd'))
     have hdrop : ops.toList.drop (n + m) = o :: ops.toList.drop (n + (m + 1)) := by
      have hl : n + m < ops.toList.length := by simpa using hil
      rw [List.drop_eq_getElem_cons hl];congr 1;have := List.getElem?_eq_getElem hl;have h' : ops.toList[n + m]? = some o := by simpa using ho
      rw [h'] at this;exact (Option.some.inj this).symm
     have hpath := M.path;rw [hdrop] at hpath;have mset : ∀ u, (∀ i o', i < n → ops[i]? = some o' → o'.dst = some u → (listed.setIfInBounds (n + m) true).getD i false = true) → ∀ i o', i < n → ops[i]? = some o' → o'.dst = some u → listed.getD i false = true := by
      intro u hu i o' g1 g2 g3;have := hu i o' g1 g2 g3;rwa [getD_set_ne false (by omega)] at this
     generalize hrest : ops.toList.drop (n + (m + 1)) = rest at hpath;cases hpath with
     | assign _ _ _ _ y d v hop hdst hv hr =>
      obtain ⟨v', rfl, hout⟩ := gN hG M.hr (ev := a.eval) (jH hrel M.hr.glob) hv;have next : ∀ (val : Value) (w' : World), Below w.heap.size w w' → RelV (mkX base O0 μ s.h w') v' val → wpAny P .any ops Q f (listed.setIfInBounds (n + m) true) (a.put o.dst val) w' := by
       intro val w' hb hval;have ex := Ext.grow (O0 := O0) (μ := μ) (hp := s.h) M.hr.all hb;refine ih _ _ _ μ s.h (m + 1) ⟨(d, v') :: s.t, s.h⟩ hcount ⟨by rw [iK]; exact M.size, by rw [put_defers]; exact M.defers, lsize', closed', tail', by omega, by rw [hrest]; exact hr, M.hr.grow hb, ⟨rfl, M.len.2⟩, fun _ _ => rfl,
         fun i' o' g1 g2 g3 g4 => ?_, fun g => by omega, M.unchH, fun u hu => ?_, fun u hu => ?_, M.ext.trans ex, M.below.trans (hb.mono M.hr.all)⟩
       · rw [getD_set_ne false (by omega), hallal i' o' g1 g2 g3] at g4; cases g4
       · have hne : d ≠ u := fun e => hu (n + m) o (by omega) (by omega) ho (by rw [hdst, e])
         exact (lookT_put_ne (d := some d) (by simpa using hne)).trans (M.unchT u (fun t' o' g1 g2 g3 => hu t' o' g1 (by omega) g3))
       · by_cases hdu : d = u
         · subst hdu;have hlt : d < a.tmps.size := by rw [M.size]; exact hd o (List.mem_of_getElem? (i := n + m) (by simpa using ho)) d hdst
           have : (a.put o.dst val).tmps.getD d undef = val := by
            rw [hdst];simp [Act.put, Array.getD_eq_getD_getElem?, hlt]
           rw [this];show RelV _ (lookT (putT s.t (some d) v') d) val;rw [dF];exact hval
         · have : (a.put o.dst val).tmps.getD u undef = a.tmps.getD u undef := by
            rw [hdst];simp [Act.put, Array.getD_eq_getD_getElem?, Array.getElem?_setIfInBounds_ne hdu]
           rw [this];have e := lookT_put_ne (t := s.t) (d := some d) (v := v') (u := u) (by simpa using hdu);exact e ▸ ((M.tmps u (mset u hu)).mono ex)
      rcases hout with ⟨val, w', h1, h2', h3⟩ | ⟨f', args, h1, h2'⟩
      · exact wp_value h1 (next val w' h2' h3)
      · unfold Oper.wp;rw [h1];refine h2'.mono ?_;rintro e w' ⟨val, rfl, hb, hv⟩;exact next val w' hb hv
     | store _ _ _ _ ty p y b sz row col h' hop hdst hpt hb hs hr =>
      have lp : ∀ z, z ∈ o.op.operands.toList → RelV (mkX base O0 μ s.h w) (opd s.t z) (a.eval z) := jH hrel M.hr.glob;rw [hop] at lp;have r1 := lp p (by simp [Op.operands]);rw [hpt] at r1;have r2 := lp y (by simp [Op.operands]);obtain ⟨w', h'', q1, rfl, q3, q4, q5⟩ := tD hG M.hr r1 r2 hs;obtain ⟨z1, z2⟩ := aCB hs;have hrun : (execOp a.eval o).run P w = .ok .skip w' := by
       obtain ⟨dst, op, ty', pos, after, guard⟩ := o;dsimp only at hop;subst hop;simp only [execOp, Sem.run_bind, q1, Result.andThen_ok, Sem.run_pure]
      unfold Oper.wp;rw [hrun];have hput : ∀ val, a.put o.dst val = a := fun val => by rw [hdst]; rfl
      refine (show wpAny P .any ops Q f (listed.setIfInBounds (n + m) true) (a.put o.dst undef) w' from ?_);rw [hput];refine ih _ _ _ μ h'' (m + 1) ⟨s.t, h''⟩ hcount ⟨M.size, M.defers, lsize', closed', tail', by omega, by rw [hrest]; exact hr, q3, ⟨rfl, z1.trans M.len.2⟩, fun _ _ => rfl,
        fun i' o' g1 g2 g3 g4 => ?_, fun g => by omega, fun b' g1 g2 => ?_, fun u hu => ?_, fun u hu => ?_, M.ext.trans q4, M.below.trans q5⟩
      · rw [getD_set_ne false (by omega), hallal i' o' g1 g2 g3] at g4; cases g4
      · have hne : b' ≠ b := by
         rintro rfl;rcases hb with hb | hb
         · omega
         · exact g2 hb
        exact (z2 b' hne).trans (M.unchH b' g1 g2)
      · exact M.unchT u (fun t' o' g1 g2 g3 => hu t' o' g1 (by omega) g3)
      · exact (M.tmps u (mset u hu)).mono q4
theorem aGD (hG : GOK P G) (hm : P.follows .mixedOrders = true) {I : X} {nt : Nat} {ops : Array Oper} {id : Nat} {K : St → Prop} {Q : Exit → Act → World → Prop}
 (hQ : ∀ s μ a w, SR base O0 I nt s μ a w → K s → Q .normal a w) (hD : uI ops (headLen ops.toList) = true) (hd : ∀ o ∈ ops.toList, ∀ d, o.dst = some d → d < nt)
 {s : St} {a : Act} (R : SR base O0 I nt s μ a w) (h : aFQ (aB P) G ops.toList K s) : (Code.region id ops true).wp P Q a w := by
 have D := aKP hD;unfold aFQ at h;generalize headLen ops.toList = n at *
 obtain ⟨t, hp⟩ := s;rw [vF, uZ, eJ] at h;generalize tailBlks t (ops.toList.drop n) = ds at h;obtain ⟨t2, h2, L, H2⟩ := wM _ _ _ h;obtain ⟨sN, T, hK⟩ := vX _ _ H2;replace L : jR P G hp.length (fZ hp ds) (hpart ops n) t hp t2 h2 := L;replace T : sV P G hp.length ds (ops.toList.drop n) ⟨t2, h2⟩ sN := T;have hget' : ∀ i o, (hpart ops n)[i]? = some o → i < n ∧ ops[i]? = some o := by
  intro i o hi;rw [hpart, List.getElem?_take] at hi;split at hi
  · exact ⟨‹_›, by simpa using hi⟩
  · cases hi
 have hget : ∀ i o, i < n → ops[i]? = some o → (hpart ops n)[i]? = some o := by
  intro i o hi ho;rw [hpart, List.getElem?_take, if_pos hi]; simpa using ho
 have s2 : ∀ (i j : Nat) (o o' : Oper), (hpart ops n)[i]? = some o → (hpart ops n)[j]? = some o' → i < j → ∀ d, o.dst = some d → o'.dst ≠ some d := by
  intro i j o o' hi hj hij d hd';obtain ⟨g1, g2⟩ := hget' i o hi;obtain ⟨g3, g4⟩ := hget' j o' hj;exact D.apart i j o o' g1 g2 g4 (by omega) d hd'
 have s1 : ∀ (i j : Nat) (o o' : Oper), (hpart ops n)[i]? = some o → (hpart ops n)[j]? = some o' → i ≤ j → ∀ u ∈ o.looksAt ops, o'.dst ≠ some u := by
  intro i j o o' hi hj hij u hu hd';obtain ⟨g1, g2⟩ := hget' i o hi;obtain ⟨g3, g4⟩ := hget' j o' hj;obtain ⟨oj, hoj, e, he, hb, hon⟩ := Region.waitsFor_spec (D.looks i j o o' g1 g3 g2 g4 u hu hd');have : oj = o := Option.some.inj (hoj.symm.trans g2);subst this;have := D.back i oj g2 e he hb;omega
 have LL := nC L;have Llook := nZ L;have inh : ∀ o ∈ hpart ops n, ∃ i, (hpart ops n)[i]? = some o := fun o ho => List.getElem?_of_mem ho
 have R' := R.aQY (w' := { w with drawn := w.drawn + 1 }) (Below.refl _ _).drew;obtain ⟨pH, pE⟩ := HR.pad R'.hr ((hpart ops n).filter isAl).length;have N1 : ∀ i o, i < n → ops[i]? = some o → isAl o = true → ∀ u, o.dst ≠ some u → (lookT t2 u).no (bR hp.length (hpart ops n) i) := by
  intro i o hi ho hal u hu;by_cases hw : ∃ o' ∈ hpart ops n, o'.dst = some u
  · obtain ⟨o', ho', hd'⟩ := hw;obtain ⟨j, hj⟩ := inh o' ho';cases ha' : isAl o' with
    | true =>
     obtain ⟨ty, e⟩ := fY.1 ha';obtain ⟨d, sz, x, q1, q2, q3, q4⟩ := jV L s2 j o' hj ty e;rw [hd'] at q1;obtain rfl := Option.some.inj q1;rw [q4];show _ ≠ _;intro e;have := aDQ hj ha' (hget i o hi ho) hal e;subst this;have : o' = o := Option.some.inj (hj.symm.trans (hget j o hi ho));subst this;exact hu hd'
    | false =>
     obtain ⟨v, t1, q1, q2, q3, q4⟩ := vS (ops := ops) L s1 s2 j o' hj ha';rw [q4 u hd'];exact AV.aJS q2 kX
  · rw [Llook u (fun o' ho' hd' => hw ⟨o', ho', hd'⟩)];exact RelV.no (R'.tmps u) kX
 have N2 : ∀ (b : Nat) (x : Blk), h2[b]? = some x → ∀ s, hp.length ≤ s → x.no s := by
  intro b x hb s hs;rcases Ar b hp.length with g | g
  · rw [LL.2 b g] at hb;exact HR.no R'.hr hb hs
  ·
   obtain ⟨i, o, ty, q1, q2, q3⟩ := sQ L b g (List.getElem?_eq_some_iff.1 hb).1;obtain ⟨d, sz, x', r1, r2, r3, r4⟩ := jV L s2 i o q1 ty q2;rw [q3, hb] at r3;obtain rfl := Option.some.inj r3;obtain ⟨cells, z, rfl, _, hz0, _, _, _⟩ := zF hG r2;intro r hr a ha;simp at hr;subst hr;exact AV.no1_of_old (hz0 a ha) (Nat.zero_le _)
 refine wp_region_any hm ?_;have hh2 : h2.length = (hp ++ List.replicate ((hpart ops n).filter isAl).length Blk.dead).length := by rw [LL.1]; simp
 refine aPS hG D (I := I) (nt := nt) (t := t) (t2 := t2) (h2 := h2) (sN := sN) (hp := hp) (ds := ds) R.ext.len L N1 N2 hd (fun μ a w R => hQ sN μ a w R hK) ops.size _ a _ μ _ 0 ⟨t2, h2⟩ ?_
  ⟨R'.size, R'.defers, by simp, fun j oj hj hl => (by rw [getD_replicate_false] at hl; cases hl), fun t' h1 h2 => ?_, D.le, T, pH, ⟨hh2.symm, rfl⟩, fun b hb => ?_, fun i o h1 ho ha _ => ?_, fun _ => rfl, fun b hb _ => LL.2 b hb, fun _ _ => rfl, fun u hu => ?_, R'.ext.trans pE, R'.below⟩
 · rw [List.filter_eq_self.2]
   · simp
   · intro i hi;rw [getD_replicate_false];rfl
 · rw [getD_replicate_false]; simp; omega
 · rcases Ar b hp.length with g | g
   · rw [List.getElem?_append_left g]; exact (LL.2 b g).symm
   · rcases Ar b h2.length with g' | g'
     · exfalso;obtain ⟨i, o, ty, q1, q2, q3⟩ := sQ L b g g';obtain ⟨k1, k2⟩ := hget' i o q1;have := hb i o k1 k2 (fY.2 ⟨ty, q2⟩) q3;rw [getD_replicate_false] at this; cases this
     · rw [List.getElem?_eq_none g', List.getElem?_eq_none (by rw [← hh2]; exact g')]
 · have := (List.getElem?_eq_some_iff.1 (aGK L s2 i o (hget i o h1 ho) ha).choose_spec).1;have g := kX (n0 := hp.length) (l := hpart ops n) (i := i);rw [List.getElem?_append_right g, List.getElem?_replicate, if_pos (by rw [LL.1] at this; omega)]
 · refine RelV.mono pE ?_;have hnw : ∀ o ∈ hpart ops n, o.dst ≠ some u := by
    intro o ho hd';obtain ⟨i, hi⟩ := inh o ho;obtain ⟨k1, k2⟩ := hget' i o hi;have := hu i o k1 k2 hd';rw [getD_replicate_false] at this; cases this
   show RelV _ (lookT t2 u) _;rw [Llook u hnw];exact R'.tmps u
end
end
end Go.Proofs.YtmlcglmbjjmijaaGreatDoor.Ev
