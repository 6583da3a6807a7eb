/- The evaluator's append does what the model's does. -/
import Derived.Test.YtincnfjihffllaaEv12
namespace Go.Proofs.Ytincnfjihffllaa.Ev
open Go Go.RowKit
set_option linter.unusedVariables false
set_option linter.unusedSimpArgs false

section
variable {P : Program} {G : Nat → TI} {base : Nat} {O0 : Nat → Prop} {μ : Nat → Nat} {hp : List Blk} {w w' : World}

theorem growBy_le (need : Nat) : ∀ (r c : Nat), c ≤ need → Builtin.growBy need r c ≤ 2 * need + 200
  | 0, c, h => by simp only [Builtin.growBy]; omega
  | r + 1, c, h => by
    simp only [Builtin.growBy]
    split
    · omega
    · rename_i hlt
      by_cases h2 : c + (c + 768) / 4 ≤ need
      · exact growBy_le need r _ h2
      · cases r with
        | zero => simp only [Builtin.growBy]; omega
        | succ r =>
          simp only [Builtin.growBy]
          rw [if_pos (by omega)]
          omega

theorem nextcap_le {need cap : Nat} (h : cap < need) : Builtin.nextslicecap need cap ≤ 2 * need + 512 := by
  unfold Builtin.nextslicecap
  split
  · omega
  · split
    · omega
    · have := growBy_le need 4 cap (by omega)
      omega

/-- cells that lie in memory, from an address on -/
def Lies (w : World) (A : Option Addr) (cs : Array Value) : Prop := ∀ q, q < cs.size → ∃ a, A = some a ∧ w.cell? (a.add q) = some (cs.getD q undef)

theorem run_firstCells {A : Option Addr} {n cap sz : Nat} {cs : Array Value} (hl : Lies w A cs) (hs : cs.size = n * sz) : (Builtin.firstCells sz n (.slice A n cap)).run P w = .ok cs w := by
  cases A with
  | none =>
    have h0 : cs.size = 0 := by
      rcases Nat.eq_zero_or_pos cs.size with h | h
      · exact h
      · obtain ⟨a, h1, _⟩ := hl 0 h; cases h1
    have : cs = #[] := by simpa using h0
    subst this
    rfl
  | some a =>
    simp only [Builtin.firstCells]
    rw [← hs, run_loadCells w a cs.size (fun q => cs.getD q undef) (fun q hq => by obtain ⟨a', h1, h2⟩ := hl q hq; injection h1 with h1; subst h1; exact h2)]
    congr 1
    apply Array.ext
    · simp
    · intro i h1 h2
      simp [Array.getD_eq_getD_getElem?, h2]

/-- the world, a draw later -/
def drewW (w : World) : World := { w with drawn := w.drawn + 1 }
theorem below_drew (B : Nat) (w : World) : Below B w (drewW w) := ⟨rfl, rfl, rfl, Nat.le_refl _, fun _ _ => rfl⟩

def stA (A : Option Addr) (off : Nat) (vs : List Value) : Sem Unit := match A with
  | some a => storeCells (a.add off) vs
  | none => pure ()

theorem run_append {t t2 e e2 sz by_ : Nat} {k : TK} {z : List AV} {fl : Option (List (Option IntKind))} {i : TypeInfo} {d : TypeDesc} {v : Value} (hu : P.underlying t = some (.slice e)) (hu2 : P.underlying t2 = some (.slice e2))
    (T : TOK P e k sz by_ z fl i d v) (hby : by_ ≤ 128) (hz : z.length = sz) {ts : Array TypeId} {rest : List TypeId} (hts : ts.toList = t :: t2 :: rest) {ty : TypeId} {A B : Option Addr} {sLen sCap n xc : Nat} {old new : Array Value}
    (ho : Lies w A old) (hos : old.size = sLen * sz) (hn : Lies w B new) (hns : new.size = n * sz) (hneed : ((sLen + n : Nat) : Int) ≤ most) :
    (sLen + n ≤ sCap ∧ (Builtin.append_ ts ty #[.slice A sLen sCap, .slice B n xc]).run P w =
      ((stA A (sLen * sz) new.toList).run P w).andThen fun _ w' => .ok (.slice A (sLen + n) sCap) w') ∨
    (sCap < sLen + n ∧ ∃ cap rest', sLen + n ≤ cap ∧ rest'.size = (cap - (sLen + n)) * sz ∧
      (Builtin.append_ ts ty #[.slice A sLen sCap, .slice B n xc]).run P w = .ok (.slice (some ⟨w.heap.size, 0, none⟩) (sLen + n) cap) (pushW (drewW w) (.cells (old ++ new ++ rest') e))) := by
  have hts' := ofList_eq hts
  subst hts'
  have hzs : v.cells.size = sz := by rw [← hz, ← T.zc]; simp
  have hsz : ∀ w, (sizeOf e).run P w = .ok sz w := fun w => by rw [run_sizeOf' T.info, T.size]
  have hti : ∀ w, (typeInfo e).run P w = .ok i w := fun w => run_typeInfo' T.info w
  have hzr : ∀ w, (zeroValue e).run P w = .ok v w := fun w => by simp [zeroValue, run_typeInfo' T.info, T.zer]
  have hmost : most = 17179869184 := rfl
  by_cases hc : sLen + n ≤ sCap
  · refine .inl ⟨hc, ?_⟩
    simp only [Builtin.append_, Sem.run_bind, List.getElem?_toArray, List.getElem?_cons_zero, List.getElem?_cons_succ, Result.andThen_ok, run_underlying' hu, run_underlying' hu2, hsz, Sem.run_pure, Builtin.lenOf, Bool.false_eq_true, if_false]
    rw [if_pos hc]
    simp only [Bool.not_false, if_true, Sem.run_bind, run_firstCells hn hns, Result.andThen_ok]
    cases A with
    | none => rfl
    | some a => simp [stA]
  · refine .inr ⟨by omega, ?_⟩
    have hib : i.bytes = by_ := T.byt
    have hnc := nextcap_le (need := sLen + n) (cap := sCap) (by omega)
    have hcapb : ¬ Builtin.nextslicecap (sLen + n) sCap * by_ > 2 ^ 48 := by
      have : Builtin.nextslicecap (sLen + n) sCap * by_ ≤ (2 * (sLen + n) + 512) * 128 := Nat.mul_le_mul hnc hby
      omega
    have hmax : ¬ (((sLen + n : Nat) : Int) > IntKind.i64.max ∧ (False ∨ by_ = 0)) := by
      rintro ⟨h, _⟩
      have : IntKind.i64.max = 9223372036854775807 := by decide
      omega
    refine ⟨(Question.appendCap (sLen + n) sCap e).cut (w.tape w.drawn (.appendCap (sLen + n) sCap e)), Builtin.zeroCells v.cells ((Question.appendCap (sLen + n) sCap e).cut (w.tape w.drawn (.appendCap (sLen + n) sCap e)) - (sLen + n)), ?_, ?_, ?_⟩
    · simp only [Question.cut]; omega
    · simp [Builtin.zeroCells, hzs]
    · simp only [Builtin.append_, Sem.run_bind, List.getElem?_toArray, List.getElem?_cons_zero, List.getElem?_cons_succ, Result.andThen_ok, run_underlying' hu, run_underlying' hu2, hsz, Sem.run_pure, Builtin.lenOf, Bool.false_eq_true, if_false]
      rw [if_neg hc]
      simp only [Sem.run_bind, hti, Result.andThen_ok, hib]
      rw [if_neg hmax]
      simp only [Sem.run_bind, hti, Result.andThen_ok, hib]
      rw [if_neg hcapb]
      have hoD : Lies (drewW w) A old := ho
      have hnD : Lies (drewW w) B new := hn
      simp only [Sem.run_bind, run_choose, Question.forced, Bool.false_eq_true, if_false, Result.andThen_ok, hti, run_askRoom]
      rw [show ({ w with drawn := w.drawn + 1 } : World) = drewW w from rfl, run_firstCells hoD hos]
      simp only [Bool.not_false, if_true, Result.andThen_ok, run_firstCells hnD hns, hzr, newRow, Sem.run_bind, run_newObj, Sem.run_pure]
      rfl

theorem set_dead_get {b b' : Nat} {y : Blk} (h : (hp.set b .dead)[b']? = some y) (hd : y.dim ≠ none) : b' ≠ b ∧ hp[b']? = some y := by
  rw [List.getElem?_set] at h
  split at h
  · split at h
    · injection h with h; subst h; exact absurd rfl hd
    · cases h
  · rename_i hne; exact ⟨fun e => hne e.symm, h⟩

theorem set_dead_wr {b b' : Nat} (h : wrB (hp.set b .dead) b' = true) : b' ≠ b ∧ wrB hp b' = true := by
  unfold wrB at h ⊢
  by_cases he : b = b'
  · subst he
    rw [List.getElem?_set, if_pos rfl] at h
    by_cases hl : b < hp.length
    · rw [if_pos hl] at h; simp [Blk.wr] at h
    · rw [if_neg hl] at h; simp [Blk.wr] at h
  · rw [List.getElem?_set, if_neg he] at h
    exact ⟨fun e => he e.symm, h⟩
theorem set_dead_dim {b b' : Nat} {n : Nat × Nat} (h : dimB (hp.set b .dead) b' = some n) : b' ≠ b ∧ dimB hp b' = some n := by
  unfold dimB at h ⊢
  by_cases he : b = b'
  · subst he
    rw [List.getElem?_set, if_pos rfl] at h
    by_cases hl : b < hp.length
    · rw [if_pos hl] at h; simp [Blk.dim] at h
    · rw [if_neg hl] at h; simp [Blk.dim] at h
  · rw [List.getElem?_set, if_neg he] at h
    exact ⟨fun e => he e.symm, h⟩

theorem Ext.reuse (H : HR base O0 μ hp w) {b : Nat} {x : Blk} {c c' : Array Value} {e : TypeId} {fr : Nat × Nat} (hb : b < hp.length) (hw : wrB hp b = true) (T : Turned (μ b) w w' c c' e) (hc : w.heap[μ b]? = some (.cells c e fr)) :
    Ext (mkX base O0 μ hp w) (mkX base O0 (μnew μ hp.length (μ b)) (hp.set b .dead ++ [x]) w') := by
  have hlen : (hp.set b .dead).length = hp.length := by simp
  refine ⟨fun n hn => ?_, fun b' hb' => ?_, by simp [mkX], fun b' hb' n h => ?_, fun a v ho hcell => ?_, fun r s hs => ?_⟩
  · rcases hn with h | ⟨h1, h2, h3⟩
    · exact .inl h
    · refine .inr ⟨h1, by have := T.size; omega, fun b' hb' => ?_⟩
      have h4 : wrB (hp.set b .dead ++ [x]) b' = true := hb'
      rw [wrB_app, hlen] at h4
      show μnew μ hp.length (μ b) b' ≠ n
      unfold μnew
      split
      · exact h3 b hw
      · rename_i hne
        split at h4
        · exact h3 b' (set_dead_wr h4).2
        · cases h4
  · have hb'' : b' < hp.length := hb'
    show μnew μ hp.length (μ b) b' = μ b'
    unfold μnew
    rw [if_neg (by omega)]
  · have hb'' : b' < hp.length := hb'
    have h' : dimB (hp.set b .dead ++ [x]) b' = some n := h
    rw [dimB_app, hlen, if_pos hb''] at h'
    exact (set_dead_dim h').2
  · have hne : a.block ≠ μ b := by
      rcases ho with ⟨h1, _⟩ | ⟨_, _, h3⟩
      · have := H.low b (dim_of_wr hw); omega
      · exact fun e => h3 b hw e.symm
    have hcell' : w.cell? a = some v := hcell
    show w'.cell? a = some v
    unfold World.cell? at hcell' ⊢
    rw [T.other _ hne]; exact hcell'
  · by_cases he : r = μ b
    · subst he; exact T.shape hc s hs
    · exact (shape_of_block (T.other r he)).trans hs

theorem HR.reuse (H : HR base O0 μ hp w) {b : Nat} {x : Blk} {c c' : Array Value} {e : TypeId} {fr : Nat × Nat} (hb : b < hp.length) (hw : wrB hp b = true) (T : Turned (μ b) w w' c c' e) (hc : w.heap[μ b]? = some (.cells c e fr))
    (hx : BlkR (mkX base O0 (μnew μ hp.length (μ b)) (hp.set b .dead ++ [x]) w') (μ b) x) : HR base O0 (μnew μ hp.length (μ b)) (hp.set b .dead ++ [x]) w' := by
  have ex := Ext.reuse H (x := x) hb hw T hc
  have hlen : (hp.set b .dead).length = hp.length := by simp
  have key : ∀ b', dimB (hp.set b .dead ++ [x]) b' ≠ none → b' = hp.length ∨ (b' ≠ hp.length ∧ b' ≠ b ∧ dimB hp b' ≠ none) := by
    intro b' h
    rw [dimB_app, hlen] at h
    split at h
    · rename_i hl
      cases hd : dimB (hp.set b .dead) b' with
      | none => exact absurd hd h
      | some n => obtain ⟨q1, q2⟩ := set_dead_dim hd; exact .inr ⟨by omega, q1, by rw [q2]; simp⟩
    · split at h
      · exact .inl ‹_›
      · exact absurd rfl h
  have keyw : ∀ b', wrB (hp.set b .dead ++ [x]) b' = true → b' = hp.length ∨ (b' ≠ hp.length ∧ b' ≠ b ∧ wrB hp b' = true) := by
    intro b' h
    rw [wrB_app, hlen] at h
    split at h
    · rename_i hl
      obtain ⟨q1, q2⟩ := set_dead_wr h
      exact .inr ⟨by omega, q1, q2⟩
    · split at h
      · exact .inl ‹_›
      · cases h
  refine ⟨by rw [T.size]; exact H.all, fun b' y hb' => ?_, fun b' h => ?_, fun b1 b2 h1 h2 h3 => ?_⟩
  · rw [List.getElem?_append, hlen] at hb'
    split at hb'
    · rename_i hl
      cases hy : y.dim with
      | none => cases y <;> first | trivial | simp [Blk.dim] at hy
      | some n =>
        obtain ⟨hne, hg⟩ := set_dead_get hb' (by rw [hy]; simp)
        have hdy : dimB hp b' ≠ none := by simp [dimB, hg, hy]
        show BlkR _ (μnew μ hp.length (μ b) b') y
        unfold μnew
        rw [if_neg (by omega)]
        exact (H.blk b' _ hg).mono ex (T.other _ (fun e1 => hne (H.inj b b' hw hdy e1.symm).symm))
    · have : b' = hp.length := by
        rcases Nat.lt_or_ge (b' - hp.length) 1 with h1 | h1
        · omega
        · rw [List.getElem?_eq_none (by simpa using h1)] at hb'; cases hb'
      subst this
      simp at hb'
      subst hb'
      show BlkR _ (μnew μ hp.length (μ b) hp.length) x
      unfold μnew
      rw [if_pos rfl]
      exact hx
  · unfold μnew
    rcases key b' h with h | ⟨h1, h2, h3⟩
    · rw [if_pos h]; exact H.low b (dim_of_wr hw)
    · rw [if_neg h1]; exact H.low b' h3
  · unfold μnew at h3
    rcases keyw b1 h1 with q1 | ⟨q1, q2, q3⟩ <;> rcases key b2 h2 with r1 | ⟨r1, r2, r3⟩
    · omega
    · rw [if_pos q1, if_neg r1] at h3
      exact absurd (H.inj b b2 hw r3 h3).symm r2
    · rw [if_neg q1, if_pos r1] at h3
      exact absurd (H.inj b1 b q3 (dim_of_wr hw) h3) q2
    · rw [if_neg q1, if_neg r1] at h3
      exact H.inj b1 b2 q3 r3 h3

/-- the tape is asked: nothing turns -/
theorem HR.drew (H : HR base O0 μ hp w) : HR base O0 μ hp (drewW w) := H.grow (below_drew _ w)
theorem Ext.drew (H : HR base O0 μ hp w) : Ext (mkX base O0 μ hp w) (mkX base O0 μ hp (drewW w)) := Ext.grow H.all (below_drew _ w)

/-- a block is let go -/
theorem HR.kill (H : HR base O0 μ hp w) {b : Nat} (hb : b < hp.length) : HR base O0 μ (hp.set b .dead) w ∧ Ext (mkX base O0 μ hp w) (mkX base O0 μ (hp.set b .dead) w) :=
  ⟨HR.turn H hb (.inr rfl) (fun h => by simp [Blk.wr] at h) (.inl rfl) rfl (fun _ _ => rfl) (fun _ h => h) trivial,
   Ext.turn H (.inr rfl) (fun h => by simp [Blk.wr] at h) (.inl rfl) rfl (fun _ _ => rfl) (fun _ h => h)⟩

/-! ### what is appended -/
theorem lies_of_blk {A : Option Addr} {g off m : Nat} {c : Array Value} {e : TypeId} {fr : Nat × Nat} (hA : 0 < m → A = some ⟨g, off, none⟩) (hc : w.heap[g]? = some (.cells c e fr)) (hle : off + m ≤ c.size) : Lies w A (c.extract off (off + m)) := by
  intro q hq
  simp at hq
  refine ⟨⟨g, off, none⟩, hA (by omega), ?_⟩
  rw [addr_add rfl, getD_extract _ _ _ _ (by omega)]
  simp only [World.cell?, hc]
  exact some_of_getD (by omega)

structure Src (w : World) (vy : Value) (m : SI) (sz : Nat) (new : Array Value) : Prop where
  form : ∃ B xc, vy = .slice B m.val.toNat xc ∧ Lies w B new
  pos : 0 ≤ m.val
  size : new.size = m.val.toNat * sz

theorem list_eq_map (l : List Int) (k : IntKind) (i : Nat) (n : Int) (h : l[i]? = some n) : (l.map (fun n => Value.int k n)).toArray.getD i undef = .int k n := by
  simp [Array.getD_eq_getD_getElem?, h]

theorem srcInts_spec (H : HR base O0 μ hp w) {b : Option Nat} {k : IntKind} {y : AV} {vy : Value} {m : SI} {ys : List Int} (hy : RelV (mkX base O0 μ hp w) y vy) (h : srcInts (realE P) hp b k y = some (m, ys)) :
    ∃ new, Src w vy m 1 new ∧ ys.length = m.val.toNat ∧ ∀ (i : Nat) (n : Int), ys[i]? = some n → new.getD i undef = .int k n := by
  unfold srcInts at h
  split at h
  · rename_i c sz row len
    obtain ⟨hc, h0, h1, A, cap, rfl, hle, hA, hd⟩ := (show LeafR _ (.ms c sz row len) vy from hy)
    cases hg : sameB b c with
    | true => rw [hg] at h; cases h
    | false =>
      rw [hg, cond_false] at h
      split at h
      · rename_i wr k' l hblk
        cases hk : ikEq k k' with
        | false => rw [hk] at h; cases h
        | true =>
          rw [hk, cond_true] at h
          have := ikEq_eq hk
          subst this
          injection h with h
          injection h with e1 e2
          subst e1 e2
          have hb' := getBlk_some hblk (by simp)
          obtain ⟨ca, e, hcell, hh⟩ := H.blk c _ hb'
          have hdim : dimB hp c = some (l.length, 1) := by simp [dimB, hb', Blk.dim]
          obtain ⟨q1, q2, e', mm, q3, q4⟩ := hd _ _ hdim
          subst q2
          have hcellw : w.heap[μ c]? = some (.cells ca e (0, 0)) := hcell
          have hmm : mm = ca.size := by
            have q3' : w.shape? (μ c) = some (e', mm) := q3
            simp only [World.shape?, hcellw] at q3'
            injection q3' with q3'
            injection q3' with _ q3'
            exact q3'.symm
          refine ⟨ca.extract row.val.toNat (row.val.toNat + len.val.toNat), ⟨⟨A, cap, rfl, lies_of_blk (g := μ c) (off := row.val.toNat) (m := len.val.toNat) (fun hp => by rw [hA (by omega), Nat.mul_one]; rfl) hcellw (by omega)⟩, h1, by simp; omega⟩, ?_, fun i n hi => ?_⟩
          · show ((l.drop row.val.toNat).take len.val.toNat).length = _
            simp; omega
          · have hi' : ((l.drop row.val.toNat).take len.val.toNat)[i]? = some n := hi
            rw [List.getElem?_take] at hi'
            split at hi'
            · rw [List.getElem?_drop] at hi'
              rw [getD_extract _ _ _ _ (by omega)]
              have := hh _ n hi'
              rw [Array.getD_eq_getD_getElem?, this]
              rfl
            · cases hi'
      · cases h
  · rename_i k' l
    cases hk : ikEq k k' with
    | false => rw [hk] at h; cases h
    | true =>
      rw [hk, cond_true] at h
      have := ikEq_eq hk
      subst this
      injection h with h
      injection h with e1 e2
      subst e1 e2
      have hv : (SI.s ((realE P).len l)).val = (l.length : Int) := rfl
      refine ⟨(l.map (fun n => Value.int k n)).toArray, ⟨?_, by rw [hv]; omega, by rw [hv]; simp⟩, by rw [hv]; simp, fun i n hi => list_eq_map l k i n hi⟩
      rw [hv]
      cases (show RoV _ _ (.sli k l) vy from hy) with
      | sli _ _ a cap hs ho hp h =>
        refine ⟨some a, cap, rfl, fun q hq => ⟨a, rfl, ?_⟩⟩
        rw [addr_add hs]
        have hql : q < l.length := by simpa using hq
        have := h q l[q] (List.getElem?_eq_getElem hql)
        rw [list_eq_map l k q l[q] (List.getElem?_eq_getElem hql)]
        exact this
      | sliN _ A cap => exact ⟨A, cap, rfl, fun q hq => by simp at hq⟩
  · cases h

theorem srcRows_spec (H : HR base O0 μ hp w) {b : Option Nat} {sz : Nat} {y : AV} {vy : Value} {m : SI} {ys : List (List AV)} (hy : RelV (mkX base O0 μ hp w) y vy) (h : srcRows (realE P) hp b sz y = some (m, ys)) :
    ∃ new, Src w vy m sz new ∧ ys.length = m.val.toNat ∧ ∀ (i : Nat) (r : List AV), ys[i]? = some r → r.length = sz ∧ ∀ (j : Nat) (a : AV), r[j]? = some a → LeafR (mkX base O0 μ hp w) a (new.getD (i * sz + j) undef) := by
  unfold srcRows at h
  split at h
  · rename_i c sz' row len
    obtain ⟨hc, h0, h1, A, cap, rfl, hle, hA, hd⟩ := (show LeafR _ (.ms c sz' row len) vy from hy)
    cases hg : sameB b c with
    | true => rw [hg] at h; cases h
    | false =>
      rw [hg, cond_false] at h
      split at h
      · rename_i wr sz'' d l hblk
        cases hk : Nat.beq sz sz' && Nat.beq sz sz'' with
        | false => rw [hk] at h; cases h
        | true =>
          rw [hk, cond_true] at h
          simp only [Bool.and_eq_true] at hk
          have e1 := Nat.eq_of_beq_eq_true hk.1
          have e2 := Nat.eq_of_beq_eq_true hk.2
          subst e1 e2
          have hb' := getBlk_some hblk (by simp)
          obtain ⟨hdl, ca, e, hcell, hh⟩ := H.blk c _ hb'
          have hdim : dimB hp c = some (l.length, sz) := by simp [dimB, hb', Blk.dim]
          obtain ⟨q1, q2, e', mm, q3, q4⟩ := hd _ _ hdim
          have hys : ys = (l.drop row.val.toNat).take len.val.toNat ∧ m = len := by
            injection h with h
            injection h with e1 e2
            refine ⟨?_, e1.symm⟩
            rw [← e2]
            split
            · rename_i n
              cases hdec : decide (Int.ofNat (lenR l) = n) with
              | true =>
                rw [cond_true]
                have := of_decide_eq_true hdec
                rw [lenR_eq] at this
                simp only [SI.val]
                rw [← this]
                simp
              | false => rfl
            · rfl
          obtain ⟨rfl, rfl⟩ := hys
          have hcellw : w.heap[μ c]? = some (.cells ca e (0, 0)) := hcell
          have hmm : mm = ca.size := by
            have q3' : w.shape? (μ c) = some (e', mm) := q3
            simp only [World.shape?, hcellw] at q3'
            injection q3' with q3'
            injection q3' with _ q3'
            exact q3'.symm
          have hle2 : row.val.toNat * sz + m.val.toNat * sz ≤ ca.size := by
            rw [← hmm, ← Nat.add_mul]
            exact Nat.le_trans (Nat.mul_le_mul_right _ (by omega)) q4
          refine ⟨ca.extract (row.val.toNat * sz) (row.val.toNat * sz + m.val.toNat * sz), ⟨⟨A, cap, rfl, lies_of_blk (g := μ c) (off := row.val.toNat * sz) (m := m.val.toNat * sz) (fun hp => ?_) hcellw hle2⟩, h1, by simp; omega⟩, by simp; omega, fun i r hi => ?_⟩
          · have hcp : 0 < cap := by
              rcases Nat.eq_zero_or_pos cap with h | h
              · exfalso
                have h7 : m.val.toNat = 0 := by omega
                rw [h7, Nat.zero_mul] at hp
                omega
              · exact h
            rw [hA hcp]
            rfl
          · rw [List.getElem?_take] at hi
            split at hi
            · rename_i hlt
              rw [List.getElem?_drop] at hi
              obtain ⟨r1, r2⟩ := hh _ r hi
              refine ⟨r1, fun j a hj => ?_⟩
              obtain ⟨y, s1, s2⟩ := r2 j a hj
              have hjl := (List.getElem?_eq_some_iff.1 hj).1
              have h3 : i * sz + sz ≤ m.val.toNat * sz := by
                have := Nat.mul_le_mul_right sz (Nat.succ_le_of_lt hlt)
                rw [Nat.succ_mul] at this; exact this
              rw [getD_extract _ _ _ _ (by omega), show row.val.toNat * sz + (i * sz + j) = (row.val.toNat + i) * sz + j by rw [Nat.add_mul]; omega, Array.getD_eq_getD_getElem?, s1]
              exact s2
            · cases hi
      · cases h
  · rename_i sz' n f
    cases hk : Nat.beq sz sz' with
    | false => rw [hk] at h; cases h
    | true =>
      rw [hk, cond_true] at h
      have e1 := Nat.eq_of_beq_eq_true hk
      subst e1
      injection h with h
      injection h with e1 e2
      subst e1 e2
      have hrof : (realE P).rof n.val f = (List.range n.val.toNat).map f := rfl
      rw [hrof]
      cases (show RoV _ _ (.slc sz n f) vy from hy) with
      | slc _ _ _ a cap Y hs ho hm0 hp2 hll hc hr =>
        refine ⟨((List.range (n.val.toNat * sz)).map fun q => Y (q / sz) (q % sz)).toArray, ⟨⟨some a, cap, rfl, fun q hq => ⟨a, rfl, ?_⟩⟩, hm0, by simp⟩, by simp, fun i r hi => ?_⟩
        · have hql : q < n.val.toNat * sz := by simpa using hq
          have hsz0 : 0 < sz := by rcases Nat.eq_zero_or_pos sz with h | h; rw [h] at hql; simp at hql; exact h
          have hdiv : q / sz < n.val.toNat := (Nat.div_lt_iff_lt_mul hsz0).2 hql
          have hmod := Nat.mod_lt q hsz0
          have hlen := hll _ hdiv
          have := hc (q / sz) (q % sz) _ hdiv (List.getElem?_eq_getElem (by rw [hlen]; exact hmod))
          rw [addr_add hs]
          have hq2 : q / sz * sz + q % sz = q := by rw [Nat.mul_comm]; exact Nat.div_add_mod q sz
          rw [hq2] at this
          simp only [Array.getD_eq_getD_getElem?]
          simp [hql]
          exact this
        · rw [List.getElem?_map, Option.map_eq_some_iff] at hi
          obtain ⟨i', h1, rfl⟩ := hi
          have hi' : i < n.val.toNat := by have := (List.getElem?_eq_some_iff.1 h1).1; simpa using this
          have : i' = i := by simp [hi'] at h1; exact h1.symm
          subst this
          refine ⟨hll _ hi', fun j a hj => ?_⟩
          have hjl : j < sz := by have := (List.getElem?_eq_some_iff.1 hj).1; rw [hll _ hi'] at this; exact this
          have hlt : i' * sz + j < n.val.toNat * sz := by
            have := Nat.mul_le_mul_right sz (Nat.succ_le_of_lt hi')
            rw [Nat.succ_mul] at this
            omega
          have hd : (i' * sz + j) / sz = i' := by
            rw [Nat.mul_comm, Nat.mul_add_div (by omega)]
            rw [Nat.div_eq_of_lt hjl]; rfl
          have hm : (i' * sz + j) % sz = j := by
            rw [Nat.mul_comm, Nat.mul_add_mod]
            exact Nat.mod_eq_of_lt hjl
          have : (((List.range (n.val.toNat * sz)).map fun q => Y (q / sz) (q % sz)).toArray.getD (i' * sz + j) undef) = Y i' j := by
            simp only [Array.getD_eq_getD_getElem?]
            simp [hlt, hd, hm]
          rw [this]
          exact leafR_of_ro (hr i' j a hi' hj)
      | slcN _ _ _ A cap hm =>
        refine ⟨#[], ⟨⟨A, cap, by rw [hm]; rfl, fun q hq => by simp at hq⟩, by omega, by rw [hm]; simp⟩, by simp, fun i r hi => ?_⟩
        rw [hm] at hi
        simp at hi
  · cases h

theorem cell_inv {g : Nat} {c : Array Value} {e e' mm : Nat} {fr : Nat × Nat} (h : w.heap[g]? = some (.cells c e fr)) (h2 : w.shape? g = some (e', mm)) : mm = c.size := by
  simp only [World.shape?, h] at h2
  injection h2 with h2
  injection h2 with _ h2
  exact h2.symm

theorem getD_app3 {a b c : Array Value} {q : Nat} : (a ++ b ++ c).getD q undef = if q < a.size then a.getD q undef else if q < a.size + b.size then b.getD (q - a.size) undef else c.getD (q - (a.size + b.size)) undef := by
  rw [getD_append]
  simp only [Array.size_append]
  by_cases h1 : q < a.size
  · rw [if_pos (by omega), if_pos h1, getD_append, if_pos h1]
  · rw [if_neg h1]
    by_cases h2 : q < a.size + b.size
    · rw [if_pos h2, if_pos h2, getD_append, if_neg h1]
    · rw [if_neg h2, if_neg h2]

/-- the model's append onto a row of the call's own; what lies in the row that comes of it -/
theorem append_own (H : HR base O0 μ hp w) {t t2 e e2 sz by_ : Nat} {k : TK} {z : List AV} {fl : Option (List (Option IntKind))} {i : TypeInfo} {d : TypeDesc} {v : Value} (hu : P.underlying t = some (.slice e)) (hu2 : P.underlying t2 = some (.slice e2))
    (T : TOK P e k sz by_ z fl i d v) (hby : by_ ≤ 128) (hz : z.length = sz) {ts : Array TypeId} {rest : List TypeId} (hts : ts.toList = t :: t2 :: rest) {ty : TypeId} {b psz : Nat} {n m : SI} {vx vy : Value} {x : Blk} {new : Array Value}
    (hx : RelV (mkX base O0 μ hp w) (.ms b psz (.l 0) n) vx) (hb' : hp[b]? = some x) (hdim : ∃ N, x.dim = some (N, sz)) (hwr : x.wr = true) (hsrc : Src w vy m sz new) (hone : ∀ q, q < new.size → (new.getD q undef).oneCell' = true)
    (hneed : n.val + m.val ≤ most) (mk : Blk) (hmk : mk.dim = some (n.val.toNat + m.val.toNat, sz))
    (hblk : ∀ (x' : X) (g : Nat) (c c' : Array Value) (e1 e2 : TypeId), Ext (mkX base O0 μ hp w) x' → w.heap[μ b]? = some (.cells c e1 (0, 0)) → x'.w.heap[g]? = some (.cells c' e2 (0, 0)) → n.val.toNat * sz ≤ c.size → n.val.toNat * sz + m.val.toNat * sz ≤ c'.size →
      (∀ q, q < n.val.toNat * sz → c'.getD q undef = c.getD q undef) → (∀ q, q < m.val.toNat * sz → c'.getD (n.val.toNat * sz + q) undef = new.getD q undef) → BlkR x' g mk) {K : AV → List Blk → Prop}
    (hK : K (.ms (lenB hp) sz (.l 0) (siAdd (realE P) n m)) (appB (setBlk hp b .dead) mk)) :
    ∃ val w', (Builtin.append_ ts ty #[vx, vy]).run P w = .ok val w' ∧ Res base O0 μ hp w K val w' := by
  obtain ⟨hbl, _, hn0, A, cap, rfl, hle, hA, hd⟩ := (show LeafR _ (.ms b psz (.l 0) n) vx from hx)
  obtain ⟨⟨B, xc, rfl, hlies⟩, hm0, hnsz⟩ := hsrc
  obtain ⟨N, hN⟩ := hdim
  have hdimb : dimB hp b = some (N, sz) := by simp [dimB, hb', hN]
  have hwrb : wrB hp b = true := by simp [wrB, hb', hwr]
  obtain ⟨q1, q2, e', mm, q3, q4⟩ := hd _ _ hdimb
  subst q2
  have z0 : (SI.l 0).val.toNat = 0 := rfl
  rw [z0, Nat.zero_add] at q1 q4
  obtain ⟨c, hcellw⟩ : ∃ c e, w.heap[μ b]? = some (.cells c e (0, 0)) := by
    have := H.blk b x hb'
    cases x with
    | dead => simp [Blk.wr] at hwr
    | ints wr k l => obtain ⟨c, e, h1, _⟩ := this; exact ⟨c, e, h1⟩
    | rows wr sz d l => obtain ⟨_, c, e, h1, _⟩ := this; exact ⟨c, e, h1⟩
  obtain ⟨ce, hcellw⟩ := hcellw
  have hmm := cell_inv hcellw q3
  subst hmm
  have hlec : n.val.toNat * sz ≤ c.size := Nat.le_trans (Nat.mul_le_mul_right _ hle) q4
  have hA' : 0 < cap → A = some ⟨μ b, 0, none⟩ := fun h => by rw [hA h, z0, Nat.zero_mul]; rfl
  have hAn : 0 < n.val.toNat * sz → A = some ⟨μ b, 0, none⟩ := fun h => hA' (by
    rcases Nat.eq_zero_or_pos n.val.toNat with h2 | h2
    · rw [h2, Nat.zero_mul] at h; omega
    · omega)
  have hold := lies_of_blk (w := w) (A := A) (g := μ b) (off := 0) (m := n.val.toNat * sz) hAn hcellw (by omega)
  rw [Nat.zero_add] at hold
  have hneedN : ((n.val.toNat + m.val.toNat : Nat) : Int) ≤ most := by omega
  have hadd : (siAdd (realE P) n m).val = n.val + m.val := siAdd_real n m
  have haddN : (siAdd (realE P) n m).val.toNat = n.val.toNat + m.val.toNat := by rw [hadd]; omega
  rw [lenB_eq, appB_eq, setBlk_eq] at hK
  have hlen : (hp.set b .dead).length = hp.length := by simp
  rcases run_append (P := P) (w := w) (ty := ty) hu hu2 T hby hz hts (sCap := cap) (xc := xc) hold (by simp; omega) hlies hnsz hneedN with ⟨hc, hrun⟩ | ⟨hc, cap', rest', hc1, hc2, hrun⟩
  · -- in place
    obtain ⟨w', c', hst, T', hcs⟩ : ∃ w' c', (stA A (n.val.toNat * sz) new.toList).run P w = .ok () w' ∧ Turned (μ b) w w' c c' ce ∧
        ∀ q, c'.getD q undef = if n.val.toNat * sz ≤ q ∧ q < n.val.toNat * sz + m.val.toNat * sz then new.getD (q - n.val.toNat * sz) undef else c.getD q undef := by
      rcases Nat.eq_zero_or_pos cap with h0 | h0
      · have hn00 : n.val.toNat = 0 := by omega
        have hm00 : m.val.toNat = 0 := by omega
        have hnew : new = #[] := by have : new.size = 0 := by rw [hnsz, hm00, Nat.zero_mul]
                                    simpa using this
        refine ⟨w, c, ?_, ⟨rfl, fun _ _ => rfl, rfl, rfl, rfl, hcellw, rfl⟩, fun q => by rw [if_neg (by rw [hn00, hm00]; omega)]⟩
        subst hnew
        cases A <;> rfl
      · rw [hA' h0]
        have hfit : n.val.toNat * sz + m.val.toNat * sz ≤ c.size := by
          rw [← Nat.add_mul]
          exact Nat.le_trans (Nat.mul_le_mul_right _ hc) q4
        obtain ⟨w', c', r1, T', r2⟩ := run_storeCells (P := P) (off := n.val.toNat * sz) new.toList 0 w c hcellw (fun u hu' => by
          obtain ⟨j, hj, rfl⟩ := List.getElem_of_mem hu'
          have hj' : j < new.size := by simpa using hj
          have := hone j hj'
          rw [Array.getD_eq_getD_getElem?, Array.getElem?_eq_getElem hj'] at this
          simpa using this) (by simp; omega)
        refine ⟨w', c', ?_, T', fun q => ?_⟩
        · show (storeCells ((⟨μ b, 0, none⟩ : Addr).add (n.val.toNat * sz)) new.toList).run P w = _
          rw [addr_add rfl, Nat.zero_add]
          exact r1
        · rw [r2 q]
          simp only [Nat.add_zero, Array.length_toList, hnsz]
          split
          · simp [Array.getD_eq_getD_getElem?]
          · rfl
    rw [hst] at hrun
    have hfit : n.val.toNat * sz + m.val.toNat * sz ≤ c.size := by
      rw [← Nat.add_mul]
      exact Nat.le_trans (Nat.mul_le_mul_right _ hc) q4
    have ex := Ext.reuse H (x := mk) hbl hwrb T' hcellw
    have hB := hblk (mkX base O0 (μnew μ hp.length (μ b)) (hp.set b .dead ++ [mk]) w') (μ b) c c' ce ce ex hcellw T'.blk hlec (by rw [T'.csize]; exact hfit)
      (fun q hq => by rw [hcs q, if_neg (by omega)]) (fun q hq => by rw [hcs _, if_pos (by omega)]; congr 1; omega)
    refine ⟨_, _, hrun, _, _, _, hK, ?_, HR.reuse H hbl hwrb T' hcellw hB, ex, T'.below (H.low b (by rw [hdimb]; simp))⟩
    rw [← haddN]
    refine ⟨by simp [mkX], by rw [z0] at *; exact Int.le_refl 0, by omega, A, cap, rfl, by omega, fun h => ?_, fun n' s hn' => ?_⟩
    · rw [hA' h, z0, Nat.zero_mul]
      show some _ = some (⟨μnew μ hp.length (μ b) hp.length, 0, none⟩ : Addr)
      simp [μnew]
    · have hn'' : dimB (hp.set b .dead ++ [mk]) hp.length = some (n', s) := hn'
      rw [dimB_app, hlen, if_neg (by omega), if_pos rfl, hmk] at hn''
      injection hn'' with hn''
      injection hn'' with e1 e2
      refine ⟨by rw [z0]; omega, e2.symm, e', c.size, ?_, by rw [z0, Nat.zero_add]; exact q4⟩
      show w'.shape? (μnew μ hp.length (μ b) hp.length) = _
      rw [show μnew μ hp.length (μ b) hp.length = μ b by simp [μnew]]
      exact T'.shape hcellw _ q3
  · -- in a row of its own
    have H1 := HR.drew H
    obtain ⟨H2, X2⟩ := HR.kill H1 hbl
    have X12 := (Ext.drew H).trans X2
    have hbig : n.val.toNat * sz + m.val.toNat * sz ≤ (c.extract 0 (n.val.toNat * sz) ++ new ++ rest').size := by
      simp [hnsz]; omega
    have X3 := Ext.alloc H2 (.cells (c.extract 0 (n.val.toNat * sz) ++ new ++ rest') e) mk
    have hcs1 : (c.extract 0 (n.val.toNat * sz)).size = n.val.toNat * sz := by simp; omega
    have hB := hblk (mkX base O0 (μnew μ (hp.set b .dead).length (drewW w).heap.size) (hp.set b .dead ++ [mk]) (pushW (drewW w) (.cells (c.extract 0 (n.val.toNat * sz) ++ new ++ rest') e))) (drewW w).heap.size c
      (c.extract 0 (n.val.toNat * sz) ++ new ++ rest') ce e (X12.trans X3) hcellw (heap_push _ _) hlec hbig
      (fun q hq => by rw [getD_app3, hcs1, if_pos hq, getD_extract _ _ _ _ (by omega), Nat.zero_add]) (fun q hq => by rw [getD_app3, hcs1, if_neg (by omega), if_pos (by omega)]; congr 1; omega)
    refine ⟨_, _, hrun, _, _, _, hK, ?_, HR.alloc H2 _ _ hB, X12.trans X3, (below_drew _ w).trans ((below_push _ _).mono H.all)⟩
    rw [← haddN]
    have := rel_ms_new (base := base) (O0 := O0) (μ := μ) (hp := hp.set b .dead) (w := drewW w) (x := mk) (len := siAdd (realE P) n m) (cap := cap') (cells := c.extract 0 (n.val.toNat * sz) ++ new ++ rest') (e := e) hmk (by omega) (by omega) (by omega)
      (by simp [hnsz, hc2, hcs1]; rw [← Nat.add_mul, ← Nat.add_mul]; exact Nat.mul_le_mul_right _ (by omega))
    rw [lenB_eq, hlen] at this
    rw [hlen]
    exact this

/-- the model's append onto a slice without room -/
theorem append_new (H : HR base O0 μ hp w) {t t2 e e2 sz by_ : Nat} {k : TK} {z : List AV} {fl : Option (List (Option IntKind))} {i : TypeInfo} {d : TypeDesc} {v : Value} (hu : P.underlying t = some (.slice e)) (hu2 : P.underlying t2 = some (.slice e2))
    (T : TOK P e k sz by_ z fl i d v) (hby : by_ ≤ 128) (hz : z.length = sz) {ts : Array TypeId} {rest : List TypeId} (hts : ts.toList = t :: t2 :: rest) {ty : TypeId} {A : Option Addr} {m : SI} {vy : Value} {new : Array Value}
    (hsrc : Src w vy m sz new) (hneed : m.val ≤ most) (mk : Blk) (hmk : mk.dim = some (m.val.toNat, sz))
    (hblk : ∀ (x' : X) (g : Nat) (c' : Array Value) (e2 : TypeId), Ext (mkX base O0 μ hp w) x' → x'.w.heap[g]? = some (.cells c' e2 (0, 0)) → m.val.toNat * sz ≤ c'.size →
      (∀ q, q < m.val.toNat * sz → c'.getD q undef = new.getD q undef) → BlkR x' g mk) {K : AV → List Blk → Prop}
    (hK0 : m.val = 0 → K .s0 hp) (hK : m.val ≠ 0 → K (.ms (lenB hp) sz (.l 0) m) (appB hp mk)) :
    ∃ val w', (Builtin.append_ ts ty #[.slice A 0 0, vy]).run P w = .ok val w' ∧ Res base O0 μ hp w K val w' := by
  obtain ⟨⟨B, xc, rfl, hlies⟩, hm0, hnsz⟩ := hsrc
  have hold : Lies w A #[] := fun q hq => by simp at hq
  have hneedN : ((0 + m.val.toNat : Nat) : Int) ≤ most := by omega
  rcases run_append (P := P) (w := w) (ty := ty) hu hu2 T hby hz hts (sLen := 0) (sCap := 0) (xc := xc) (A := A) hold (by simp) hlies hnsz hneedN with ⟨hc, hrun⟩ | ⟨hc, cap', rest', hc1, hc2, hrun⟩
  · have hm00 : m.val.toNat = 0 := by omega
    have hnew : new = #[] := by
      have : new.size = 0 := by rw [hnsz, hm00, Nat.zero_mul]
      simpa using this
    subst hnew
    have hst : (stA A (0 * sz) (#[] : Array Value).toList).run P w = .ok () w := by cases A <;> rfl
    rw [hst] at hrun
    refine ⟨_, _, hrun, _, _, _, hK0 (by omega), ?_, H, Ext.refl _, Below.refl _ _⟩
    rw [hm00]
    exact RoV.s0 _
  · have H1 := HR.drew H
    have X1 := Ext.drew H
    have hsz : (#[] ++ new ++ rest' : Array Value).size = new.size + rest'.size := by simp
    have X3 := Ext.alloc H1 (.cells (#[] ++ new ++ rest') e) mk
    have hB := hblk (mkX base O0 (μnew μ hp.length (drewW w).heap.size) (hp ++ [mk]) (pushW (drewW w) (.cells (#[] ++ new ++ rest') e))) (drewW w).heap.size (#[] ++ new ++ rest') e (X1.trans X3) (heap_push _ _) (by rw [hsz, hnsz]; omega)
      (fun q hq => by rw [getD_app3]; simp only [List.size_toArray, List.length_nil, Nat.not_lt_zero, if_false, Nat.zero_add, Nat.sub_zero]; rw [if_pos (by omega)])
    refine ⟨_, _, hrun, _, _, _, hK (by omega), ?_, by rw [appB_eq]; exact HR.alloc H1 _ _ hB, by rw [appB_eq]; exact X1.trans X3, (below_drew _ w).trans ((below_push _ _).mono H.all)⟩
    have := rel_ms_new (base := base) (O0 := O0) (μ := μ) (hp := hp) (w := drewW w) (x := mk) (len := m) (cap := cap') (cells := #[] ++ new ++ rest') (e := e) hmk (by omega) (by omega) (by omega)
      (by rw [hsz, hnsz, hc2, ← Nat.add_mul]; exact Nat.mul_le_mul_right _ (by omega))
    rw [appB_eq, Nat.zero_add]
    exact this

theorem ints_of_cells {x' : X} {g : Nat} {c' : Array Value} {e : TypeId} {wr : Bool} {k : IntKind} {l : List Int} (hg : x'.w.heap[g]? = some (.cells c' e (0, 0))) (hl : l.length ≤ c'.size) (h : ∀ (i : Nat) (n : Int), l[i]? = some n → c'.getD i undef = .int k n) :
    BlkR x' g (.ints wr k l) :=
  ⟨c', e, hg, fun i n hi => by rw [some_of_getD (by have := (List.getElem?_eq_some_iff.1 hi).1; omega), h i n hi]⟩

theorem rows_one {ys : List (List AV)} {sz M : Nat} {new : Array Value} (hns : new.size = M * sz) (hyl : ys.length = M) (hyn : ∀ (i : Nat) (r : List AV), ys[i]? = some r → r.length = sz ∧ ∀ (j : Nat) (a : AV), r[j]? = some a → LeafR (mkX base O0 μ hp w) a (new.getD (i * sz + j) undef))
    (hleaf : allB (allB AV.leaf) ys = true) : ∀ q, q < new.size → (new.getD q undef).oneCell' = true := by
  intro q hq
  rw [allB_eq, List.all_eq_true] at hleaf
  have hsz0 : 0 < sz := by
    rcases Nat.eq_zero_or_pos sz with h | h
    · rw [hns, h] at hq; simp at hq
    · exact h
  have hdiv : q / sz < ys.length := by rw [hyl]; exact (Nat.div_lt_iff_lt_mul hsz0).2 (by omega)
  have hmod := Nat.mod_lt q hsz0
  obtain ⟨r1, r2⟩ := hyn (q / sz) _ (List.getElem?_eq_getElem hdiv)
  have hml : q % sz < (ys[q / sz]).length := by omega
  have := r2 (q % sz) _ (List.getElem?_eq_getElem hml)
  have hq2 : q / sz * sz + q % sz = q := by rw [Nat.mul_comm]; exact Nat.div_add_mod q sz
  rw [hq2] at this
  have hl := hleaf _ (List.getElem_mem hdiv)
  rw [allB_eq, List.all_eq_true] at hl
  exact leafR_one this (hl _ (List.getElem_mem hml))

theorem rows_of_cells {x' : X} {g : Nat} {c' : Array Value} {e : TypeId} {wr : Bool} {sz : Nat} {d : List AV} {l : List (List AV)} (hd : d.length = sz) (hg : x'.w.heap[g]? = some (.cells c' e (0, 0))) (hl : l.length * sz ≤ c'.size)
    (h : ∀ (i : Nat) (r : List AV), l[i]? = some r → r.length = sz ∧ ∀ (j : Nat) (a : AV), r[j]? = some a → LeafR x' a (c'.getD (i * sz + j) undef)) : BlkR x' g (.rows wr sz d l) := by
  refine ⟨hd, c', e, hg, fun i r hi => ⟨(h i r hi).1, fun j a hj => ⟨_, some_of_getD ?_, (h i r hi).2 j a hj⟩⟩⟩
  have hil := (List.getElem?_eq_some_iff.1 hi).1
  have hjl := (List.getElem?_eq_some_iff.1 hj).1
  have := (h i r hi).1
  have h3 : i * sz + sz ≤ l.length * sz := by
    have := Nat.mul_le_mul_right sz (Nat.succ_le_of_lt hil)
    rw [Nat.succ_mul] at this; exact this
  omega

theorem rowsTo_real {l : List (List AV)} {n : SI} : rowsTo (realE P) l n = l.take n.val.toNat := by
  have hr : ∀ z : Int, (realE P).rsub l 0 z = l.take z.toNat := fun z => by
    show (l.drop (0 : Int).toNat).take z.toNat = _
    simp
  cases n with
  | l n =>
    simp only [rowsTo]
    cases hdec : decide (Int.ofNat (lenR l) = n) with
    | true =>
      have := of_decide_eq_true hdec
      rw [lenR_eq] at this
      rw [cond_true]
      simp only [SI.val]
      rw [← this]
      simp
    | false => rw [cond_false, hr]; rfl
  | s n => simp only [rowsTo]; rw [hr]; rfl

theorem append_sound (hG : GOK P G) (H : HR base O0 μ hp w) {t t2 : Nat} {x y : AV} {vx vy : Value} {ts : Array TypeId} {rest : List TypeId} (hts : ts.toList = t :: t2 :: rest) {ty : TypeId} {K : AV → List Blk → Prop}
    (hx : RelV (mkX base O0 μ hp w) x vx) (hy : RelV (mkX base O0 μ hp w) y vy) (h : evAppend (realE P) G hp t t2 x y K) :
    ∃ val w', (Builtin.append_ ts ty #[vx, vy]).run P w = .ok val w' ∧ Res base O0 μ hp w K val w' := by
  unfold evAppend at h
  split at h
  · rename_i e sz1 by1 z1 fl1 e2 sz2 by2 z2 fl2 hk1 hk2
    obtain ⟨i1, d1, v1, T1⟩ := hG.tok hk1 (by simp)
    obtain ⟨i2, d2, v2, T2⟩ := hG.tok hk2 (by simp)
    have hd1 := slice_of_kind T1.kind
    have hd2 := slice_of_kind T2.kind
    subst hd1 hd2
    split at h
    · exact h.elim
    · -- numbers
      rename_i k sz by_ z fl hk
      obtain ⟨i3, d3, v3, T3⟩ := hG.tok hk (by simp)
      cases hb : Nat.ble by_ 128 && Nat.beq sz 1 && Nat.beq (lenC z) 1 with
      | false => rw [hb] at h; exact h.elim
      | true =>
        rw [hb, cond_true] at h
        simp only [Bool.and_eq_true] at hb
        have b1 := Nat.le_of_ble_eq_true hb.1.1
        have b2 := Nat.eq_of_beq_eq_true hb.1.2
        have b3 := Nat.eq_of_beq_eq_true hb.2
        rw [lenC_eq] at b3
        subst b2
        split at h
        · rename_i b psz n
          split at h
          · rename_i k' l hblk
            have hb' := getBlk_some hblk (by simp)
            cases hkk : ikEq k k' with
            | false => rw [hkk] at h; exact h.elim
            | true =>
              rw [hkk, cond_true] at h
              have := ikEq_eq hkk
              subst this
              split at h
              · rename_i m ys hs
                obtain ⟨hne, h⟩ := siLe_real h
                rw [siAdd_real] at hne
                obtain ⟨new, hsrc, hyl, hyn⟩ := srcInts_spec H hy hs
                have hdimb : dimB hp b = some (l.length, 1) := by simp [dimB, hb', Blk.dim]
                have hnl : n.val.toNat ≤ l.length := by
                  obtain ⟨_, _, _, _, _, _, _, _, hd⟩ := (show LeafR _ (.ms b psz (.l 0) n) vx from hx)
                  have := (hd _ _ hdimb).1
                  have z0 : (SI.l 0).val.toNat = 0 := rfl
                  omega
                have hsub : (realE P).sub l 0 n.val = l.take n.val.toNat := by
                  show (l.drop (0 : Int).toNat).take n.val.toNat = _
                  simp
                rw [hsub] at h
                refine append_own H T1.und T2.und T3 b1 b3 hts hx hb' ⟨_, rfl⟩ rfl hsrc (fun q hq => ?_) hne _ ?_ ?_ h
                · have hql : q < ys.length := by rw [hyl]; have := hsrc.size; omega
                  rw [hyn q ys[q] (List.getElem?_eq_getElem hql)]; rfl
                · show some ((l.take n.val.toNat ++ ys).length, 1) = _
                  simp [hyl]; omega
                · intro x' g c c' e1 e2 ex hc hc' s1 s2 o1 o2
                  refine ints_of_cells hc' (by show (l.take n.val.toNat ++ ys).length ≤ _; simp [hyl]; omega) (fun i nn hi => ?_)
                  have hi' : (l.take n.val.toNat ++ ys)[i]? = some nn := hi
                  rw [List.getElem?_append] at hi'
                  have htl : (l.take n.val.toNat).length = n.val.toNat := by simp; omega
                  rw [htl] at hi'
                  split at hi'
                  · rename_i hlt
                    rw [o1 i (by omega)]
                    rw [List.getElem?_take, if_pos hlt] at hi'
                    obtain ⟨cc, ee, hcell, hh⟩ := H.blk b _ hb'
                    have hcell' : w.heap[μ b]? = some (.cells cc ee (0, 0)) := hcell
                    rw [hc] at hcell'
                    injection hcell' with hcell'
                    injection hcell' with hcell' _
                    subst hcell'
                    rw [Array.getD_eq_getD_getElem?, hh i nn hi']
                    rfl
                  · rename_i hlt
                    have hil := (List.getElem?_eq_some_iff.1 hi').1
                    have := o2 (i - n.val.toNat) (by omega)
                    rw [show n.val.toNat * 1 + (i - n.val.toNat) = i by omega] at this
                    rw [this, hyn _ nn hi']
              · exact h.elim
          · exact h.elim
        · cases (show RoV _ _ .s0 vx from hx) with
          | s0 A =>
            split at h
            · cases (show RoV _ _ .s0 vy from hy) with
              | s0 B =>
                refine append_new H T1.und T2.und T3 b1 b3 hts (m := .l 0) (new := #[]) ⟨⟨B, 0, rfl, fun q hq => by simp at hq⟩, by simp [SI.val], by simp [SI.val]⟩ (by decide) (.ints true k []) rfl ?_ (fun _ => h) (fun h0 => absurd rfl h0)
                intro x' g c' e2 ex hc s1 o1
                exact ints_of_cells hc (by simp) (fun i n hi => by simp at hi)
            · split at h
              · rename_i m ys hs
                obtain ⟨new, hsrc, hyl, hyn⟩ := srcInts_spec H hy hs
                have hmk : (Blk.ints true k ys).dim = some (m.val.toNat, 1) := by simp [Blk.dim, hyl]
                have hblk : ∀ (x' : X) (g : Nat) (c' : Array Value) (e2 : TypeId), Ext (mkX base O0 μ hp w) x' → x'.w.heap[g]? = some (.cells c' e2 (0, 0)) → m.val.toNat * 1 ≤ c'.size →
                    (∀ q, q < m.val.toNat * 1 → c'.getD q undef = new.getD q undef) → BlkR x' g (.ints true k ys) := by
                  intro x' g c' e2 ex hc s1 o1
                  refine ints_of_cells hc (by omega) (fun i n hi => ?_)
                  have hil := (List.getElem?_eq_some_iff.1 hi).1
                  rw [o1 i (by omega), hyn i n hi]
                rcases brB_real h with ⟨h1, h2⟩ | ⟨h1, h2⟩
                · rw [siCmp_real] at h1
                  have hm0 : m.val = 0 := eq_of_beq (show (m.val == 0) = true from h1)
                  exact append_new H T1.und T2.und T3 b1 b3 hts hsrc (by rw [hm0]; decide) _ hmk hblk (fun _ => h2) (fun h0 => absurd hm0 h0)
                · rw [siCmp_real] at h1
                  have hm0 : m.val ≠ 0 := by intro h3; rw [h3] at h1; cases h1
                  obtain ⟨hne, h3⟩ := siLe_real h2
                  exact append_new H T1.und T2.und T3 b1 b3 hts hsrc hne _ hmk hblk (fun h0 => absurd h0 hm0) (fun _ => h3)
              · exact h.elim
        · exact h.elim
    · -- structs
      rename_i k sz by_ z fl hno1 hno2 hk
      obtain ⟨i3, d3, v3, T3⟩ := hG.tok hk hno1
      cases hb : Nat.ble by_ 128 && Nat.beq (lenC z) sz with
      | false => rw [hb] at h; exact h.elim
      | true =>
        rw [hb, cond_true] at h
        simp only [Bool.and_eq_true] at hb
        have b1 := Nat.le_of_ble_eq_true hb.1
        have b3 := Nat.eq_of_beq_eq_true hb.2
        rw [lenC_eq] at b3
        split at h
        · rename_i b psz n
          split at h
          · rename_i sz' d l hblk
            have hb' := getBlk_some hblk (by simp)
            cases hkk : Nat.beq sz sz' with
            | false => rw [hkk] at h; exact h.elim
            | true =>
              rw [hkk, cond_true] at h
              have := Nat.eq_of_beq_eq_true hkk
              subst this
              split at h
              · rename_i m ys hs
                cases hleaf : allB (allB AV.leaf) ys with
                | false => rw [hleaf] at h; exact h.elim
                | true =>
                rw [hleaf, cond_true] at h
                obtain ⟨hne, h⟩ := siLe_real h
                rw [siAdd_real] at hne
                obtain ⟨new, hsrc, hyl, hyn⟩ := srcRows_spec H hy hs
                have hdimb : dimB hp b = some (l.length, sz) := by simp [dimB, hb', Blk.dim]
                have hnl : n.val.toNat ≤ l.length := by
                  obtain ⟨_, _, _, _, _, _, _, _, hd⟩ := (show LeafR _ (.ms b psz (.l 0) n) vx from hx)
                  have := (hd _ _ hdimb).1
                  have z0 : (SI.l 0).val.toNat = 0 := rfl
                  omega
                have hn0 : 0 ≤ n.val := by
                  obtain ⟨_, _, hn0, _⟩ := (show LeafR _ (.ms b psz (.l 0) n) vx from hx)
                  exact hn0
                obtain ⟨cc, ee, hdl, hcell, hh⟩ : ∃ cc ee, d.length = sz ∧ w.heap[μ b]? = some (.cells cc ee (0, 0)) ∧ ∀ (i : Nat) (r : List AV), l[i]? = some r → r.length = sz ∧ ∀ (j : Nat) (a : AV), r[j]? = some a → ∃ y, cc[i * sz + j]? = some y ∧ LeafR (mkX base O0 μ hp w) a y := by
                  obtain ⟨q1, cc, ee, q2, q3⟩ := H.blk b _ hb'
                  exact ⟨cc, ee, q1, q2, q3⟩
                rw [rowsTo_real] at h
                have hns := hsrc.size
                refine append_own H T1.und T2.und T3 b1 b3 hts hx hb' ⟨_, rfl⟩ rfl hsrc (rows_one hns hyl hyn hleaf) hne _ ?_ ?_ h
                · show some ((l.take n.val.toNat ++ ys).length, sz) = _
                  simp [hyl]; omega
                · intro x' g c c' e1 e2 ex hc hc' s1 s2 o1 o2
                  have hll : (l.take n.val.toNat ++ ys).length = n.val.toNat + m.val.toNat := by simp [hyl]; omega
                  refine rows_of_cells hdl hc' (by show (l.take n.val.toNat ++ ys).length * sz ≤ _; rw [hll, Nat.add_mul]; exact s2) (fun i r hi => ?_)
                  have hi' : (l.take n.val.toNat ++ ys)[i]? = some r := hi
                  rw [List.getElem?_append] at hi'
                  have htl : (l.take n.val.toNat).length = n.val.toNat := by simp; omega
                  rw [htl] at hi'
                  rw [hc] at hcell
                  injection hcell with hcell
                  injection hcell with hcell _
                  subst hcell
                  split at hi'
                  · rename_i hlt
                    rw [List.getElem?_take, if_pos hlt] at hi'
                    obtain ⟨r1, r2⟩ := hh i r hi'
                    refine ⟨r1, fun j a hj => ?_⟩
                    obtain ⟨y, y1, y2⟩ := r2 j a hj
                    have hjl := (List.getElem?_eq_some_iff.1 hj).1
                    have h3 : i * sz + sz ≤ n.val.toNat * sz := by
                      have := Nat.mul_le_mul_right sz (Nat.succ_le_of_lt hlt)
                      rw [Nat.succ_mul] at this; exact this
                    rw [o1 _ (by omega), Array.getD_eq_getD_getElem?, y1]
                    exact y2.mono ex
                  · rename_i hlt
                    obtain ⟨r1, r2⟩ := hyn _ r hi'
                    refine ⟨r1, fun j a hj => ?_⟩
                    have hil := (List.getElem?_eq_some_iff.1 hi').1
                    have hjl := (List.getElem?_eq_some_iff.1 hj).1
                    have h3 : (i - n.val.toNat) * sz + sz ≤ m.val.toNat * sz := by
                      have := Nat.mul_le_mul_right sz (Nat.succ_le_of_lt (by omega : i - n.val.toNat < m.val.toNat))
                      rw [Nat.succ_mul] at this; exact this
                    have h4 : n.val.toNat * sz + ((i - n.val.toNat) * sz + j) = i * sz + j := by
                      rw [← Nat.add_assoc, ← Nat.add_mul]
                      congr 2; omega
                    have := o2 ((i - n.val.toNat) * sz + j) (by omega)
                    rw [h4] at this
                    rw [this]
                    exact (r2 j a hj).mono ex
              · exact h.elim
          · exact h.elim
        · cases (show RoV _ _ .s0 vx from hx) with
          | s0 A =>
            split at h
            · cases (show RoV _ _ .s0 vy from hy) with
              | s0 B =>
                refine append_new H T1.und T2.und T3 b1 b3 hts (m := .l 0) (new := #[]) ⟨⟨B, 0, rfl, fun q hq => by simp at hq⟩, by simp [SI.val], by simp [SI.val]⟩ (by decide) (.rows true sz z []) rfl ?_ (fun _ => h) (fun h0 => absurd rfl h0)
                intro x' g c' e2 ex hc s1 o1
                exact rows_of_cells b3 hc (by simp) (fun i n hi => by simp at hi)
            · split at h
              · rename_i m ys hs
                obtain ⟨new, hsrc, hyl, hyn⟩ := srcRows_spec H hy hs
                have hmk : (Blk.rows true sz z ys).dim = some (m.val.toNat, sz) := by simp [Blk.dim, hyl]
                have hblk : ∀ (x' : X) (g : Nat) (c' : Array Value) (e2 : TypeId), Ext (mkX base O0 μ hp w) x' → x'.w.heap[g]? = some (.cells c' e2 (0, 0)) → m.val.toNat * sz ≤ c'.size →
                    (∀ q, q < m.val.toNat * sz → c'.getD q undef = new.getD q undef) → BlkR x' g (.rows true sz z ys) := by
                  intro x' g c' e2 ex hc s1 o1
                  refine rows_of_cells b3 hc (by rw [hyl]; exact s1) (fun i r hi => ?_)
                  obtain ⟨r1, r2⟩ := hyn i r hi
                  refine ⟨r1, fun j a hj => ?_⟩
                  have hil := (List.getElem?_eq_some_iff.1 hi).1
                  have hjl := (List.getElem?_eq_some_iff.1 hj).1
                  have h3 : i * sz + sz ≤ m.val.toNat * sz := by
                    have := Nat.mul_le_mul_right sz (Nat.succ_le_of_lt (by omega : i < m.val.toNat))
                    rw [Nat.succ_mul] at this; exact this
                  rw [o1 _ (by omega)]
                  exact (r2 j a hj).mono ex
                rcases brB_real h with ⟨h1, h2⟩ | ⟨h1, h2⟩
                · rw [siCmp_real] at h1
                  have hm0 : m.val = 0 := eq_of_beq (show (m.val == 0) = true from h1)
                  exact append_new H T1.und T2.und T3 b1 b3 hts hsrc (by rw [hm0]; decide) _ hmk hblk (fun _ => h2) (fun h0 => absurd hm0 h0)
                · rw [siCmp_real] at h1
                  have hm0 : m.val ≠ 0 := by intro h3; rw [h3] at h1; cases h1
                  obtain ⟨hne, h3⟩ := siLe_real h2
                  exact append_new H T1.und T2.und T3 b1 b3 hts hsrc hne _ hmk hblk (fun h0 => absurd h0 hm0) (fun _ => h3)
              · exact h.elim
        · exact h.elim
  · exact h.elim
end
end Go.Proofs.Ytincnfjihffllaa.Ev
