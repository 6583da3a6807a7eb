/- Texts of the proof, joined and shortened. -/
import Derived.Test.YtmlcglmbjjmijaaGreatDoorB2
import Derived.Deep.LoopGhost
import Derived.Scope
import Derived.Laws.Sem
import Derived.LoopN
import Derived.Test.YtmlcglmbjjmijaaGreatDoorProg
import Derived.KernelRfl
import Derived.Laws.Bits64
import Derived.Laws.BitsLemmas
set_option linter.unusedVariables false
set_option linter.unusedSimpArgs false
namespace Go.Proofs.YtmlcglmbjjmijaaGreatDoor.Ev
section
open Go Go.RowKit
def zT (ops : Array Oper) : Bool :=
 (List.range ops.size).all (fun i => match ops[i]? with
   | some o => o.guard.isNone && o.after.toList.all (fun e => !Region.binds .any e || decide (e.on < i)) &&
     (List.range ops.size).all (fun j => match ops[j]? with
       | some o' =>
         (isCh o || decide (i = j) || o.dst.isNone || decide (o.dst ≠ o'.dst)) &&
         (isCh o || (o.looksAt ops).all (fun u => decide (o'.dst ≠ some u) || (bif isCh o' then Region.waitsFor .any ops j i else Region.waitsFor .any ops i j))) &&
         (!isCh o || isCh o' || (o.looksAt ops).all (fun u => decide (o'.dst ≠ some u) || Region.waitsFor .any ops i j)) &&
         (!isCh o || !isCh o' || !decide (j < i) || Region.waitsFor .any ops i j)
       | none => true)
   | none => true)
structure aRA (ops : Array Oper) : Prop where
 guard : ∀ (i : Nat) (o : Oper), ops[i]? = some o → o.guard = none
 back : ∀ (i : Nat) (o : Oper), ops[i]? = some o → ∀ e ∈ o.after, Region.binds .any e = true → e.on < i
 apart : ∀ (i j : Nat) (o o' : Oper), ops[i]? = some o → ops[j]? = some o' → isCh o = false → i ≠ j → ∀ d, o.dst = some d → o'.dst ≠ some d
 looks : ∀ (i j : Nat) (o o' : Oper), ops[i]? = some o → ops[j]? = some o' → isCh o = false → isCh o' = false → ∀ u ∈ o.looksAt ops, o'.dst = some u → Region.waitsFor .any ops i j = true
 flooks : ∀ (i j : Nat) (o o' : Oper), ops[i]? = some o → ops[j]? = some o' → isCh o = false → isCh o' = true → ∀ u ∈ o.looksAt ops, o'.dst = some u → Region.waitsFor .any ops j i = true
 clooks : ∀ (i j : Nat) (o o' : Oper), ops[i]? = some o → ops[j]? = some o' → isCh o = true → isCh o' = false → ∀ u ∈ o.looksAt ops, o'.dst = some u → Region.waitsFor .any ops i j = true
 chain : ∀ (i j : Nat) (o o' : Oper), ops[i]? = some o → ops[j]? = some o' → isCh o = true → isCh o' = true → j < i → Region.waitsFor .any ops i j = true
theorem aLD {ops : Array Oper} (h : zT ops = true) : aRA ops := by
 simp only [zT, List.all_eq_true, Bl] at h;have one : ∀ (i : Nat) (o : Oper), ops[i]? = some o → _ := fun i o ho => by
  have := h i (Array.getElem?_eq_some_iff.1 ho).1;rw [ho] at this;simp only [Aj, List.all_eq_true, Ab, Db, Dl, Bl] at this;exact this
 have two : ∀ (i j : Nat) (o o' : Oper), ops[i]? = some o → ops[j]? = some o' → _ := fun i j o o' ho ho' => by
  have := (one i o ho).2 j (Array.getElem?_eq_some_iff.1 ho').1;rw [ho'] at this;simp only [Aj, List.all_eq_true, Ab, Db, Dl] at this;exact this
 refine ⟨fun i o ho => ?_, fun i o ho e he hb => ?_, fun i j o o' ho ho' hc hne d hd hd' => ?_, fun i j o o' ho ho' hc hc' u hu hd => ?_, fun i j o o' ho ho' hc hc' u hu hd => ?_, fun i j o o' ho ho' hc hc' u hu hd => ?_, fun i j o o' ho ho' hc hc' hlt => ?_⟩
 · have := (one i o ho).1.1;cases hg : o.guard with
   | none => rfl
   | some x => rw [hg] at this; cases this
 · rcases (one i o ho).1.2 e (by simpa using he) with h | h
   · rw [hb] at h; cases h
   · exact h
 · rcases (two i j o o' ho ho').1.1.1 with ((h | h) | h) | h
   · rw [hc] at h; cases h
   · exact hne h
   · rw [hd] at h; cases h
   · exact h (by rw [hd, hd'])
 · rcases (two i j o o' ho ho').1.1.2 with h | h
   · rw [hc] at h; cases h
   · rcases h u hu with h | h
     · exact absurd hd h
     · rwa [hc', cond_false] at h
 · rcases (two i j o o' ho ho').1.1.2 with h | h
   · rw [hc] at h; cases h
   · rcases h u hu with h | h
     · exact absurd hd h
     · rwa [hc', cond_true] at h
 · rcases (two i j o o' ho ho').1.2 with (h | h) | h
   · rw [hc] at h; cases h
   · rw [hc'] at h; cases h
   · rcases h u hu with h | h
     · exact absurd hd h
     · exact h
 · rcases (two i j o o' ho ho').2 with ((h | h) | h) | h
   · rw [hc] at h; cases h
   · rw [hc'] at h; cases h
   · simp [hlt] at h
   · exact h
section
variable {P : Program} {G : Nat → TI} {base : Nat} {O0 : Nat → Prop} {μ : Nat → Nat} {hp : List Blk} {w w' : World}
inductive qB (P : Program) (G : Nat → TI) (hd : List Blk) : List Oper → List (Nat × AV) → List (Nat × AV) → Prop
 | nil (t : List (Nat × AV)) : qB P G hd [] t t
 | ch (o : Oper) (r : List Oper) (t t2 : List (Nat × AV)) (ho : isCh o = true) (hr : qB P G hd r t t2) : qB P G hd (o :: r) t t2
 | fl (o : Oper) (r : List Oper) (t t2 : List (Nat × AV)) (v : AV) (ho : isCh o = false) (hv : bO (aB P) G hd (opd t) o.op (fun v' => v' = v)) (hr : qB P G hd r (putT t o.dst v) t2) : qB P G hd (o :: r) t t2
theorem xD {hd : List Blk} {K : List (Nat × AV) → Prop} : ∀ (l : List Oper) (t : List (Nat × AV)), evFl (aB P) G hd l t K → ∃ t2, qB P G hd l t t2 ∧ K t2
 | [], t, H => ⟨t, .nil t, H⟩
 | o :: r, t, H => by
  simp only [evFl] at H;split at H
  · rename_i ho;obtain ⟨t2, q1, q2⟩ := xD r t H;exact ⟨t2, .ch o r t t2 ho q1, q2⟩
  · rename_i ho;obtain ⟨v, q1, q2⟩ := lA _ H;obtain ⟨t2, q3, q4⟩ := xD r _ q1;exact ⟨t2, .fl o r t t2 v ho q2 q3, q4⟩
theorem fpath_look {hd : List Blk} {l : List Oper} {t t2 : List (Nat × AV)} (H : qB P G hd l t t2) : ∀ u, (∀ o ∈ l, isCh o = false → o.dst ≠ some u) → lookT t2 u = lookT t u := by
 induction H with
 | nil t => intro u _; rfl
 | ch o r t t2 ho hr ih => intro u hu; exact ih u (fun o ho => hu o (by simp [ho]))
 | fl o r t t2 v ho hv hr ih =>
  intro u hu;rw [ih u (fun o ho => hu o (by simp [ho]))];exact lookT_put_ne (hu o (by simp) ho)
theorem aFX {hd : List Blk} {ops : Array Oper} {l : List Oper} {t t2 : List (Nat × AV)} (H : qB P G hd l t t2) :
 (∀ (i j : Nat) (o o' : Oper), l[i]? = some o → l[j]? = some o' → isCh o = false → isCh o' = false → i ≤ j → ∀ u ∈ o.looksAt ops, o'.dst ≠ some u) →
 (∀ (i j : Nat) (o o' : Oper), l[i]? = some o → l[j]? = some o' → isCh o = false → i < j → ∀ d, o.dst = some d → o'.dst ≠ some d) →
 ∀ (i : Nat) (o : Oper), l[i]? = some o → isCh o = false → ∃ v t1, bO (aB P) G hd (opd t1) o.op (fun v' => v' = v) ∧ (∀ u ∈ o.looksAt ops, lookT t1 u = lookT t2 u) ∧ ∀ d, o.dst = some d → lookT t2 d = v := by
 induction H with
 | nil t => intro _ _ i o hi; simp at hi
 | ch o r t t2 ho hr ih =>
  intro s1 s2 i o' hi hc;cases i with
  | zero => simp at hi; subst hi; rw [ho] at hc; cases hc
  | succ i => exact ih (fun i j a b h1 h2 h3 h4 h5 => s1 (i + 1) (j + 1) a b (by simpa using h1) (by simpa using h2) h3 h4 (by omega)) (fun i j a b h1 h2 h3 h4 => s2 (i + 1) (j + 1) a b (by simpa using h1) (by simpa using h2) h3 (by omega)) i o' (by simpa using hi) hc
 | fl o r t t2 v ho hv hr ih =>
  intro s1 s2 i o' hi hc;cases i with
  | zero =>
   simp at hi;subst hi;have later : ∀ u, (∀ o' ∈ r, isCh o' = false → o'.dst ≠ some u) → lookT t2 u = lookT (putT t o.dst v) u := fpath_look hr;refine ⟨v, t, hv, fun u hu => ?_, fun d hd' => ?_⟩
   · rw [later u (fun o' ho' hc' => by
       obtain ⟨j, hj⟩ := List.getElem?_of_mem ho';exact s1 0 (j + 1) o o' rfl (by simpa using hj) ho hc' (by omega) u hu)]
     exact (lookT_put_ne (s1 0 0 o o rfl rfl ho ho (Ba _) u hu)).symm
   · rw [later d (fun o' ho' _ => by
       obtain ⟨j, hj⟩ := List.getElem?_of_mem ho';exact s2 0 (j + 1) o o' rfl (by simpa using hj) ho (by omega) d hd'), hd']
     exact dF
  | succ i => exact ih (fun i j a b h1 h2 h3 h4 h5 => s1 (i + 1) (j + 1) a b (by simpa using h1) (by simpa using h2) h3 h4 (by omega)) (fun i j a b h1 h2 h3 h4 => s2 (i + 1) (j + 1) a b (by simpa using h1) (by simpa using h2) h3 (by omega)) i o' (by simpa using hi) hc
theorem rY {hd : List Blk} {K : St → Prop} {s : St} : ∀ (l : List Oper) (n : Nat), (∀ i o, i < n → l[i]? = some o → isCh o = false) → evCh (aB P) G hd l s K → evCh (aB P) G hd (l.drop n) s K
 | [], n, _, h => by rw [List.drop_nil]; exact h
 | o :: r, 0, _, h => h
 | o :: r, n + 1, hn, h => by
  have ho := hn 0 o (by omega) rfl;simp only [evCh, ho] at h;rw [List.drop_succ_cons];exact rY r n (fun i o' hi ho' => hn (i + 1) o' (by omega) (by simpa using ho')) h
theorem aFL {E : Env} {h : List Blk} {o : Oper} (hc : isCh o = true) {t t' : List (Nat × AV)} (he : ∀ y ∈ o.op.operands.toList, opd t' y = opd t y) {K : AV → List Blk → Prop} (H : evOp E G ⟨t, h⟩ o.op K) : evOp E G ⟨t', h⟩ o.op K := by
 obtain ⟨dst, op, ty, pos, after, guard⟩ := o;dsimp only at H he ⊢;cases op <;> try (simp [isCh] at hc)
 case assign y =>
  have e := he y (by simp [Op.operands]);dsimp only [evOp, bO] at H ⊢;rw [e];exact H
 case store ty a x =>
  have e1 := he a (by simp [Op.operands]);have e2 := he x (by simp [Op.operands]);dsimp only [evOp] at H ⊢;rw [e1, e2];exact H
 case call c =>
  obtain ⟨callee, args, ts⟩ := c;cases callee with
  | value f => simp at hc
  | invoke r n => simp at hc
  | builtin b =>
   cases b <;> try (simp at hc)
   dsimp only [evOp] at H ⊢;split at H
   · rename_i x y t1 t2 rest hargs hts;have hm : ∀ z ∈ args.toList, opd t' z = opd t z := fun z hz => he z (by simp [Op.operands, Call.operands]; simpa using hz)
     rw [hargs] at hm;rw [hm x (by simp), hm y (by simp)];exact H
   · exact H.elim
def purge (t : List (Nat × AV)) : List Nat → List (Nat × AV)
 | [] => t
 | d :: r => (d, .un) :: purge t r
theorem aCK {t : List (Nat × AV)} : ∀ {l : List Nat} {u : Nat}, u ∈ l → lookT (purge t l) u = .un
 | d :: r, u, h => by
  simp only [purge, lookT];cases e : Nat.beq d u with
  | true => rfl
  | false =>
   rw [cond_false];refine aCK ?_;rcases List.mem_cons.1 h with rfl | h
   · rw [Nat.beq_refl] at e; cases e
   · exact h
theorem rJ {t : List (Nat × AV)} : ∀ {l : List Nat} {u : Nat}, u ∉ l → lookT (purge t l) u = lookT t u
 | [], u, _ => rfl
 | d :: r, u, h => by
  simp only [purge, lookT];cases e : Nat.beq d u with
  | true => exact absurd (by rw [Ad e]; simp) h
  | false => exact rJ (fun hc => h (by simp [hc]))
theorem nL : ∀ {hd h : List Blk}, oV hd h → ∀ b, bS hd b = .dead ∨ bS h b = bS hd b
 | [], h, _, b => .inl (by simp [bS])
 | .dead :: r, y :: r', H, 0 => .inl rfl
 | .dead :: r, y :: r', H, b + 1 => nL (hd := r) (h := r') H b
 | .dead :: r, [], H, b => H.elim
 | .ints w k l :: r, y :: r', H, 0 => .inr H.1
 | .ints w k l :: r, y :: r', H, b + 1 => nL (hd := r) (h := r') H.2 b
 | .ints w k l :: r, [], H, b => H.elim
 | .rows w sz d l :: r, y :: r', H, 0 => .inr H.1
 | .rows w sz d l :: r, y :: r', H, b + 1 => nL (hd := r) (h := r') H.2 b
 | .rows w sz d l :: r, [], H, b => H.elim
structure Mid3 (P : Program) (G : Nat → TI) (base : Nat) (O0 : Nat → Prop) (I : X) (nt : Nat) (ops : Array Oper) (hd : List Blk) (t2 : List (Nat × AV)) (K : St → Prop)
 (listed : Array Bool) (a : Act) (w : World) (μ : Nat → Nat) (p : Nat) (s : St) : Prop where
 size : a.tmps.size = nt
 defers : a.defers = []
 lsize : listed.size = ops.size
 closed : ∀ j oj, ops[j]? = some oj → listed.getD j false = true → ∀ e ∈ oj.after, Region.binds .any e = true → listed.getD e.on false = true
 chain : ∀ i o, ops[i]? = some o → isCh o = true → (listed.getD i false = true ↔ i < p)
 rest : evCh (aB P) G hd (ops.toList.drop p) s K
 hr : HR base O0 μ s.h w
 agree : oV hd s.h
 same : ∀ u, (∀ i o, i < p → ops[i]? = some o → isCh o = true → o.dst ≠ some u) → lookT s.t u = lookT t2 u
 tmps : ∀ u, (∀ i o, ops[i]? = some o → isCh o = false → o.dst = some u → listed.getD i false = true) → RelV (mkX base O0 μ s.h w) (lookT s.t u) (a.tmps.getD u undef)
 ext : Ext I (mkX base O0 μ s.h w)
 below : Below base I.w w
theorem aPF (hG : GOK P G) {I : X} {nt : Nat} {ops : Array Oper} (D : aRA ops) {hdm : List Blk} {t t2 : List (Nat × AV)} {K : St → Prop} (F : qB P G hdm ops.toList t t2)
 (hd : ∀ o ∈ ops.toList, ∀ d, o.dst = some d → d < nt) {Q : Exit → Act → World → Prop} (hQ : ∀ s μ a w, SR base O0 I nt s μ a w → K s → Q .normal a w) :
 ∀ (f : Nat) (listed : Array Bool) (a : Act) (w : World) (μ : Nat → Nat) (p : Nat) (s : St), ((List.range ops.size).filter (fun i => !listed.getD i false)).length = f →
  Mid3 P G base O0 I nt ops hdm t2 K listed a w μ p s → wpAny P .any ops Q f listed a w := by
 have hgo : ∀ (i : Nat) (o : Oper), ops.toList[i]? = some o ↔ ops[i]? = some o := fun i o => by simp
 have before : ∀ (i j : Nat), Region.waitsFor .any ops i j = true → j < i := by
  intro i j hw;obtain ⟨oj, hoj, e, he, hb, hon⟩ := Region.waitsFor_spec hw;have := D.back i oj hoj e he hb;omega
 have FP := aFX (ops := ops) F
  (fun i j o o' hi hj hc hc' hij u hu hd' => by
    have := before i j (D.looks i j o o' ((hgo _ _).1 hi) ((hgo _ _).1 hj) hc hc' u hu hd');omega)
  (fun i j o o' hi hj hc hij d hd' => D.apart i j o o' ((hgo _ _).1 hi) ((hgo _ _).1 hj) hc (by omega) d hd')
 intro f;induction f with
 | zero =>
  intro listed a w μ p s hf M;have hall : ∀ i, i < ops.size → listed.getD i false = true := by
   intro i hi;have h0 := List.length_eq_zero_iff.1 hf;rw [List.filter_eq_nil_iff] at h0;have := h0 i (Bl.2 hi)
   simpa using this
  refine ⟨?_, ?_⟩
  · cases hr : Region.ready .any ops listed with
    | nil => rfl
    | cons i r =>
     exfalso;have hi : i ∈ Region.ready .any ops listed := by rw [hr]; simp
     obtain ⟨hun, o, ho, _⟩ := mem_ready.1 hi;have g := getD_both hun;rw [hall i (Array.getElem?_eq_some_iff.1 ho).1] at g;cases g
  · have hK : K s := by
     have := rY (ops.toList.drop p) ops.size (fun i o hi ho => by
       rw [List.getElem?_drop] at ho;have ho' := (hgo _ _).1 ho;cases hc : isCh o with
       | false => rfl
       | true =>
         have := (M.chain _ o ho' hc).1 (hall _ (Array.getElem?_eq_some_iff.1 ho').1);omega) M.rest
     rw [List.drop_drop, List.drop_eq_nil_of_le (by simp)] at this;exact this
    exact hQ s μ a w ⟨M.size, M.defers, M.hr, fun u => M.tmps u (fun i o ho _ _ => hall i (Array.getElem?_eq_some_iff.1 ho).1), M.ext, M.below⟩ hK
 | succ f ih =>
  intro listed a w μ p s hf M;have hne : (List.range ops.size).filter (fun i => !listed.getD i false) ≠ [] := by intro h; rw [h] at hf; simp at hf
  obtain ⟨i0, hi0, hun0⟩ : ∃ i, i < ops.size ∧ listed.getD i false = false := by
   obtain ⟨i, hi⟩ := List.exists_mem_of_ne_nil _ hne;rw [List.mem_filter, Bl] at hi;exact ⟨i, hi.1, by simpa using hi.2⟩
  have toT : ∀ i, i < ops.size → listed.getD i false = false → listed.getD i true = false := fun i hi h => getD_in (by rw [M.lsize]; exact hi) h
  have least : ∃ i, i ∈ Region.ready .any ops listed := by
   have : ∀ k, k < ops.size → listed.getD k false = false → ∃ i, i ∈ Region.ready .any ops listed := by
    intro k;induction k using Nat.strongRecOn with
    | _ k ihk =>
     intro hk hun;by_cases hb : ∃ e ∈ (ops[k]).after, Region.binds .any e = true ∧ listed.getD e.on false = false
     · obtain ⟨e, he, hb1, hb2⟩ := hb;have := D.back k ops[k] (Array.getElem?_eq_getElem hk) e he hb1;exact ihk e.on this (by omega) hb2
     · refine ⟨k, mem_ready.2 ⟨toT k hk hun, ops[k], Array.getElem?_eq_getElem hk, fun e he hb1 => ?_⟩⟩;cases hl : listed.getD e.on false with
       | true => rfl
       | false => exact absurd ⟨e, he, hb1, hl⟩ hb
   exact this i0 hi0 hun0
  refine ⟨fun h => ?_, fun i hi => ?_⟩
  · obtain ⟨i, hi⟩ := least;rw [h] at hi;cases hi
  · obtain ⟨hunT, o, ho, hall⟩ := mem_ready.1 hi;have hun := getD_both hunT;have hil : i < ops.size := (Array.getElem?_eq_some_iff.1 ho).1;have waits : ∀ j, Region.waitsFor .any ops i j = true → listed.getD j false = true := by
     intro j hw;obtain ⟨oj, hoj, e, he, hb, hon⟩ := Region.waitsFor_spec hw;have : oj = o := Option.some.inj (hoj.symm.trans ho);subst this;have := hall e he hb;rwa [hon] at this
    have seen : ∀ j, listed.getD j false = true → ∀ k, Region.waitsFor .any ops j k = true → listed.getD k false = true := by
     intro j hj k hw;obtain ⟨oj, hoj, e, he, hb, hon⟩ := Region.waitsFor_spec hw;have := M.closed j oj hoj hj e he hb;rwa [hon] at this
    have hcount : ((List.range ops.size).filter (fun j => !(listed.setIfInBounds i true).getD j false)).length = f := by
     have hnd : (List.range ops.size).Nodup := List.nodup_range;have hmem : i ∈ (List.range ops.size).filter (fun j => !listed.getD j false) := by
      rw [List.mem_filter, Bl];exact ⟨hil, by rw [hun]; rfl⟩
     have hsub : (List.range ops.size).filter (fun j => !(listed.setIfInBounds i true).getD j false) = ((List.range ops.size).filter (fun j => !listed.getD j false)).erase i := by
      rw [List.Nodup.erase_eq_filter (hnd.filter _), List.filter_filter];apply List.filter_congr;intro j hj;by_cases hji : i = j
      · subst hji;have : (listed.setIfInBounds i true).getD i false = true := by
         have : i < listed.size := by rw [M.lsize]; exact hil
         simp [this]
        rw [this];simp
      · rw [getD_set_ne false hji];simp [show j ≠ i from fun e => hji e.symm]
     rw [hsub, List.length_erase_of_mem hmem, hf];rfl
    have hset : (listed.setIfInBounds i true).getD i false = true := by
     have : i < listed.size := by rw [M.lsize]; exact hil
     simp [this]
    have lsize' : (listed.setIfInBounds i true).size = ops.size := by simp [M.lsize]
    have closed' : ∀ j oj, ops[j]? = some oj → (listed.setIfInBounds i true).getD j false = true → ∀ e ∈ oj.after, Region.binds .any e = true → (listed.setIfInBounds i true).getD e.on false = true := by
     intro j oj hj hl e he hb;by_cases hij : i = j
     · subst hij;have : oj = o := Option.some.inj (hj.symm.trans ho);subst this;exact getD_set_true (hall e he hb)
     · rw [getD_set_ne false hij] at hl;exact getD_set_true (M.closed j oj hj hl e he hb)
    have hwant : Region.wanted o (yielded ops a.tmps) = true := by simp [Region.wanted, D.guard i o ho]
    unfold wpOp;simp only [ho];rw [if_pos hwant];refine .inl ?_;cases hc : isCh o with
    | false =>
     obtain ⟨v, t1, hv, hl1, hl2⟩ := FP i o ((hgo _ _).2 ho) hc;have early : ∀ u ∈ o.looksAt ops, ∀ j o', j < p → ops[j]? = some o' → isCh o' = true → o'.dst ≠ some u := by
      intro u hu j o' hj ho' hc' hd';have h1 := D.flooks i j o o' ho ho' hc hc' u hu hd';have h2 := seen j ((M.chain j o' ho' hc').2 hj) i h1;rw [hun] at h2; cases h2
     have hrel : ∀ u, u ∈ o.looksAt ops → RelV (mkX base O0 μ s.h w) (lookT t1 u) (a.tmps.getD u undef) := by
      intro u hu;rw [hl1 u hu, ← M.same u (early u hu)];exact M.tmps u (fun j o' ho' hc' hd' => waits j (D.looks i j o o' ho ho' hc hc' u hu hd'))
     have chain' : ∀ j o', ops[j]? = some o' → isCh o' = true → ((listed.setIfInBounds i true).getD j false = true ↔ j < p) := by
      intro j o' ho' hc';rw [getD_set_ne false (by rintro rfl; rw [Option.some.inj (ho'.symm.trans ho), hc] at hc'; cases hc')];exact M.chain j o' ho' hc'
     have next : ∀ (val : Value) (w' : World), Below w.heap.size w w' → RelV (mkX base O0 μ s.h w') v val → wpAny P .any ops Q f (listed.setIfInBounds i true) (a.put o.dst val) w' := by
      intro val w' hb hval;have ex := Ext.grow (O0 := O0) (μ := μ) (hp := s.h) M.hr.all hb;refine ih _ _ _ μ p s hcount ⟨by rw [iK]; exact M.size, by rw [put_defers]; exact M.defers, lsize', closed', chain', M.rest, M.hr.grow hb, M.agree, M.same, fun u hu => ?_, M.ext.trans ex, M.below.trans (hb.mono M.hr.all)⟩;by_cases hdu : o.dst = some u
      · have hlt : u < a.tmps.size := by rw [M.size]; exact hd o (List.mem_of_getElem? ((hgo _ _).2 ho)) u hdu
        have : (a.put o.dst val).tmps.getD u undef = val := by
         rw [hdu];simp [Act.put, Array.getD_eq_getD_getElem?, hlt]
        rw [this, M.same u (fun j o' _ ho' hc' hd' => D.apart i j o o' ho ho' hc (by rintro rfl; rw [Option.some.inj (ho'.symm.trans ho), hc] at hc'; cases hc') u hdu hd'), hl2 u hdu];exact hval
      · have : (a.put o.dst val).tmps.getD u undef = a.tmps.getD u undef := by
         cases hdst : o.dst with
         | none => rfl
         | some d =>
          have hne : d ≠ u := fun e => hdu (by rw [hdst, e])
          simp [Act.put, Array.getD_eq_getD_getElem?, Array.getElem?_setIfInBounds_ne hne]
        rw [this];refine (M.tmps u (fun j o' ho' hc' hd' => ?_)).mono ex;have h1 := hu j o' ho' hc' hd';by_cases hij : i = j
        · subst hij;have : o' = o := Option.some.inj (ho'.symm.trans ho);subst this;exact absurd hd' hdu
        · rwa [getD_set_ne false hij] at h1
     obtain ⟨v', rfl, hout⟩ := gN hG M.hr (ev := a.eval) (jH hrel M.hr.glob) (tA (nL M.agree) hv);rcases hout with ⟨val, w', h1, h2', h3⟩ | ⟨f', args, h1, h2'⟩
     · exact wp_value h1 (next val w' h2' h3)
     · unfold Oper.wp;rw [h1];refine h2'.mono ?_;rintro e w' ⟨val, rfl, hb, hv⟩;exact next val w' hb hv
    | true =>
     have hpi : p ≤ i := by
      rcases Ar i p with g | g
      · have := (M.chain i o ho hc).2 g; rw [hun] at this; cases this
      · exact g
     have hnone : ∀ j o', p ≤ j → j < i → ops[j]? = some o' → isCh o' = false := by
      intro j o' h1 h2 ho';cases hc' : isCh o' with
      | false => rfl
      | true =>
       have := (M.chain j o' ho' hc').1 (waits j (D.chain i j o o' ho ho' hc hc' h2));omega
     have hrest := rY (ops.toList.drop p) (i - p) (fun k o' hk ho' => by
       rw [List.getElem?_drop] at ho';exact hnone _ o' (by omega) (by omega) ((hgo _ _).1 ho')) M.rest
     rw [List.drop_drop, show p + (i - p) = i by omega] at hrest;have hdrop : ops.toList.drop i = o :: ops.toList.drop (i + 1) := by
      have hl : i < ops.toList.length := by simpa using hil
      rw [List.drop_eq_getElem_cons hl];congr 1;have := List.getElem?_eq_getElem hl;have h' : ops.toList[i]? = some o := (hgo _ _).2 ho;rw [h'] at this;exact (Option.some.inj this).symm
     rw [hdrop] at hrest;simp only [evCh, hc] at hrest;let gone := (List.range nt).filter (fun u => (List.range ops.size).any (fun j => match ops[j]? with
       | some o' => !isCh o' && decide (o'.dst = some u) && !listed.getD j false
       | none => false))
     have hgone : ∀ u, u ∉ gone → ∀ j o', ops[j]? = some o' → isCh o' = false → o'.dst = some u → listed.getD j false = true := by
      intro u hu j o' ho' hc' hd';cases hl : listed.getD j false with
      | true => rfl
      | false =>
       exfalso;refine hu (List.mem_filter.2 ⟨Bl.2 (hd o' (List.mem_of_getElem? ((hgo _ _).2 ho')) u hd'), ?_⟩);rw [List.any_eq_true];refine ⟨j, Bl.2 (Array.getElem?_eq_some_iff.1 ho').1, ?_⟩;rw [ho'];simp [hc', hd', hl]
     have hin : ∀ u, u ∈ gone → ∃ j o', ops[j]? = some o' ∧ isCh o' = false ∧ o'.dst = some u ∧ listed.getD j false = false := by
      intro u hu;have := (List.mem_filter.1 hu).2;rw [List.any_eq_true] at this;obtain ⟨j, _, hj⟩ := this;split at hj
      · rename_i o' ho';simp only [Aj, Dl, Ab] at hj;exact ⟨j, o', ho', hj.1.1, hj.1.2, hj.2⟩
      · cases hj
     have hT : TR (mkX base O0 μ s.h w) (purge s.t gone) a := by
      intro u;by_cases hu : u ∈ gone
      · rw [aCK hu]; exact RoV.un _
      · rw [rJ hu]; exact M.tmps u (hgone u hu)
     have hlook : ∀ u ∈ o.looksAt ops, u ∉ gone := by
      intro u hu hg;obtain ⟨j, o', ho', hc', hd', hl⟩ := hin u hg;have := waits j (D.clooks i j o o' ho ho' hc hc' u hu hd');rw [hl] at this; cases this
     have hev : evOp (aB P) G ⟨purge s.t gone, s.h⟩ o.op (fun v h => oV hdm h ∧ evCh (aB P) G hdm (ops.toList.drop (i + 1)) ⟨putT s.t o.dst v, h⟩ K) := by
      refine aFL hc (fun y hy => ?_) hrest;cases y with
      | tmp u =>
       refine rJ (hlook u ?_);simp only [Oper.looksAt, List.mem_append, List.mem_filterMap];exact .inl ⟨_, hy, rfl⟩
      | const v => rfl
      | global g => rfl
      | func f => rfl
     refine Oper.wp_mono ?_ (xC hG M.hr (opd_rel hT M.hr.glob) hev);rintro a' w' ⟨val, rfl, v, h', μ', ⟨hag, hK⟩, hv, hH, hX, hB⟩;have chain' : ∀ j o', ops[j]? = some o' → isCh o' = true → ((listed.setIfInBounds i true).getD j false = true ↔ j < i + 1) := by
      intro j o' ho' hc';by_cases hij : i = j
      · subst hij; exact ⟨fun _ => by omega, fun _ => hset⟩
      · rw [getD_set_ne false hij, M.chain j o' ho' hc'];constructor
        · intro h; omega
        · intro h;rcases Ar j p with g | g
          · exact g
          · exfalso;have := hnone j o' g (by omega) ho';rw [hc'] at this; cases this
     refine ih _ _ _ μ' (i + 1) ⟨putT s.t o.dst v, h'⟩ hcount ⟨by rw [iK]; exact M.size, by rw [put_defers]; exact M.defers, lsize', closed', chain', hK, hH, hag, fun u hu => ?_, fun u hu => ?_, M.ext.trans hX, M.below.trans hB⟩
     · have h1 := hu i o (by omega) ho hc;exact (lookT_put_ne h1).trans (M.same u (fun j o' hj ho' hc' => hu j o' (by omega) ho' hc'))
     · by_cases hdu : o.dst = some u
       · have hlt : u < a.tmps.size := by rw [M.size]; exact hd o (List.mem_of_getElem? ((hgo _ _).2 ho)) u hdu
         have : (a.put o.dst val).tmps.getD u undef = val := by
          rw [hdu];simp [Act.put, Array.getD_eq_getD_getElem?, hlt]
         rw [this, hdu];show RelV _ (lookT (putT s.t (some u) v) u) val;rw [dF];exact hv
       · have : (a.put o.dst val).tmps.getD u undef = a.tmps.getD u undef := by
          cases hdst : o.dst with
          | none => rfl
          | some d =>
           have hne : d ≠ u := fun e => hdu (by rw [hdst, e])
           simp [Act.put, Array.getD_eq_getD_getElem?, Array.getElem?_setIfInBounds_ne hne]
         rw [this];show RelV _ (lookT (putT s.t o.dst v) u) _;rw [lookT_put_ne hdu];refine (M.tmps u (fun j o' ho' hc' hd' => ?_)).mono hX;have h1 := hu j o' ho' hc' hd';rwa [getD_set_ne false (by rintro rfl; rw [Option.some.inj (ho'.symm.trans ho), hc] at hc'; cases hc')] at h1
theorem aJX (hG : GOK P G) (hm : P.follows .mixedOrders = true) {I : X} {nt : Nat} {ops : Array Oper} {id : Nat} {K : St → Prop} {Q : Exit → Act → World → Prop}
 (hQ : ∀ s μ a w, SR base O0 I nt s μ a w → K s → Q .normal a w) (hD : zT ops = true) (hd : ∀ o ∈ ops.toList, ∀ d, o.dst = some d → d < nt)
 {s : St} {a : Act} (R : SR base O0 I nt s μ a w) (h : aNW (aB P) G ops.toList K s) : (Code.region id ops true).wp P Q a w := by
 have D := aLD hD;unfold aNW at h;generalize mixHd ops.toList s = hdm at h;obtain ⟨t2, F, hag, hK⟩ := xD _ _ h;have R' := R.aQY (w' := { w with drawn := w.drawn + 1 }) (Below.refl _ _).drew;refine wp_region_any hm ?_;refine aPF hG D F hd hQ ops.size _ a _ μ 0 ⟨t2, s.h⟩ ?_
  ⟨R'.size, R'.defers, by simp, fun j oj hj hl => (by rw [getD_replicate_false] at hl; cases hl), fun i o ho hc => by rw [getD_replicate_false]; simp, by rw [List.drop_zero]; exact hK, R'.hr, hag, fun _ _ => rfl, fun u hu => ?_, R'.ext, R'.below⟩
 · rw [List.filter_eq_self.2]
   · simp
   · intro i hi;rw [getD_replicate_false];rfl
 · show RelV _ (lookT t2 u) _;rw [fpath_look F u (fun o ho hc hd' => by
     obtain ⟨i, hi⟩ := List.getElem?_of_mem ho;have := hu i o (by simpa using hi) hc hd';rw [getD_replicate_false] at this; cases this)]
   exact R'.tmps u
end
end
section
open Go Go.RowKit
section
variable {P : Program} {G : Nat → TI} {base : Nat} {O0 : Nat → Prop} {μ : Nat → Nat} {hp : List Blk} {w w' : World}
theorem SR.grow {I : X} {nt : Nat} {s : St} {a : Act} (R : SR base O0 I nt s μ a w) (hb : Below w.heap.size w w') : SR base O0 I nt s μ a w' := by
 have ex := Ext.grow (O0 := O0) (μ := μ) (hp := s.h) R.hr.all hb;exact ⟨R.size, R.defers, R.hr.grow hb, R.tmps.mono ex, R.ext.trans ex, R.below.trans (hb.mono R.hr.all)⟩
theorem aCE (hG : GOK P G) (hm : P.follows .mixedOrders = true) {I : X} {nt : Nat} {ops : Array Oper} {id : Nat} {K : St → Prop} {Q : Exit → Act → World → Prop}
 (hQ : ∀ s μ a w, SR base O0 I nt s μ a w → K s → Q .normal a w) (hD : aGR ops (headN ops.toList) = true) (hd : ∀ o ∈ ops.toList, ∀ d, o.dst = some d → d < nt)
 {s : St} {a : Act} (R : SR base O0 I nt s μ a w) (h : zU (aB P) G ops.toList K s) : (Code.region id ops true).wp P Q a w := by
 have D := aIY hD;unfold zU at h;generalize headN ops.toList = n at *
 obtain ⟨t, hp⟩ := s;rw [vF, uZ] at h;obtain ⟨t2, hpath, hK⟩ := kZ _ _ _ h;have hget : ∀ (i : Nat) (o : Oper), (ops.toList.take n)[i]? = some o → i < n ∧ ops[i]? = some o := by
  intro i o hi;rw [List.getElem?_take] at hi;split at hi
  · exact ⟨‹_›, by simpa using hi⟩
  · cases hi
 have hdoes := aJB (base := base) (O0 := O0) (μ := μ) hG hpath
  (fun i j o o' hi hj hij u hu hd' => by
    obtain ⟨h1, h2⟩ := hget i o hi;obtain ⟨h3, h4⟩ := hget j o' hj;obtain ⟨oj, hoj, e, he, hb, hon⟩ := Region.waitsFor_spec (D.looks i j o o' h1 h3 h2 h4 u hu hd');have : oj = o := Option.some.inj (hoj.symm.trans h2);subst this;have := D.back i oj h2 e he hb;omega)
  (fun i j o o' hi hj hij d hd' => by
    obtain ⟨h1, h2⟩ := hget i o hi;obtain ⟨h3, h4⟩ := hget j o' hj;exact D.apart i j o o' h1 h3 h2 h4 (by omega) d hd')
 have hdo : ∀ i o, i < n → ops[i]? = some o → Does P base O0 μ hp ops o t2 := by
  intro i o hi ho;exact hdoes i o (by rw [List.getElem?_take, if_pos hi]; simpa using ho)
 refine wp_region_any hm ?_;have R' := R.grow (w' := { w with drawn := w.drawn + 1 }) (Below.refl _ _).drew;have key := aRY (P := P) (base := base) (O0 := O0) (μ := μ) (hp := hp) (I := I) (nt := nt) D (t2 := t2) hdo
  (fun i o hi ho d hd' => hd o (List.mem_of_getElem? (i := i) (by simpa using ho)) d hd') (Q := Q)
  (fun a w R2 => by
    have hl : ops.size - n = (ops.toList.drop n).length := by simp
    rw [hl];refine wpAny_of_seq (ops.toList.drop n) n _ a w (fun j => by simp) (by rw [← hl]; exact D.seq) ?_;exact jN hG hQ _ _ μ a w (fun o ho d hd' => hd o (List.mem_of_mem_drop ho) d hd') R2 hK)
  n (Array.replicate ops.size false) a { w with drawn := w.drawn + 1 } (by
    rw [List.filter_eq_self.2]
    · simp
    · intro i hi;rw [getD_replicate_false];rfl)
  ⟨by simp, fun j oj hj hl => (by rw [getD_replicate_false] at hl; cases hl), fun t' h1 h2 => by simp [h2]⟩
  ⟨R'.size, R'.defers, R'.hr, fun u hu => (jI hpath u (fun o ho hd' => by
    obtain ⟨i, hi⟩ := List.getElem?_of_mem ho;obtain ⟨h1, h2⟩ := hget i o hi;have := hu i o h1 h2 hd';rw [getD_replicate_false] at this;cases this) _ _).1 (R'.tmps u), R'.ext, R'.below⟩
 rw [show n + (ops.size - n) = ops.size from by have := D.le; omega] at key;exact key
def aAJ (ops : Array Oper) : Bool := bif aFC ops.toList then zT ops else bif aAL ops.toList then uI ops (headLen ops.toList) else aGR ops (headN ops.toList)
theorem aFH (hG : GOK P G) (hm : P.follows .mixedOrders = true) {I : X} {nt : Nat} {ops : Array Oper} {id : Nat} {K : St → Prop} {Q : Exit → Act → World → Prop}
 (hQ : ∀ s μ a w, SR base O0 I nt s μ a w → K s → Q .normal a w) (hD : aAJ ops = true) (hd : ∀ o ∈ ops.toList, ∀ d, o.dst = some d → d < nt)
 {s : St} {a : Act} (R : SR base O0 I nt s μ a w) (h : aFJ (aB P) G ops.toList K s) : (Code.region id ops true).wp P Q a w := by
 unfold aAJ at hD;unfold aFJ at h;cases hx : aFC ops.toList with
 | true => rw [hx] at hD h; exact aJX hG hm hQ hD hd R h
 | false =>
  rw [hx] at hD h;cases hl : aAL ops.toList with
  | true => rw [hl] at hD h; exact aGD hG hm hQ hD hd R h
  | false => rw [hl] at hD h; exact aCE hG hm hQ hD hd R h
def aQX (nt : Nat) (ops : List Oper) : Bool := ops.all (fun o => match o.dst with
  | some d => Nat.blt d nt
  | none => true)
theorem aFS {nt : Nat} {ops : List Oper} (h : aQX nt ops = true) : ∀ o ∈ ops, ∀ d, o.dst = some d → d < nt := by
 intro o ho d hd;have := List.all_eq_true.1 h o ho;rw [hd] at this;exact An this
def codeOK (nt : Nat) : Code → Bool
 | .region _ ops draw => aQX nt ops.toList && (!draw || aAJ ops)
 | .seq a b => codeOK nt a && codeOK nt b
 | .cond _ a b => codeOK nt a && codeOK nt b
 | .block _ b => codeOK nt b
 | .loop b => codeOK nt b
 | .scope b => codeOK nt b
 | _ => true
def Qof (base : Nat) (O0 : Nat → Prop) (I : X) (nt : Nat) (K : Ex → St → Prop) : Exit → Act → World → Prop
 | .normal, a, w => ∃ s μ, SR base O0 I nt s μ a w ∧ K .normal s
 | .exit i, a, w => ∃ s μ, SR base O0 I nt s μ a w ∧ K (.exit i) s
 | .goto i, a, w => ∃ s μ, SR base O0 I nt s μ a w ∧ K (.goto i) s
 | .ret, a, w => ∃ s μ, SR base O0 I nt s μ a w ∧ K .ret s
 | _, _, _ => False
def lpR (P : Program) (nt : Nat) (c : Code) (s : St) (K : Ex → St → Prop) : Prop :=
 ∀ (base : Nat) (O0 : Nat → Prop) (I : X) (μ : Nat → Nat) (a : Act) (w : World), SR base O0 I nt s μ a w → c.wp P (Qof base O0 I nt K) a w
theorem mE (hG : GOK P G) (hm : P.follows .mixedOrders = true) {I : X} {nt : Nat} {lp : Code → St → (Ex → St → Prop) → Prop} (hlp : ∀ b s K, codeOK nt b = true → lp b s K → lpR P nt b s K) :
 ∀ (c : Code) (K : Ex → St → Prop) (s : St) (μ : Nat → Nat) (a : Act) (w : World), codeOK nt c = true → SR base O0 I nt s μ a w → ev (aB P) G lp c s K → c.wp P (Qof base O0 I nt K) a w := by
 intro c;induction c with
 | skip => intro K s μ a w hc R h; exact wp_skip ⟨s, μ, R, h⟩
 | label l => intro K s μ a w hc R h; exact wp_label ⟨s, μ, R, h⟩
 | ret => intro K s μ a w hc R h; exact wp_ret ⟨s, μ, R, h⟩
 | exit i => intro K s μ a w hc R h; exact wp_exit ⟨s, μ, R, h⟩
 | goto i => intro K s μ a w hc R h; exact wp_goto ⟨s, μ, R, h⟩
 | region id ops draw =>
  intro K s μ a w hc R h;simp only [codeOK, Aj] at hc;have hd := aFS hc.1;cases draw with
  | true =>
   simp only [Bool.not_true, Bool.false_or] at hc;exact aFH hG hm (K := K .normal) (fun s μ a w R hK => ⟨s, μ, R, hK⟩) hc.2 hd R h
  | false => exact wp_region_list (jN hG (K := K .normal) (fun s μ a w R hK => ⟨s, μ, R, hK⟩) ops.toList s μ a w hd R h)
 | seq x y ihx ihy =>
  intro K s μ a w hc R h;simp only [codeOK, Aj] at hc;refine wp_seq (wp_mono (ihx _ s μ a w hc.1 R h) ?_);intro e a w hq;cases e with
  | normal => obtain ⟨s', μ', R', h'⟩ := hq; exact ihy K s' μ' a w hc.2 R' h'
  | exit i => exact hq
  | goto i => exact hq
  | ret => exact hq
  | panic ch => exact hq.elim
  | outgrown => exact hq.elim
 | cond c x y ihx ihy =>
  intro K s μ a w hc R h;simp only [codeOK, Aj] at hc;rcases brAV_real (opd_rel R.tmps R.hr.glob c) h with ⟨h1, h2⟩ | ⟨h1, h2⟩
  · exact wp_cond_true h1 (ihx K s μ a w hc.1 R h2)
  · exact wp_cond_false h1 (ihy K s μ a w hc.2 R h2)
 | block i b ih =>
  intro K s μ a w hc R h;refine wp_block (wp_mono (ih _ s μ a w hc R h) ?_);intro e a w hq;cases e with
  | normal => exact hq
  | exit j =>
   obtain ⟨s', μ', R', h'⟩ := hq;by_cases hij : j = i
   · subst hij;dsimp only at h';rw [Nat.beq_refl, cond_true] at h';simp only [Exit.inBlock, if_true];exact ⟨s', μ', R', h'⟩
   · have : Nat.beq i j = false := by
      cases hb : Nat.beq i j
      · rfl
      · exact absurd (Ad hb).symm hij
     dsimp only at h';rw [this, cond_false] at h';simp only [Exit.inBlock, if_neg hij];exact ⟨s', μ', R', h'⟩
  | goto l => exact hq
  | ret => exact hq
  | panic ch => exact hq.elim
  | outgrown => exact hq.elim
 | loop b ih =>
  intro K s μ a w hc R h;exact hlp (.loop b) s K hc h base O0 I μ a w R
 | scope b ih =>
  intro K s μ a w hc R h;exact hlp (.scope b) s K hc h base O0 I μ a w R
 | _ => intro K s μ a w hc R h; exact h.elim
def AVle (x y : AV) : Prop := ∀ (X : X) (v : Value), RelV X x v → RelV X y v
theorem AVle.un (x : AV) : AVle x .un := fun _ _ _ => RoV.un _
def StLe (s s' : St) : Prop := s.h = s'.h ∧ ∀ u, AVle (lookT s.t u) (lookT s'.t u)
theorem SR.le {I : X} {nt : Nat} {s s' : St} {a : Act} (R : SR base O0 I nt s μ a w) (h : StLe s s') : SR base O0 I nt s' μ a w :=
 ⟨R.size, R.defers, h.1 ▸ R.hr, fun u => by rw [← h.1]; exact h.2 u _ _ (R.tmps u), h.1 ▸ R.ext, R.below⟩
theorem loop_real {ι : Type} (hG : GOK P G) (hm : P.follows .mixedOrders = true) {nt : Nat} {lp : Code → St → (Ex → St → Prop) → Prop} (hlp : ∀ b s K, codeOK nt b = true → lp b s K → lpR P nt b s K) {b : Code} (hc : codeOK nt b = true)
 {s : St} {K : Ex → St → Prop} (S : ι → St) (m : ι → Nat) (ok : ι → Prop) (h0 : ∃ i, ok i ∧ StLe s (S i))
 (hr : ∀ i, ok i → ev (aB P) G lp b (S i) (fun e s => match e with
   | .normal => ∃ j, m j < m i ∧ ok j ∧ StLe s (S j)
   | .exit x => K (.exit x) s
   | .goto x => K (.goto x) s
   | .ret => K .ret s)) : lpR P nt (.loop b) s K := by
 intro base O0 I μ a w R;obtain ⟨i0, ho0, hl0⟩ := h0;refine wp_loop_ghost (fun n a w => ∃ i μ, m i = n ∧ ok i ∧ SR base O0 I nt (S i) μ a w) (m i0) ⟨i0, μ, rfl, ho0, R.le hl0⟩ ?_;rintro n a w ⟨i, μ, rfl, ho, R⟩;refine wp_mono (mE hG hm hlp b _ (S i) μ a w hc R (hr i ho)) ?_;intro e a w hq;cases e with
 | normal =>
  obtain ⟨s', μ', R', j, h1, h2, h3⟩ := hq;exact ⟨m j, h1, j, μ', rfl, h2, R'.le h3⟩
 | exit i => exact hq
 | goto i => exact hq
 | ret => exact hq
 | panic ch => exact hq.elim
 | outgrown => exact hq.elim
end
end
section
open Go Go.RowKit
def clean1 (h : List Blk) : AV → Prop
 | .ms b _ _ _ => match bS h b with
  | .rows _ _ _ l => allB (allB AV.mf1) l = true
  | _ => True
 | _ => True
def cleanL (h : List Blk) : List AV → Prop
 | [] => True
 | x :: r => clean1 h x ∧ cleanL h r
def clean (h : List Blk) : AV → Prop
 | .agg cs => cleanL h cs
 | .fn _ cs => cleanL h cs
 | x => clean1 h x
def mX (h : List Blk) : List AV → Prop
 | [] => True
 | x :: r => clean h x ∧ mX h r
section
variable {P : Program} {G : Nat → TI} {base : Nat} {O0 : Nat → Prop} {μ : Nat → Nat} {hp : List Blk} {w w' : World}
structure Frz (base : Nat) (O0 : Nat → Prop) (μ : Nat → Nat) (hp : List Blk) (w : World) (h' : List Blk) : Prop where
 hr : HR base O0 μ h' w
 ext : Ext (mkX base O0 μ hp w) (mkX base O0 μ h' w)
 rows : ∀ b, (∃ wr sz d l, bS h' b = .rows wr sz d l) → ∃ wr sz d l wr', bS h' b = .rows wr sz d l ∧ bS hp b = .rows wr' sz d l
theorem Frz.refl (H : HR base O0 μ hp w) : Frz base O0 μ hp w hp := ⟨H, Ext.refl _, fun b ⟨wr, sz, d, l, h⟩ => ⟨wr, sz, d, l, wr, h, h⟩⟩
theorem Frz.trans {h1 h2 : List Blk} (a : Frz base O0 μ hp w h1) (b : Frz base O0 μ h1 w h2) : Frz base O0 μ hp w h2 := by
 refine ⟨b.hr, a.ext.trans b.ext, fun c hc => ?_⟩;obtain ⟨wr, sz, d, l, wr', e1, e2⟩ := b.rows c hc;obtain ⟨wr2, sz2, d2, l2, wr3, e3, e4⟩ := a.rows c ⟨_, _, _, _, e2⟩;rw [e2] at e3;injection e3 with _ e5 e6 e7
 subst e5 e6 e7;exact ⟨wr, sz, d, l, wr3, e1, e4⟩
theorem Frz.clean1 {h1 : List Blk} (a : Frz base O0 μ hp w h1) {x : AV} (h : clean1 hp x) : Ev.clean1 h1 x := by
 cases x <;> try trivial
 rename_i b sz row len;dsimp only [Ev.clean1] at *
 split
 · rename_i wr sz d l hb;obtain ⟨wr, sz, d, l, wr', e1, e2⟩ := a.rows b ⟨_, _, _, _, hb⟩;rw [hb] at e1;injection e1 with _ _ _ e1
   subst e1;rw [e2] at h;exact h
 · trivial
theorem Frz.cleanL {h1 : List Blk} (a : Frz base O0 μ hp w h1) {l : List AV} (h : cleanL hp l) : Ev.cleanL h1 l := by
 induction l with
 | nil => trivial
 | cons x r ih => exact ⟨a.clean1 h.1, ih h.2⟩
theorem Frz.clean {h1 : List Blk} (a : Frz base O0 μ hp w h1) {x : AV} (h : clean hp x) : Ev.clean h1 x := by
 cases x <;> simp only [Ev.clean] at h ⊢ <;> first | exact a.cleanL h | exact a.clean1 h
theorem aEL (H : HR base O0 μ hp w) {b : Nat} {x : Blk} {y : Blk} (hb : hp[b]? = some y) (hx : x.wr = false) (hd : x.dim = y.dim) (hn : x.need = y.need) (hrow : ∀ wr sz d l, x = .rows wr sz d l → ∃ wr', y = .rows wr' sz d l)
 (hB : BlkR (mkX base O0 μ hp w) (μ b) y → BlkR (mkX base O0 μ (hp.set b x) w) (μ b) y → BlkR (mkX base O0 μ (hp.set b x) w) (μ b) x) :
 Frz base O0 μ hp w (hp.set b x) := by
 have hb0 : b < hp.length := (List.getElem?_eq_some_iff.1 hb).1;have hdim : x.dim = dimB hp b := by rw [hd]; simp [dimB, hb]
 have e := Ext.turn H (b := b) (x := x) (.inr rfl) (fun h => by rw [hx] at h; cases h) (.inr hdim) rfl (fun _ _ => rfl) (fun _ h => h);have hblk := H.blk b y hb;refine ⟨HR.turn H hb0 (.inr rfl) (fun h => by rw [hx] at h; cases h) (.inr hdim) rfl (fun _ _ => rfl) (fun _ h => h) (hB hblk (hblk.mono e rfl)) (.inr ⟨_, hb, hn⟩), e, fun c hc => ?_⟩;obtain ⟨wr, sz, d, l, hc⟩ := hc;have hc' := hc;rw [dX, List.getElem?_set] at hc;split at hc
 · rename_i he;subst he;simp only [hb0, if_true, Option.getD_some] at hc;obtain ⟨wr', hy⟩ := hrow wr sz d l hc;exact ⟨wr, sz, d, l, wr', hc', by rw [dX, hb]; exact hy⟩
 · exact ⟨wr, sz, d, l, wr, hc', by rw [dX]; exact hc⟩
theorem uL (H : HR base O0 μ hp w) {b : Nat} {x y : Blk} (hb : hp[b]? = some y) (hy : y.dim ≠ none) (hx : x.wr = false) : okO base O0 μ (hp.set b x) w (μ b) := by
 have hb0 : b < hp.length := (List.getElem?_eq_some_iff.1 hb).1;have hdim : dimB hp b ≠ none := by simpa [dimB, hb] using hy
 refine .inr ⟨H.low b hdim, H.lt hdim, fun b' hb' e => ?_⟩;have hwr : wrB hp b' = true ∧ b' ≠ b := by
  unfold wrB at hb' ⊢;rw [List.getElem?_set] at hb';split at hb'
  · rename_i he;simp [hx] at hb'
  · exact ⟨hb', fun h => absurd h.symm (by assumption)⟩
 exact hwr.2 (H.inj b' b hwr.1 hdim e)
theorem nY (H : HR base O0 μ hp w) {v : AV} {val : Value} (hv : LeafR (mkX base O0 μ hp w) v val) (hc : clean1 hp v) {y : AV} {h' : List Blk} (h : frz1 (aB P) hp v = some (y, h')) :
 Frz base O0 μ hp w h' ∧ RoV (okO base O0 μ h' w) w y val := by
 have plain : v.mf1 = true → y = v ∧ h' = hp → Frz base O0 μ hp w h' ∧ RoV (okO base O0 μ h' w) w y val := by
  rintro hm ⟨rfl, rfl⟩;exact ⟨.refl H, bM hv hm⟩
 cases v <;> simp only [frz1, Option.some.injEq, Prod.mk.injEq, reduceCtorEq] at h
 case ms b sz row len =>
  obtain ⟨hb, h0, h1, A, cap, rfl, hle, hA, hd⟩ := (show LeafR _ (.ms b sz row len) val from hv)
  split at h
  · rename_i wr k l hblk;have hb' := cD hblk (by simp);injection h with h
    injection h with e1 e2
    rw [setBlk_eq] at e2;have hdim : dimB hp b = some (l.length, 1) := by simp [dimB, hb', Blk.dim]
    obtain ⟨q1, q2, e', mm, q3, q4⟩ := hd _ _ hdim;subst q2 e2;refine ⟨aEL H hb' rfl rfl rfl (fun _ _ _ _ h => by cases h) (fun _ h => h), ?_⟩;have hy : y = .sli k ((l.drop row.val.toNat).take len.val.toNat) := by
     rw [← e1];cases row with
     | l i => cases i with
      | ofNat n => cases n <;> rfl
      | negSucc n => rfl
     | s i => rfl
    rw [hy];have hlen : ((l.drop row.val.toNat).take len.val.toNat).length = len.val.toNat := by simp; omega
    by_cases hz : len.val.toNat = 0
    · rw [hz];simp only [List.take_zero];exact .sliN _ _ _
    · obtain ⟨ca, e, hcell, hh⟩ := H.blk b _ hb';have hcellw : w.heap[μ b]? = some (.cells ca e (0, 0)) := hcell;rw [hA (by omega), By];have := RoV.sli (O := okO base O0 μ (hp.set b (.ints false k l)) w) (w := w) k ((l.drop row.val.toNat).take len.val.toNat) ⟨μ b, row.val.toNat, none⟩ cap rfl
       (uL H hb' (by simp [Blk.dim]) rfl) (by rw [hlen]; exact hle) (fun i n hi => by
         rw [List.getElem?_take] at hi;split at hi
         · rw [List.getElem?_drop] at hi;simp only [World.cell?, hcellw];exact hh _ n hi
         · cases hi)
      rw [hlen] at this;exact this
  · rename_i wr bsz d l hblk;have hb' := cD hblk (by simp);injection h with h
    injection h with e1 e2
    rw [setBlk_eq] at e2;have hdim : dimB hp b = some (l.length, bsz) := by simp [dimB, hb', Blk.dim]
    obtain ⟨q1, q2, e', mm, q3, q4⟩ := hd _ _ hdim;subst q2 e2 e1;have F : Frz base O0 μ hp w (hp.set b (.rows false bsz d l)) := aEL H hb' rfl rfl rfl (fun _ _ _ _ h => by injection h with _ e1 e2 e3; subst e1 e2 e3; exact ⟨wr, rfl⟩) (fun _ h => h);refine ⟨F, ?_⟩;by_cases hz : len.val.toNat = 0
    · have : len.val = 0 := by omega
      rw [hz];exact .slcN _ _ _ _ _ this
    · obtain ⟨hdl, ca, e, hcell, hh⟩ := H.blk b _ hb';have hcellw : w.heap[μ b]? = some (.cells ca e (0, 0)) := hcell;have hcl : allB (allB AV.mf1) l = true := by
       dsimp only [Ev.clean1] at hc;rw [hblk] at hc;exact hc
      rw [allB_eq, List.all_eq_true] at hcl;rw [hA (by omega)];have hget : ∀ i, i < len.val.toNat → ∃ r, l[row.val.toNat + i]? = some r ∧ (aB P).rfun l row.val d i = r := by
       intro i hi;have hlt : row.val.toNat + i < l.length := by omega
       exact ⟨l[row.val.toNat + i], List.getElem?_eq_getElem hlt, by simp [aB, List.getD, List.getElem?_eq_getElem hlt]⟩
      refine RoV.slc bsz len _ ⟨μ b, row.val.toNat * bsz, none⟩ cap (fun i j => ca.getD ((row.val.toNat + i) * bsz + j) undef) rfl
       (uL H hb' (by simp [Blk.dim]) rfl) h1 hle (fun i hi => ?_) (fun i j c hi hj => ?_) (fun i j c hi hj => ?_)
      · obtain ⟨r, e1, e2⟩ := hget i hi;rw [e2]; exact (hh _ r e1).1
      · obtain ⟨r, e1, e2⟩ := hget i hi;rw [e2] at hj;obtain ⟨y, e3, e4⟩ := (hh _ r e1).2 j c hj;simp only [World.cell?, hcellw];rw [show row.val.toNat * bsz + (i * bsz + j) = (row.val.toNat + i) * bsz + j by rw [Bd]; omega, e3, Array.getD_eq_getD_getElem?, e3];rfl
      · obtain ⟨r, e1, e2⟩ := hget i hi;rw [e2] at hj;obtain ⟨y, e3, e4⟩ := (hh _ r e1).2 j c hj;have hm := hcl r (List.mem_of_getElem? e1);rw [allB_eq, List.all_eq_true] at hm;have := bM e4 (hm c (List.mem_of_getElem? hj));rw [Array.getD_eq_getD_getElem?, e3];exact this.mono F.ext.o F.ext.cell
  · cases h
 case lit x => exact plain rfl ⟨h.1.symm, h.2.symm⟩
 case int k n => exact plain rfl ⟨h.1.symm, h.2.symm⟩
 case bool b => exact plain rfl ⟨h.1.symm, h.2.symm⟩
 case str s => exact plain rfl ⟨h.1.symm, h.2.symm⟩
 case sli k l => exact plain rfl ⟨h.1.symm, h.2.symm⟩
 case slc sz n f => exact plain rfl ⟨h.1.symm, h.2.symm⟩
 case s0 => exact plain rfl ⟨h.1.symm, h.2.symm⟩
 case rp cs => exact plain rfl ⟨h.1.symm, h.2.symm⟩
 case bnd f bs => exact plain rfl ⟨h.1.symm, h.2.symm⟩
 case slx sz l => exact plain rfl ⟨h.1.symm, h.2.symm⟩
 case fn f cs =>
  obtain ⟨rfl, rfl⟩ := h;exact ⟨.refl H, hv⟩
theorem oM : ∀ (l : List AV) (hp : List Blk) (Y : Nat → Value), HR base O0 μ hp w → (∀ (j : Nat) (c : AV), l[j]? = some c → LeafR (mkX base O0 μ hp w) c (Y j)) → cleanL hp l →
 ∀ {ys : List AV} {h' : List Blk}, frzL (aB P) hp l = some (ys, h') → Frz base O0 μ hp w h' ∧ ys.length = l.length ∧ ∀ (j : Nat) (c : AV), ys[j]? = some c → RoV (okO base O0 μ h' w) w c (Y j)
 | [], hp, Y, H, _, _, ys, h', h => by
  simp only [frzL, Option.some.injEq, Prod.mk.injEq] at h;obtain ⟨rfl, rfl⟩ := h;exact ⟨.refl H, rfl, fun j c hj => by simp at hj⟩
 | x :: r, hp, Y, H, hv, hc, ys, h', h => by
  simp only [frzL] at h;split at h
  · rename_i y h1 he;split at h
    · rename_i ys' h2 he2;simp only [Option.some.injEq, Prod.mk.injEq] at h;obtain ⟨rfl, rfl⟩ := h;obtain ⟨F1, q1⟩ := nY H (hv 0 x rfl) hc.1 he;obtain ⟨F2, q2, q3⟩ := oM r h1 (fun j => Y (j + 1)) F1.hr (fun j c hj => (hv (j + 1) c (by simpa using hj)).mono F1.ext) (F1.cleanL hc.2) he2;refine ⟨F1.trans F2, by simp [q2], fun j c hj => ?_⟩;cases j with
      | zero => simp at hj; subst hj; exact q1.mono F2.ext.o F2.ext.cell
      | succ j => exact q3 j c (by simpa using hj)
    · cases h
  · cases h
theorem yZ (H : HR base O0 μ hp w) {v : AV} {val : Value} (hv : AggR (mkX base O0 μ hp w) v val) (hc : clean hp v) {y : AV} {h' : List Blk} (h : frz (aB P) hp v = some (y, h')) :
 Frz base O0 μ hp w h' ∧ RoV (okO base O0 μ h' w) w y val := by
 have key : (∀ cs, v ≠ .agg cs) → (∀ f cs, v ≠ .fn f cs) → Frz base O0 μ hp w h' ∧ RoV (okO base O0 μ h' w) w y val := by
  intro n1 n2;have hv' : LeafR (mkX base O0 μ hp w) v val := by
   unfold AggR at hv;split at hv
   · exact absurd rfl (n1 _)
   · exact absurd rfl (n2 _ _)
   · exact hv
  have hc' : Ev.clean1 hp v := by
   unfold Ev.clean at hc;split at hc
   · exact absurd rfl (n1 _)
   · exact absurd rfl (n2 _ _)
   · exact hc
  have h'' : frz1 (aB P) hp v = some (y, h') := by
   unfold frz at h;split at h
   · exact absurd rfl (n1 _)
   · exact absurd rfl (n2 _ _)
   · exact h
  exact nY H hv' hc' h''
 cases v
 case agg cs =>
  simp only [frz] at h;split at h
  · rename_i ys h1 he;simp only [Option.some.injEq, Prod.mk.injEq] at h;obtain ⟨rfl, rfl⟩ := h;obtain ⟨zs, rfl, hl, hh⟩ := hv;obtain ⟨F, q1, q2⟩ := oM cs hp (fun j => zs.getD j undef) H hh hc he;exact ⟨F, .agg _ _ (by omega) q2⟩
  · cases h
 case fn f cs =>
  simp only [frz] at h;split at h
  · rename_i ys h1 he;simp only [Option.some.injEq, Prod.mk.injEq] at h;obtain ⟨rfl, rfl⟩ := h;obtain ⟨zs, rfl, hl, hh⟩ := hv;obtain ⟨F, q1, q2⟩ := oM cs hp (fun j => zs.getD j undef) H hh hc he;exact ⟨F, .fn _ _ _ (by omega) q2⟩
  · cases h
 all_goals exact key (by simp) (by simp)
theorem oH : ∀ (l : List AV) (hp : List Blk) (Y : Nat → Value), HR base O0 μ hp w → (∀ (j : Nat) (c : AV), l[j]? = some c → AggR (mkX base O0 μ hp w) c (Y j)) → mX hp l →
 ∀ {ys : List AV} {h' : List Blk}, frzA (aB P) hp l = some (ys, h') → Frz base O0 μ hp w h' ∧ ys.length = l.length ∧ ∀ (j : Nat) (c : AV), ys[j]? = some c → RoV (okO base O0 μ h' w) w c (Y j)
 | [], hp, Y, H, _, _, ys, h', h => by
  simp only [frzA, Option.some.injEq, Prod.mk.injEq] at h;obtain ⟨rfl, rfl⟩ := h;exact ⟨.refl H, rfl, fun j c hj => by simp at hj⟩
 | x :: r, hp, Y, H, hv, hc, ys, h', h => by
  simp only [frzA] at h;split at h
  · rename_i y h1 he;split at h
    · rename_i ys' h2 he2;simp only [Option.some.injEq, Prod.mk.injEq] at h;obtain ⟨rfl, rfl⟩ := h;obtain ⟨F1, q1⟩ := yZ H (hv 0 x rfl) hc.1 he;have hc2 : mX h1 r := by
       have := hc.2;clear he2 hv hc;induction r with
       | nil => trivial
       | cons x r ih => exact ⟨F1.clean this.1, ih this.2⟩
      obtain ⟨F2, q2, q3⟩ := oH r h1 (fun j => Y (j + 1)) F1.hr (fun j c hj => (hv (j + 1) c (by simpa using hj)).mono F1.ext) hc2 he2;refine ⟨F1.trans F2, by simp [q2], fun j c hj => ?_⟩;cases j with
      | zero => simp at hj; subst hj; exact q1.mono F2.ext.o F2.ext.cell
      | succ j => exact q3 j c (by simpa using hj)
    · cases h
  · cases h
end
end
section
open Go Go.RowKit
def sleL (p : AV → AV → Prop) : List AV → List AV → Prop
 | [], [] => True
 | x :: r, y :: s => p x y ∧ sleL p r s
 | _, _ => False
def sle0 : AV → AV → Prop
 | .int k a, .int k' b => k = k' ∧ a.val = b.val
 | .bool a, .bool b => a.val = b.val
 | .sli k l, .sli k' l' => k = k' ∧ l = l'
 | .s0, .sli k l => l = []
 | .s0, .slc sz n f => n.val = 0
 | .str a, .str b => a = b
 | .slc sz n f, .sli k l => n.val = 0 ∧ l = []
 | _, .un => True
 | x, y => x = y
def sle1 : AV → AV → Prop
 | .slc sz n f, .slc sz' n' f' => sz = sz' ∧ n.val = n'.val ∧ ∀ i, i < n.val.toNat → sleL sle0 (f i) (f' i)
 | .slx sz l, .slc sz' n' f' => sz = sz' ∧ n'.val = l.length ∧ ∀ i, i < l.length → f' i = l.getD i []
 | x, y => sle0 x y
def sle2 : AV → AV → Prop
 | .agg cs, .agg cs' => sleL sle1 cs cs'
 | x, y => sle1 x y
def sle : AV → AV → Prop
 | .tup cs, .tup cs' => sleL sle2 cs cs'
 | x, y => sle2 x y
def RoLe (x y : AV) : Prop := ∀ (O : Nat → Prop) (w : World) (v : Value), RoV O w x v → RoV O w y v
theorem fJ {p : AV → AV → Prop} : ∀ {l m : List AV}, sleL p l m → l.length = m.length ∧ ∀ (j : Nat) (c : AV), m[j]? = some c → ∃ d, l[j]? = some d ∧ p d c
 | [], [], _ => ⟨rfl, fun j c hj => by simp at hj⟩
 | x :: r, y :: s, h => by
  obtain ⟨h1, h2⟩ := fJ h.2;refine ⟨by simp [h1], fun j c hj => ?_⟩;cases j with
  | zero => simp at hj; subst hj; exact ⟨x, rfl, h.1⟩
  | succ j => simpa using h2 j c (by simpa using hj)
 | [], _ :: _, h => h.elim
 | _ :: _, [], h => h.elim
theorem vC {x y : AV} (h : sle0 x y) : RoLe x y := by
 intro O w v hv;unfold sle0 at h;split at h
 · obtain ⟨rfl, h⟩ := h;cases hv with
   | int _ _ n hn => exact .int _ _ _ (h ▸ hn)
 · cases hv with
   | bool _ b hb => exact .bool _ _ (h ▸ hb)
 · obtain ⟨rfl, rfl⟩ := h; exact hv
 · subst h; cases hv with
   | s0 => exact .sliN _ none 0
 · cases hv with
   | s0 => exact .slcN _ _ _ none 0 h
 · subst h; exact hv
 · obtain ⟨h, rfl⟩ := h;cases hv with
   | slc _ _ _ a cap Y hs ho h0 hp hl hc hr =>
    rw [h];exact .sliN _ _ _
   | slcN _ _ _ A cap h => exact .sliN _ _ _
 · exact .un _
 · subst h; exact hv
theorem oT {x y : AV} (h : sle1 x y) : RoLe x y := by
 unfold sle1 at h;split at h
 · rename_i sz n f sz' n' f';obtain ⟨rfl, h1, h2⟩ := h;intro O w v hv;cases hv with
   | slc _ _ _ a cap Y hs ho h0 hp hl hc hr =>
    rw [h1];refine .slc _ n' f' a cap Y hs ho (by omega) (by omega) (fun i hi => ?_) (fun i j c hi hj => ?_) (fun i j c hi hj => ?_)
    · rw [← (fJ (h2 i (by omega))).1]; exact hl i (by omega)
    · obtain ⟨d, hd, _⟩ := (fJ (h2 i (by omega))).2 j c hj;exact hc i j d (by omega) hd
    · obtain ⟨d, hd, hs⟩ := (fJ (h2 i (by omega))).2 j c hj;exact vC hs _ _ _ (hr i j d (by omega) hd)
   | slcN _ _ _ A cap h => exact .slcN _ _ _ _ _ (by omega)
 · rename_i sz l sz' n' f';obtain ⟨rfl, h1, h2⟩ := h;intro O w v hv;cases hv with
   | slx _ _ a Y hs ho hl hc hr =>
    have e : ∀ i, i < n'.val.toNat → l[i]? = some (f' i) := fun i hi => by
     rw [h2 i (by omega)];simp [List.getD, List.getElem?_eq_getElem (by omega : i < l.length)]
    have q : l.length = n'.val.toNat := by omega
    rw [q];exact .slc _ n' f' a n'.val.toNat Y hs ho (by omega) (Ba _) (fun i hi => hl i _ (e i hi)) (fun i j c hi hj => hc i j _ c (e i hi) hj) (fun i j c hi hj => hr i j _ c (e i hi) hj)
 · exact vC h
theorem kP {x y : AV} (h : sle2 x y) : RoLe x y := by
 unfold sle2 at h;split at h
 · intro O w v hv;obtain ⟨h1, h2⟩ := fJ h;cases hv with
   | agg _ ys hl hh =>
    refine .agg _ _ (by omega) (fun j c hj => ?_);obtain ⟨d, hd, hs⟩ := h2 j c hj;exact oT hs _ _ _ (hh j d hd)
 · exact oT h
theorem yY {x y : AV} (h : sle x y) : RoLe x y := by
 unfold sle at h;split at h
 · intro O w v hv;obtain ⟨h1, h2⟩ := fJ h;cases hv with
   | tup _ ys hl hh =>
    refine .tup _ _ (by omega) (fun j c hj => ?_);obtain ⟨d, hd, hs⟩ := h2 j c hj;exact kP hs _ _ _ (hh j d hd)
 · exact kP h
def fnOK (fn : Func) (n : Nat) : Bool :=
 !(
   fn.name == "runtime.NumGoroutine") && Nat.ble n fn.ntmps && match fn.body with
  | some c => codeOK fn.ntmps c
  | none => false
def finish (E : Env) (h : List Blk) (v : AV) (K : AV → Prop) : Prop :=
 match v with
 | .tup vs => mX h vs ∧ match frzA E h vs with
  | some (ys, _) => K (.tup ys)
  | none => False
 | v => clean h v ∧ match frz E h v with
  | some (y, _) => K y
  | none => False
section
variable {P : Program} {G : Nat → TI} {base : Nat} {O0 : Nat → Prop} {μ : Nat → Nat} {hp : List Blk} {w w' : World}
theorem sK : ∀ (n : Nat) (l : List AV) (t : Nat), lookT (params n l) t = if n ≤ t then (l[t - n]?).getD .un else .un
 | n, [], t => by simp [params, lookT]
 | n, a :: r, t => by
  simp only [params, lookT];cases hb : Nat.beq n t with
  | true =>
   have := Ad hb;subst this;simp
  | false =>
   have hne : n ≠ t := by intro e; rw [e, Nat.beq_refl] at hb; cases hb
   rw [cond_false, sK (n + 1) r t];by_cases h1 : n + 1 ≤ t
   · rw [if_pos h1, if_pos (by omega), show t - n = (t - (n + 1)) + 1 by omega];simp
   · rw [if_neg h1];rw [if_neg (by omega)]
def vJ (tmps : Array Value) : ResultVar → Sem Value
 | .tmp t => pure (tmps.getD t undef)
 | .cell a t => do loadVar t (← asAddr (tmps.getD a undef))
theorem mY (hG : GOK P G) (H : HR base O0 μ hp w) {tt : List (Nat × AV)} {a : Act} (hT : TR (mkX base O0 μ hp w) tt a) : ∀ (l : List ResultVar) (K : List AV → Prop), wO (aB P) G ⟨tt, hp⟩ l K →
 ∃ vs ys, K vs ∧ (l.mapM (vJ a.tmps)).run P w = .ok ys w ∧ vs.length = ys.length ∧ ∀ (j : Nat) (c : AV), vs[j]? = some c → RelV (mkX base O0 μ hp w) c (ys.getD j undef)
 | [], K, h => ⟨[], [], h, rfl, rfl, fun j c hj => by simp at hj⟩
 | .tmp t :: r, K, h => by
  obtain ⟨vs, ys, h1, h2, h3, h4⟩ := mY hG H hT r _ h;refine ⟨_, a.tmps.getD t undef :: ys, h1, ?_, by simp [h3], fun j c hj => ?_⟩
  · simp only [List.mapM_cons, vJ, Sem.run_bind, Sem.run_pure, Result.andThen_ok, h2]
  · cases j with
    | zero => simp at hj; subst hj; exact hT t
    | succ j => simpa using h4 j c (by simpa using hj)
 | .cell p t :: r, K, h => by
  simp only [wO] at h;obtain ⟨v, hv, val, hrun, hrel⟩ := wY hG H (hT p) h;obtain ⟨vs, ys, h1, h2, h3, h4⟩ := mY hG H hT r _ hv;refine ⟨_, val :: ys, h1, ?_, by simp [h3], fun j c hj => ?_⟩
  · have : (vJ a.tmps (.cell p t)).run P w = .ok val w := by
     simp only [Instr.loadAt, Sem.run_bind] at hrun;simp only [vJ, Sem.run_bind];generalize a.tmps.getD p undef = pv at hrun ⊢;cases pv with
     | pointer o => cases o with
      | some ad => exact hrun
      | none => cases hrun
     | _ => cases hrun
    simp only [List.mapM_cons, Sem.run_bind, this, Sem.run_pure, Result.andThen_ok, h2]
  · cases j with
    | zero => simp at hj; subst hj; exact hrel
    | succ j => simpa using h4 j c (by simpa using hj)
theorem yC (hG : GOK P G) (hm : P.follows .mixedOrders = true) {f : FuncId} {fn : Func} (hf : P.funcs[f]? = some fn) {args : List AV} (ho : fnOK fn args.length = true)
 {lp : Code → St → (Ex → St → Prop) → Prop} (hlp : ∀ b s K, codeOK fn.ntmps b = true → lp b s K → lpR P fn.ntmps b s K) {h : List Blk} {K : AV → List Blk → Prop}
 (hv : evF (aB P) G lp fn args h K) : eE P f args h K := by
 unfold fnOK at ho;simp only [Aj, Dl] at ho;obtain ⟨⟨hname, hn⟩, hc⟩ := ho;have hn' := An hn;unfold evF at hv;cases hb : fn.body with
 | none => rw [hb] at hc; cases hc
 | some c =>
  rw [hb] at hc hv;dsimp only at hc hv;refine fun base O0 μ w vals H hl hr => .inl ⟨⟨fn, hf, hname, by rw [hb]; rfl⟩, ?_⟩
  let I : X := mkX base O0 μ h w;have R : SR base O0 I fn.ntmps ⟨params 0 args, h⟩ μ { tmps := vals ++ Array.replicate (fn.ntmps - vals.size) undef, defers := [] } w := by
   refine ⟨by simp; omega, rfl, H, fun t => ?_, Ext.refl _, Below.refl _ _⟩;rw [sK, if_pos (Nat.zero_le t), Nat.sub_zero];by_cases ht : t < args.length
   · rw [List.getElem?_eq_getElem ht];have := hr t args[t] (List.getElem?_eq_getElem ht);simp only [Option.getD_some];rw [gL, if_pos (by omega)];exact this
   · rw [List.getElem?_eq_none (by omega)];exact RoV.un _
  have hwp := mE hG hm hlp c _ _ _ _ _ hc R hv;refine calls_of_wp hf hb (wp_mono hwp ?_);have fin : ∀ s μ' a w', SR base O0 I fn.ntmps s μ' a w' → wO (aB P) G s fn.results.toList (aHU K s.h) →
   a.defers = [] ∧ ∃ v, (results fn a.tmps).run P w' = .ok v w' ∧ ∃ val r h' μ', Ending.returned v = .returned val ∧ K r h' ∧ RelV (mkX base O0 μ' h' w') r val ∧ HR base O0 μ' h' w' ∧
    Ext (mkX base O0 μ h w) (mkX base O0 μ' h' w') ∧ Below base w w' := by
   intro s μ' a w' R' hres;refine ⟨R'.defers, ?_⟩;obtain ⟨vs, ys, h1, h2, h3, h4⟩ := mY hG R'.hr R'.tmps fn.results.toList _ hres;have hrun : (results fn a.tmps).run P w' = .ok (if h : ys.toArray.size = 1 then ys.toArray[0] else .tuple ys.toArray) w' := by
    have e : results fn a.tmps = (do
      let vs ← (List.toArray <$> fn.results.toList.mapM (vJ a.tmps) : Sem (Array Value))
      pure (if h : vs.size = 1 then vs[0] else .tuple vs)) := by
     unfold results;rw [← Array.mapM_eq_mapM_toList];congr 2
    rw [e];simp only [Sem.run_bind, map_eq_pure_bind, h2, Sem.run_pure, Result.andThen_ok]
   refine ⟨_, hrun, (if h : ys.toArray.size = 1 then ys.toArray[0] else .tuple ys.toArray), ?_⟩;have tup : aHU K s.h vs = (bif allB AV.aIB vs then K (.tup vs) s.h else False) → ∃ r h' μ', Ending.returned (.tuple ys.toArray) = .returned (.tuple ys.toArray) ∧ K r h' ∧ RelV (mkX base O0 μ' h' w') r (.tuple ys.toArray) ∧ HR base O0 μ' h' w' ∧
    Ext (mkX base O0 μ h w) (mkX base O0 μ' h' w') ∧ Below base w w' := by
    intro e1;rw [e1] at h1;cases hall : allB AV.aIB vs with
    | false => rw [hall] at h1; exact h1.elim
    | true =>
     rw [hall, cond_true] at h1;refine ⟨.tup vs, s.h, μ', rfl, h1, ⟨ys.toArray, rfl, by simpa using h3, fun j c hj => ?_⟩, R'.hr, R'.ext, R'.below⟩;have hr := h4 j c hj;rw [allB_eq, List.all_eq_true] at hall;have hnt := hall c (List.mem_of_getElem? hj);have e2 : ys.toArray.getD j undef = ys.getD j undef := by simp [Array.getD_eq_getD_getElem?, List.getD]
     rw [e2];cases c <;> first | exact hr | (exact absurd hnt (by simp [AV.aIB]))
   match vs, ys, h3, h4, h1, tup with
   | [v], [y], _, h4, h1, _ => exact ⟨v, s.h, μ', rfl, h1, by simpa using h4 0 v rfl, R'.hr, R'.ext, R'.below⟩
   | [], [], _, h4, h1, tup => exact tup rfl
   | v :: v' :: vs, y :: y' :: ys, h3, h4, h1, tup =>
    have : ¬ (y :: y' :: ys).toArray.size = 1 := by simp
    rw [dif_neg this];exact tup rfl
  intro e a w' hq;cases e with
  | normal => obtain ⟨s, μ', R', h'⟩ := hq; exact fin s μ' a w' R' h'
  | ret => obtain ⟨s, μ', R', h'⟩ := hq; exact fin s μ' a w' R' h'
  | exit i => obtain ⟨s, μ', R', h'⟩ := hq; exact h'.elim
  | goto i => obtain ⟨s, μ', R', h'⟩ := hq; exact h'.elim
  | panic ch => exact hq.elim
  | outgrown => exact hq.elim
end
end
section
open Go Go.RowKit
section
variable {P : Program} {G : Nat → TI} {base : Nat} {O0 : Nat → Prop} {μ : Nat → Nat} {hp : List Blk} {w w' : World}
theorem aKG {E : Env} {hp : List Blk} {v : AV} {r : AV × List Blk} (h : frz E hp v = some r) : ∀ vs, v ≠ .tup vs := by
 rintro vs rfl;simp [frz, frz1] at h
theorem wW {E : Env} : ∀ {l : List AV} {hp : List Blk} {r : List AV × List Blk}, frzA E hp l = some r → ∀ c ∈ l, ∀ vs, c ≠ .tup vs
 | [], _, _, _, c, hc, _ => by cases hc
 | x :: l, hp, r, h, c, hc, vs => by
  simp only [frzA] at h;split at h
  · rename_i y h1 he;split at h
    · rename_i he2;rcases List.mem_cons.1 hc with rfl | hc
      · exact aKG he vs
      · exact wW he2 c hc vs
    · cases h
  · cases h
theorem sT {x : X} {c : AV} {v : Value} (h : RelV x c v) (hn : ∀ vs, c ≠ .tup vs) : AggR x c v := by
 unfold RelV at h;split at h
 · exact absurd rfl (hn _)
 · exact h
theorem aKM {f : FuncId} {args cargs : List AV} {r : AV} (hC : aC P f cargs r) {ys : List AV} {h h' : List Blk} (hf : frzA (aB P) h args = some (ys, h')) (hc : mX h args)
 (hle : sleL sle2 ys cargs) {K : AV → List Blk → Prop} (hK : K r h') : eE P f args h K := by
 refine fun base O0 μ w vals H hl hr => ?_
 obtain ⟨F, q1, q2⟩ := oH args h (fun j => vals.getD j undef) H (fun j c hj => sT (hr j c hj) (wW hf c (List.mem_of_getElem? hj))) hc hf;obtain ⟨e1, e2⟩ := fJ hle;refine (hC (okO base O0 μ h' w) w vals (fun n hn => aLJ H.all hn) F.hr.glob (by omega) (fun j c hj => ?_)).mono ?_
 · obtain ⟨d, hd, hs⟩ := e2 j c hj;exact kP hs _ _ _ (q2 j d hd)
 · rintro e w' ⟨val, rfl, hv, hb⟩;exact ⟨val, r, h', μ, rfl, hK, dK (hv.mono (zS F.hr hb) (fun _ _ _ h => h)), F.hr.grow hb, F.ext.trans (Ext.grow H.all hb), hb.mono H.all⟩
theorem aBT {f : FuncId} {args : List AV} {r : AV} (h : eE P f args [] (fun v h => finish (aB P) h v (fun y => sle y r))) : aC P f args r := by
 refine fun O w vals hO hg hl hr => ?_
 have H : HR w.heap.size O (fun _ => 0) [] w := ⟨Ba _, fun b x hb => by simp at hb, fun b hb => by simp [dimB, Blk.dim] at hb, fun b b' hb => by simp [wrB, Blk.wr] at hb, fun b x hb => by simp at hb, hg.mono (fun n hn => ⟨hO n hn, hn⟩) (fun _ _ _ h => h)⟩
 refine (h w.heap.size O (fun _ => 0) w vals H hl (fun j c hj => dK ((hr j c hj).mono (fun n hn => .inl ⟨hO n hn, hn⟩) (fun _ _ _ h => h)))).mono ?_;rintro e w' ⟨val, v, h', μ', rfl, hK, hv, hH, hX, hB⟩;have okn : ∀ hq, ∀ n, okO w.heap.size O μ' hq w' n → newO O w w' n := by
  rintro hq n (⟨_, h1⟩ | ⟨h1, h2, _⟩)
  · exact .inl h1
  · exact .inr ⟨h1, h2⟩
 refine ⟨val, rfl, ?_, hB⟩;unfold finish at hK;split at hK
 · rename_i vs;obtain ⟨hc, hK⟩ := hK;split at hK
   · rename_i ys h2 hf;obtain ⟨zs, rfl, hl2, hh⟩ := hv;obtain ⟨F, q1, q2⟩ := oH vs h' (fun j => zs.getD j undef) hH hh hc hf;refine yY hK _ _ _ ?_;exact (RoV.tup _ _ (by omega) q2).mono (okn _) (fun _ _ _ h => h)
   · exact hK.elim
 · rename_i hnt;obtain ⟨hc, hK⟩ := hK;split at hK
   · rename_i y h2 hf;obtain ⟨F, q⟩ := yZ hH (sT hv (fun vs e => hnt vs e)) hc hf;exact yY hK _ _ _ (q.mono (okn _) (fun _ _ _ h => h))
   · exact hK.elim
def Loops (P : Program) (n : Nat) (lp : Code → St → (Ex → St → Prop) → Prop) : Prop := lp = fun b s K => codeOK n b = true → lpR P n b s K
theorem yA (hG : GOK P G) (hm : P.follows .mixedOrders = true) {f : FuncId} {fn : Func} (hf : P.funcs[f]? = some fn) {args : List AV} (ho : fnOK fn args.length = true) {r : AV}
 (h : ∀ E, E = aB P → ∀ lp, Loops P fn.ntmps lp → evF E G lp fn args [] (fun v h => finish E h v (fun y => sle y r))) : aC P f args r :=
 aBT (yC hG hm hf ho (lp := fun b s K => codeOK fn.ntmps b = true → lpR P fn.ntmps b s K) (fun b s K hc h => h hc) (h _ rfl _ rfl))
theorem Goes.calls {f : FuncId} {vals : Array Value} {w : World} {Q : Ending → World → Prop} (hf : FOK P f) (h : Goes P f vals w Q) : Calls P f vals w Q := by
 rcases h with ⟨_, h⟩ | ⟨val, h, _⟩
 · exact h
 · rw [qC hf] at h; cases h
theorem E_br {E : Env} (hE : E = aB P) {b : Bool} {t f : Unit → Prop} (h1 : b = true → t ()) (h2 : b = false → f ()) : E.br b t f := by
 subst hE; exact ⟨h1, h2⟩
theorem E_nm {E : Env} (hE : E = aB P) {n : Int} {K : Int → Prop} (h : ∀ v, v = n → K v) : E.nm n K := by
 subst hE; exact h n rfl
theorem xZ {τ : Type} {E : Env} (hE : E = aB P) {cell : τ → List AV} {g : Nat → τ} {i : Int} {K : List AV → Prop} (h : ∀ t, t = g i.toNat → K (cell t)) : E.row (fun i => cell (g i)) i K := by
 subst hE; exact h _ rfl
theorem aRE {E : Env} (hE : E = aB P) {f : FuncId} {args cargs : List AV} {r : AV} (hC : aC P f cargs r) {ys : List AV} {h h' : List Blk} {fz : Option (List AV × List Blk)} (hf : frzA E h args = some (ys, h')) (hc : mX h args)
 (hle : sleL sle2 ys cargs) {K : AV → List Blk → Prop} (hK : K r h') : E.call f args h fz K := by
 subst hE; exact aKM hC hf hc hle hK
theorem aPY {E : Env} (hE : E = aB P) {f : FuncId} {args : List AV} {r : AV} (hC : aC P f args r) (hm : allB AV.mf args = true) {K : AV → Prop} (hK : K r) : E.pcall f args K := by
 subst hE; exact ⟨r, hK, hm, hC⟩
theorem E_in {E : Env} (hE : E = aB P) (hG : GOK P G) (hm : P.follows .mixedOrders = true) {f : FuncId} {fn : Func} (hf : P.funcs[f]? = some fn) {args : List AV} (ho : fnOK fn args.length = true)
 {h : List Blk} {fz : Option (List AV × List Blk)} {K : AV → List Blk → Prop} (hv : ∀ lp, Loops P fn.ntmps lp → evF E G lp fn args h K) : E.call f args h fz K := by
 subst hE;exact yC hG hm hf ho (lp := fun b s K => codeOK fn.ntmps b = true → lpR P fn.ntmps b s K) (fun b s K hc h => h hc) (hv _ rfl)
theorem E_loop {ι : Type} {E : Env} (hE : E = aB P) (hG : GOK P G) (hm : P.follows .mixedOrders = true) {n : Nat} {lp : Code → St → (Ex → St → Prop) → Prop} (hlp : Loops P n lp) {b : Code} {s : St} {K : Ex → St → Prop}
 (S : ι → St) (m : ι → Nat) (ok : ι → Prop) (h0 : ∃ i, ok i ∧ StLe s (S i))
 (hr : ∀ i, ok i → ev E G lp b (S i) (fun e s => match e with
   | .normal => ∃ j, m j < m i ∧ ok j ∧ StLe s (S j)
   | .exit x => K (.exit x) s
   | .goto x => K (.goto x) s
   | .ret => K .ret s)) : lp (.loop b) s K := by
 subst hE;subst hlp;intro hc;exact loop_real hG hm (lp := fun b s K => codeOK n b = true → lpR P n b s K) (fun b s K hc h => h hc) (b := b) (show codeOK n b = true from hc) S m ok h0 hr
theorem aHB {x : X} {c d : AV} (h : sle1 c d) {v : Value} (hv : LeafR x c v) : LeafR x d v := by
 have own : ∀ {c d : AV}, (∃ b s r l, c = .ms b s r l) ∨ (∃ b s r l, c = .ptr b s r l) → sle1 c d → d = c ∨ d = .un := by
  rintro c d (⟨b, s, r, l, rfl⟩ | ⟨b, s, r, l, rfl⟩) h <;> (cases d <;> first | exact .inr rfl | exact .inl (show _ = _ from h).symm)
 by_cases hc : (∃ b s r l, c = .ms b s r l) ∨ (∃ b s r l, c = .ptr b s r l)
 · rcases own hc h with rfl | rfl
   · exact hv
   · exact RoV.un _
 · have : RoV x.O x.w c v := by
    unfold LeafR at hv;split at hv
    · exact absurd (.inl ⟨_, _, _, _, rfl⟩) hc
    · exact absurd (.inr ⟨_, _, _, _, rfl⟩) hc
    · exact hv
   exact aR (oT h _ _ _ this)
theorem aFO {x : X} {c d : AV} (h : sle2 c d) {v : Value} (hv : RelV x c v) : RelV x d v := by
 have easy : sle1 c d → RelV x d v := by
  intro h;have same : d = c ∨ d = .un → RelV x d v := by
   rintro (rfl | rfl)
   · exact hv
   · exact RoV.un _
  cases c with
  | agg cs => exact same (by cases d <;> first | exact .inr rfl | exact .inl (show _ = _ from h).symm)
  | tup cs => exact same (by cases d <;> first | exact .inr rfl | exact .inl (show _ = _ from h).symm)
  | fn f cs => exact same (by cases d <;> first | exact .inr rfl | exact .inl (show _ = _ from h).symm)
  | _ => exact relV_of_leaf (aHB h hv)
 unfold sle2 at h;split at h
 · obtain ⟨ys, rfl, hl, hh⟩ := hv;obtain ⟨h1, h2⟩ := fJ h;refine ⟨ys, rfl, by omega, fun j c hj => ?_⟩;obtain ⟨d, hd, hs⟩ := h2 j c hj;exact aHB hs (hh j d hd)
 · exact easy h
def leT (t : List (Nat × AV)) : List (Nat × AV) → Prop
 | [] => True
 | (i, v) :: r => sle2 (lookT t i) v ∧ leT t r
theorem aDE {t : List (Nat × AV)} : ∀ {t' : List (Nat × AV)}, leT t t' → ∀ u, AVle (lookT t u) (lookT t' u)
 | [], _, u => AVle.un _
 | (i, v) :: r, h, u => by
  simp only [lookT];cases hb : Nat.beq i u with
  | true =>
   have := Ad hb;subst this;exact fun x val hv => aFO h.1 hv
  | false => exact aDE h.2 u
theorem stLe {t t' : List (Nat × AV)} {h h' : List Blk} (e : h = h') (l : leT t t') : StLe ⟨t, h⟩ ⟨t', h'⟩ := ⟨e, aDE l⟩
end
end
section
open Go Go.RowKit
section
variable {P : Program} {G : Nat → TI}
theorem E_callX {τ : Type} {Q : τ → Prop} {g : τ → AV} {E : Env} (hE : E = aB P) {f : FuncId} {args cargs : List AV} (hC : ∃ t, Q t ∧ aC P f cargs (g t)) {ys : List AV} {h h' : List Blk}
 {fz : Option (List AV × List Blk)} (hf : frzA E h args = some (ys, h')) (hc : mX h args) (hle : sleL sle2 ys cargs) {K : AV → List Blk → Prop} (hK : ∀ t, Q t → K (g t) h') : E.call f args h fz K := by
 obtain ⟨t, h1, h2⟩ := hC;exact aRE hE h2 hf hc hle (hK t h1)
theorem aJF {f : FuncId} {args cargs : List AV} {r : AV} (hC : aC P f cargs r) (hle : sleL sle2 args cargs) : aC P f args r := by
 obtain ⟨e1, e2⟩ := fJ hle;refine fun O w vals hO hg hl hr => hC O w vals hO hg (by omega) (fun j c hj => ?_)
 obtain ⟨d, hd, hs⟩ := e2 j c hj;exact kP hs _ _ _ (hr j d hd)
theorem E_pcallX {τ : Type} {Q : τ → Prop} {g : τ → AV} {E : Env} (hE : E = aB P) {f : FuncId} {args cargs : List AV} (hC : ∃ t, Q t ∧ aC P f cargs (g t)) (hm : allB AV.mf args = true)
 (hle : sleL sle2 args cargs) {K : AV → Prop} (hK : ∀ t, Q t → K (g t)) : E.pcall f args K := by
 obtain ⟨t, h1, h2⟩ := hC;exact aPY hE (aJF h2 hle) hm (hK t h1)
def aBN (E : Env) (G : Nat → TI) (lp : Code → St → (Ex → St → Prop) → Prop) (b : Code) : Nat → St → (Ex → St → Prop) → Prop
 | 0, _, _ => False
 | n + 1, s, K => ev E G lp b s (fun e s => match e with
   | .normal => aBN E G lp b n s K
   | .exit x => K (.exit x) s
   | .goto x => K (.goto x) s
   | .ret => K .ret s)
theorem aNJ {E : Env} (hE : E = aB P) (hG : GOK P G) (hm : P.follows .mixedOrders = true) {n : Nat} {lp : Code → St → (Ex → St → Prop) → Prop} (hlp : Loops P n lp) {b : Code} {s : St} {K : Ex → St → Prop}
 (m : Nat) (h : aBN E G lp b m s K) : lp (.loop b) s K := by
 subst hE;subst hlp;intro hc base O0 I μ a w R;refine wp_loop_rounds m ?_;induction m generalizing s μ a w with
 | zero => exact h.elim
 | succ m ih =>
  refine wp_mono (mE hG hm (lp := fun b s K => codeOK n b = true → lpR P n b s K) (fun b s K hc h => h hc) b _ s μ a w (show codeOK n b = true from hc) R h) ?_;intro e a w hq;cases e with
  | normal =>
   obtain ⟨s', μ', R', h'⟩ := hq;exact ih h' μ' a w R'
  | exit i => exact hq
  | goto i => exact hq
  | ret => exact hq
  | panic ch => exact hq.elim
  | outgrown => exact hq.elim
theorem aE (a b : Int) : cmpR .eql a b = decide (a = b) := by simp only [cmpR]; by_cases h : a = b <;> simp [h]
theorem aH (a b : Int) : cmpR .neq a b = decide (a ≠ b) := by simp only [cmpR]; by_cases h : a = b <;> simp [h]
theorem aG (a b : Int) : cmpR .lss a b = decide (a < b) := rfl
theorem aF (a b : Int) : cmpR .leq a b = decide (a ≤ b) := rfl
theorem aK (a b : Int) : cmpR .gtr a b = decide (b < a) := rfl
theorem aL (a b : Int) : cmpR .geq a b = decide (b ≤ a) := rfl
theorem fW {p : AV → AV → Prop} : sleL p [] [] := trivial
theorem dV {p : AV → AV → Prop} {x y : AV} {r s : List AV} (h : p x y) (k : sleL p r s) : sleL p (x :: r) (y :: s) := ⟨h, k⟩
theorem aM {k : IntKind} {a : SI} : sle2 (.int k a) (.int k (.s a.val)) := ⟨rfl, rfl⟩
theorem dU {k : IntKind} {a : SI} : sle1 (.int k a) (.int k (.s a.val)) := ⟨rfl, rfl⟩
theorem aI {a : SB} : sle2 (.bool a) (.bool (.s a.val)) := rfl
theorem cV {a : SB} : sle1 (.bool a) (.bool (.s a.val)) := rfl
theorem aN {k : IntKind} {l : List Int} : sle2 (.sli k l) (.sli k l) := ⟨rfl, rfl⟩
theorem dY {k : IntKind} {l : List Int} : sle1 (.sli k l) (.sli k l) := ⟨rfl, rfl⟩
theorem cR {k : IntKind} : sle2 .s0 (.sli k []) := rfl
theorem gG {k : IntKind} : sle1 .s0 (.sli k []) := rfl
theorem dR {cs ds : List AV} (h : sleL sle1 cs ds) : sle2 (.agg cs) (.agg ds) := h
theorem lR {f : FuncId} {cs : List AV} : sle2 (.fn f cs) (.fn f cs) := rfl
def up1 : AV → AV
 | .int k a => .int k (.s a.val)
 | .bool a => .bool (.s a.val)
 | x => x
def up2 : AV → AV
 | .agg cs => .agg (cs.map up1)
 | x => up1 x
theorem aPU (x : AV) : sle0 x x := by
 cases x <;> simp [sle0]
theorem wB : ∀ (l : List AV), sleL sle0 l l
 | [] => trivial
 | y :: r => ⟨aPU y, wB r⟩
theorem aTN (x : AV) : sle1 x (up1 x) := by
 cases x with
 | slc sz n f => exact ⟨rfl, rfl, fun i _ => wB _⟩
 | _ => simp [sle1, sle0, up1, SI.val, SB.val]
theorem aML : ∀ (l : List AV), sleL sle1 l (l.map up1)
 | [] => trivial
 | y :: r => ⟨aTN y, aML r⟩
theorem aTS (x : AV) : sle2 x (up2 x) := by
 cases x with
 | slc sz n f => exact ⟨rfl, rfl, fun i _ => wB _⟩
 | agg cs => exact aML cs
 | _ => simp [sle2, sle1, sle0, up2, up1, SI.val, SB.val]
theorem u_up : ∀ {ys : List AV}, sleL sle2 ys (ys.map up2)
 | [] => trivial
 | x :: r => ⟨aTS x, u_up⟩
end
theorem E_cx {P : Program} {τ : Type} {Q : τ → Prop} {g : τ → AV} {E : Env} (hE : E = aB P) {f : FuncId} {args cargs : List AV} (hC : ∃ t, Q t ∧ aC P f cargs (g t)) {ys : List AV} {h h' : List Blk}
 {fz : Option (List AV × List Blk)} {K : AV → List Blk → Prop} (hK : ∀ t, Q t → K (g t) h') (hf : frzA E h args = some (ys, h') := by rfl) (hc : mX h args := by (cbv <;> trivial)) (hle : sleL sle2 ys cargs := by exact u_up) : E.call f args h fz K :=
 E_callX hE hC hf hc hle hK
theorem E_px {P : Program} {τ : Type} {Q : τ → Prop} {g : τ → AV} {E : Env} (hE : E = aB P) {f : FuncId} {args cargs : List AV} (hC : ∃ t, Q t ∧ aC P f cargs (g t))
 {K : AV → Prop} (hK : ∀ t, Q t → K (g t)) (hm : allB AV.mf args = true := by rfl) (hle : sleL sle2 args cargs := by exact u_up) : E.pcall f args K :=
 E_pcallX hE hC hm hle hK
end
section
open Go Go.RowKit
def isMs : AV → Bool
 | .ms _ _ _ _ => true
 | _ => false
section
variable {P : Program} {G : Nat → TI}
theorem aTO {E : Env} (hE : E = aB P) {n : Nat} {lp : Code → St → (Ex → St → Prop) → Prop} (hlp : Loops P n lp) {c : Code} {t : List (Nat × AV)} {h : List Blk} {K : Ex → St → Prop}
 (d : Nat) {y : AV} {h' : List Blk} {v : AV} (hd : lookT t d = v) (hv : isMs v = true) (hf : frz1 E h v = some (y, h')) (hcl : clean1 h v) (hk : lp c ⟨(d, y) :: t, h'⟩ K) : lp c ⟨t, h⟩ K := by
 subst hE;subst hlp;subst hd;intro hc base O0 I μ a w R;have hr := R.tmps d;have hl : LeafR (mkX base O0 μ h w) (lookT t d) (a.tmps.getD d undef) := by
  revert hv hr;generalize lookT t d = v;cases v <;> intro hv hr <;> first | exact hr | cases hv
 obtain ⟨F, q⟩ := nY R.hr hl hcl hf;exact hk hc base O0 I μ a w ⟨R.size, R.defers, F.hr, (R.tmps.mono F.ext).refine (dK q), R.ext.trans F.ext, R.below⟩
end
end
section
open Go Go.Proofs
def tab : List (Nat × TI) :=
[(3, ⟨.int .i64, 1, 8, [.int .i64 (.l 0)], (some [some .i64])⟩),
  (4, ⟨.bool, 1, 1, [.bool (.l false)], (some [none])⟩),
  (5, ⟨.int .u8, 1, 1, [.int .u8 (.l 0)], (some [some .u8])⟩),
  (9, ⟨.str, 1, 16, [.str ⟨#[]⟩], none⟩),
  (22, ⟨.int .u64, 1, 8, [.int .u64 (.l 0)], (some [some .u64])⟩),
  (24, ⟨.struct [(0, 1, false), (1, 1, false), (2, 1, false), (3, 1, false)], 4, 32, [.int .i64 (.l 0), .bool (.l false), .int .u64 (.l 0), .int .i64 (.l 0)], (some [some .i64, none, some .u64, some .i64])⟩),
  (26, ⟨.struct [(0, 1, false), (1, 4, true), (5, 4, true)], 9, 72, [.bool (.l false), .int .i64 (.l 0), .bool (.l false), .int .u64 (.l 0), .int .i64 (.l 0), .int .i64 (.l 0), .bool (.l false), .int .u64 (.l 0), .int .i64 (.l 0)], (some [none, some .i64, none, some .u64, some .i64, some .i64, none, some .u64, some .i64])⟩),
  (30, ⟨.slice 97, 1, 24, [.s0], none⟩),
  (32, ⟨.struct [(0, 1, false), (1, 1, false)], 2, 32, [.bool (.l false), .s0], none⟩),
  (59, ⟨.struct [(0, 2, true), (2, 2, true)], 4, 64, [.bool (.l false), .s0, .bool (.l false), .s0], none⟩),
  (61, ⟨.struct [(0, 4, true), (4, 1, false)], 5, 72, [.bool (.l false), .s0, .bool (.l false), .s0, .bool (.l false)], none⟩),
  (75, ⟨.one, 1, 8, [.lit .nilFunc], none⟩),
  (76, ⟨.slice 26, 1, 24, [.s0], none⟩),
  (77, ⟨.slice 24, 1, 24, [.s0], none⟩),
  (84, ⟨.struct [(0, 2, true), (2, 1, false)], 3, 40, [.bool (.l false), .s0, .int .i64 (.l 0)], none⟩),
  (97, ⟨.int .u32, 1, 4, [.int .u32 (.l 0)], (some [some .u32])⟩),
  (100, ⟨.slice 32, 1, 24, [.s0], none⟩),
  (102, ⟨.int .u64, 1, 8, [.int .u64 (.l 0)], (some [some .u64])⟩),
  (136, ⟨.struct [(0, 1, false), (1, 1, false), (2, 1, false)], 3, 24, [.int .u64 (.l 0), .int .u64 (.l 0), .bool (.l false)], (some [some .u64, some .u64, none])⟩),
  (139, ⟨.one, 1, 16, [.lit .nilIface], none⟩),
  (158, ⟨.array 32 5, 32, 32, [.int .u8 (.l 0), .int .u8 (.l 0), .int .u8 (.l 0), .int .u8 (.l 0), .int .u8 (.l 0), .int .u8 (.l 0), .int .u8 (.l 0), .int .u8 (.l 0), .int .u8 (.l 0), .int .u8 (.l 0), .int .u8 (.l 0), .int .u8 (.l 0), .int .u8 (.l 0), .int .u8 (.l 0), .int .u8 (.l 0), .int .u8 (.l 0), .int .u8 (.l 0), .int .u8 (.l 0), .int .u8 (.l 0), .int .u8 (.l 0), .int .u8 (.l 0), .int .u8 (.l 0), .int .u8 (.l 0), .int .u8 (.l 0), .int .u8 (.l 0), .int .u8 (.l 0), .int .u8 (.l 0), .int .u8 (.l 0), .int .u8 (.l 0), .int .u8 (.l 0), .int .u8 (.l 0), .int .u8 (.l 0)], none⟩)]
def G : Nat → TI := aIU tab
theorem hG : GOK Tryz.prog G := tabOK (by kernel_rfl) (by kernel_rfl)
theorem hm : Tryz.prog.follows .mixedOrders = true := by kernel_rfl
theorem callsA_o {f : FuncId} {fn : Func} (hf : Tryz.prog.funcs[f]? = some fn) {args : List AV} {r : AV}
 (h : ∀ E, E = aB Tryz.prog → ∀ lp, Loops Tryz.prog fn.ntmps lp → evF E G lp fn args [] (fun v h => finish E h v (fun y => sle y r))) (ho : fnOK fn args.length = true := by kernel_rfl) : aC Tryz.prog f args r := yA hG hm hf ho h
end
section
open Go
structure Num where
 kind : Int
 neg : Bool
 m : Int
 e : Int
 deriving DecidableEq
structure Iv where
 empty : Bool
 lo : Num
 hi : Num
 deriving DecidableEq
theorem Num.eq_iff (a b : Num) : a = b ↔ a.kind = b.kind ∧ a.neg = b.neg ∧ a.m = b.m ∧ a.e = b.e := by
 cases a; cases b; simp
theorem Iv.eq_iff (a b : Iv) : a = b ↔ a.empty = b.empty ∧ a.lo = b.lo ∧ a.hi = b.hi := by
 cases a; cases b; simp
theorem Num.eta (n : Num) : (⟨n.kind, n.neg, n.m, n.e⟩ : Num) = n := rfl
theorem Iv.eta (x : Iv) : (⟨x.empty, x.lo, x.hi⟩ : Iv) = x := rfl
def Num.cells (n : Num) : List AV := [.int .i64 (.s n.kind), .bool (.s n.neg), .int .u64 (.s n.m), .int .i64 (.s n.e)]
def Num.av (n : Num) : AV := .agg [.int .i64 (.s n.kind), .bool (.s n.neg), .int .u64 (.s n.m), .int .i64 (.s n.e)]
def Iv.av (x : Iv) : AV := .agg [.bool (.s x.empty), .int .i64 (.s x.lo.kind), .bool (.s x.lo.neg), .int .u64 (.s x.lo.m), .int .i64 (.s x.lo.e),
  .int .i64 (.s x.hi.kind), .bool (.s x.hi.neg), .int .u64 (.s x.hi.m), .int .i64 (.s x.hi.e)]
def Num.zero : Num := ⟨0, false, 0, 0⟩
def Num.top : Int := 9223372036854775808
def Num.may (n : Num) : Bool :=
 if n.kind = 0 then decide (n = Num.zero) else if n.kind = 1 then decide (9223372036854775808 ≤ n.m) && decide (-1048576 ≤ n.e) && decide (n.e ≤ 1048576) else if n.kind = 2 then decide (n.m = 0) && decide (n.e = 0) else false
def Num.fair (n : Num) : Num := if n.may then n else Num.zero
def Num.inf (b : Bool) : Num := ⟨2, b, 0, 0⟩
def Num.huge (b : Bool) : Num := ⟨1, b, 18446744073709551615, 1048576⟩
def Num.tiny (b : Bool) : Num := ⟨1, b, Num.top, -1048576⟩
def Num.bound (neg : Bool) (m e : Int) (away : Bool) : Num :=
 if 1048576 < e then (if away then Num.inf neg else Num.huge neg) else if e < -1048576 then (if away then Num.tiny neg else Num.zero) else ⟨1, neg, m, e⟩
def Num.grow (neg : Bool) (m e : Int) (cut away : Bool) : Num :=
 if cut && away then (if IntKind.u64.wrap (m + 1) = 0 then Num.bound neg Num.top (IntKind.i64.wrap (e + 1)) away else Num.bound neg (IntKind.u64.wrap (m + 1)) e away) else Num.bound neg m e away
def Num.sign (n : Num) : Int := if n.fair.kind = 0 then 0 else if n.fair.neg then -1 else 1
def Num.farther (a b : Num) : Bool := if a.kind ≠ b.kind then decide (b.kind < a.kind) else if a.e ≠ b.e then decide (b.e < a.e) else decide (b.m < a.m)
def Num.cmp (a b : Num) : Int :=
 if a.fair.sign < b.fair.sign then -1 else if b.fair.sign < a.fair.sign then 1 else if a.fair.farther b.fair then a.fair.sign else if b.fair.farther a.fair then IntKind.i64.wrap (0 - a.fair.sign) else 0
def Num.opp (n : Num) : Num := ⟨n.fair.kind, decide (n.fair.kind ≠ 0) && !n.fair.neg, n.fair.m, n.fair.e⟩
end
section
open Go Go.Proofs
theorem xP (n : Num)  : ∃ t : Bool, t = n.may ∧ aC Tryz.prog 36 [n.av] (.bool (.s t)) := by
 refine ⟨_, rfl, ?_⟩;generalize hr : n.may = r;refine callsA_o Tryz.func36 fun E hE lp hl => ?_
 cbv;repeat' (first
   | (refine E_br hE ?_ ?_ <;> intro h <;> cbv)
   | (refine E_nm hE fun v hv => ?_; cbv)
   | fail)
 all_goals (subst hE; subst hr)
 all_goals (try simp only [aB, aE, aH, aG, aF, aK, aL, aA, Ab, Aa, SI.val, SB.val, Num.eta, Iv.eta] at *)
 all_goals (simp only [Num.may, Num.zero, Num.top, Num.eq_iff])
 all_goals (try simp_all)
 all_goals (try (intros; omega))
 all_goals (try (simp only [Ab]; intros; omega))
theorem vO (n : Num)  : ∃ t : Num, t = n.fair ∧ aC Tryz.prog 83 [n.av] (t.av) := by
 refine ⟨_, rfl, ?_⟩;generalize hr : n.fair = r;refine callsA_o Tryz.func83 fun E hE lp hl => ?_
 cbv;repeat' (first
   | (refine E_br hE ?_ ?_ <;> intro h <;> cbv)
   | (refine E_nm hE fun v hv => ?_; cbv)
   | (refine E_cx hE (xP ⟨_, _, _, _⟩) ?_; intro t ht; cbv)
   | fail)
 all_goals (subst hE; subst hr)
 all_goals (try simp only [aB, aE, aH, aG, aF, aK, aL, aA, Ab, Aa, SI.val, SB.val, Num.eta, Iv.eta] at *)
 all_goals (try simp_all [Num.fair, Num.zero])
 all_goals (try omega)
 all_goals (try simp only [Ay])
 all_goals (try rfl)
 all_goals ((repeat' split) <;> (try simp_all) <;> (try omega))
theorem yL (b : Bool)  : ∃ t : Num, t = Num.inf b ∧ aC Tryz.prog 156 [.bool (.s b)] (t.av) := by
 refine ⟨_, rfl, ?_⟩;generalize hr : Num.inf b = r;refine callsA_o Tryz.func156 fun E hE lp hl => ?_
 cbv;repeat' (first
   | (refine E_br hE ?_ ?_ <;> intro h <;> cbv)
   | (refine E_nm hE fun v hv => ?_; cbv)
   | fail)
 all_goals (subst hE; subst hr)
 all_goals (try simp only [aB, aE, aH, aG, aF, aK, aL, aA, Ab, Aa, SI.val, SB.val, Num.eta, Iv.eta] at *)
 all_goals (try simp_all [Num.inf])
 all_goals (try omega)
 all_goals (try simp only [Ay])
 all_goals (try rfl)
 all_goals ((repeat' split) <;> (try simp_all) <;> (try omega))
theorem aRO (b : Bool)  : ∃ t : Num, t = Num.huge b ∧ aC Tryz.prog 229 [.bool (.s b)] (t.av) := by
 refine ⟨_, rfl, ?_⟩;generalize hr : Num.huge b = r;refine callsA_o Tryz.func229 fun E hE lp hl => ?_
 cbv;repeat' (first
   | (refine E_br hE ?_ ?_ <;> intro h <;> cbv)
   | (refine E_nm hE fun v hv => ?_; cbv)
   | fail)
 all_goals (subst hE; subst hr)
 all_goals (try simp only [aB, aE, aH, aG, aF, aK, aL, aA, Ab, Aa, SI.val, SB.val, Num.eta, Iv.eta] at *)
 all_goals (try simp_all [Num.huge])
 all_goals (try omega)
 all_goals (try simp only [Ay])
 all_goals (try rfl)
 all_goals ((repeat' split) <;> (try simp_all) <;> (try omega))
theorem aRF (b : Bool)  : ∃ t : Num, t = Num.tiny b ∧ aC Tryz.prog 230 [.bool (.s b)] (t.av) := by
 refine ⟨_, rfl, ?_⟩;generalize hr : Num.tiny b = r;refine callsA_o Tryz.func230 fun E hE lp hl => ?_
 cbv;repeat' (first
   | (refine E_br hE ?_ ?_ <;> intro h <;> cbv)
   | (refine E_nm hE fun v hv => ?_; cbv)
   | fail)
 all_goals (subst hE; subst hr)
 all_goals (try simp only [aB, aE, aH, aG, aF, aK, aL, aA, Ab, Aa, SI.val, SB.val, Num.eta, Iv.eta] at *)
 all_goals (try simp_all [Num.tiny, Num.top])
 all_goals (try omega)
 all_goals (try simp only [Ay])
 all_goals (try rfl)
 all_goals ((repeat' split) <;> (try simp_all) <;> (try omega))
theorem aPH (neg : Bool) (m : Int) (e : Int) (away : Bool)  : ∃ t : Num, t = Num.bound neg m e away ∧ aC Tryz.prog 203 [.bool (.s neg), .int .u64 (.s m), .int .i64 (.s e), .bool (.s away)] (t.av) := by
 refine ⟨_, rfl, ?_⟩;generalize hr : Num.bound neg m e away = r;refine callsA_o Tryz.func203 fun E hE lp hl => ?_
 cbv;repeat' (first
   | (refine E_br hE ?_ ?_ <;> intro h <;> cbv)
   | (refine E_nm hE fun v hv => ?_; cbv)
   | (refine E_cx hE (yL _) ?_; intro t ht; cbv)
   | (refine E_cx hE (aRO _) ?_; intro t ht; cbv)
   | (refine E_cx hE (aRF _) ?_; intro t ht; cbv)
   | fail)
 all_goals (subst hE; subst hr)
 all_goals (try simp only [aB, aE, aH, aG, aF, aK, aL, aA, Ab, Aa, SI.val, SB.val, Num.eta, Iv.eta] at *)
 all_goals (try simp_all [Num.bound, Num.zero])
 all_goals (try omega)
 all_goals (try simp only [Ay])
 all_goals (try rfl)
 all_goals ((repeat' split) <;> (try simp_all) <;> (try omega))
theorem rN (neg : Bool) (m : Int) (e : Int) (cut : Bool) (away : Bool)  : ∃ t : Num, t = Num.grow neg m e cut away ∧ aC Tryz.prog 160 [.bool (.s neg), .int .u64 (.s m), .int .i64 (.s e), .bool (.s cut), .bool (.s away)] (t.av) := by
 refine ⟨_, rfl, ?_⟩;generalize hr : Num.grow neg m e cut away = r;refine callsA_o Tryz.func160 fun E hE lp hl => ?_
 cbv;repeat' (first
   | (refine E_br hE ?_ ?_ <;> intro h <;> cbv)
   | (refine E_nm hE fun v hv => ?_; cbv)
   | (refine E_cx hE (aPH _ _ _ _) ?_; intro t ht; cbv)
   | fail)
 all_goals (subst hE; subst hr)
 all_goals (try simp only [aB, aE, aH, aG, aF, aK, aL, aA, Ab, Aa, SI.val, SB.val, Num.eta, Iv.eta] at *)
 all_goals (try simp_all [Num.grow, Num.top])
 all_goals (try omega)
 all_goals (try simp only [Ay])
 all_goals (try rfl)
 all_goals ((repeat' split) <;> (try simp_all) <;> (try omega))
theorem aRW (n : Num)  : ∃ t : Int, t = n.sign ∧ aC Tryz.prog 56 [n.av] (.int .i64 (.s t)) := by
 refine ⟨_, rfl, ?_⟩;generalize hr : n.sign = r;refine callsA_o Tryz.func56 fun E hE lp hl => ?_
 cbv;repeat' (first
   | (refine E_br hE ?_ ?_ <;> intro h <;> cbv)
   | (refine E_nm hE fun v hv => ?_; cbv)
   | (refine E_cx hE (vO ⟨_, _, _, _⟩) ?_; intro t ht; cbv)
   | fail)
 all_goals (subst hE; subst hr)
 all_goals (try simp only [aB, aE, aH, aG, aF, aK, aL, aA, Ab, Aa, SI.val, SB.val, Num.eta, Iv.eta] at *)
 all_goals (try simp_all [Num.sign])
 all_goals (try omega)
 all_goals (try simp only [Ay])
 all_goals (try rfl)
 all_goals ((repeat' split) <;> (try simp_all) <;> (try omega))
theorem aJR (a : Num) (b : Num)  : ∃ t : Bool, t = a.farther b ∧ aC Tryz.prog 84 [a.av, b.av] (.bool (.s t)) := by
 refine ⟨_, rfl, ?_⟩;generalize hr : a.farther b = r;refine callsA_o Tryz.func84 fun E hE lp hl => ?_
 cbv;repeat' (first
   | (refine E_br hE ?_ ?_ <;> intro h <;> cbv)
   | (refine E_nm hE fun v hv => ?_; cbv)
   | fail)
 all_goals (subst hE; subst hr)
 all_goals (try simp only [aB, aE, aH, aG, aF, aK, aL, aA, Ab, Aa, SI.val, SB.val, Num.eta, Iv.eta] at *)
 all_goals (try simp_all [Num.farther])
 all_goals (try omega)
 all_goals (try simp only [Ay])
 all_goals (try rfl)
 all_goals ((repeat' split) <;> (try simp_all) <;> (try omega))
theorem c_Cmp (a : Num) (b : Num)  : ∃ t : Int, t = a.cmp b ∧ aC Tryz.prog 29 [a.av, b.av] (.int .i64 (.s t)) := by
 refine ⟨_, rfl, ?_⟩;generalize hr : a.cmp b = r;refine callsA_o Tryz.func29 fun E hE lp hl => ?_
 cbv;repeat' (first
   | (refine E_br hE ?_ ?_ <;> intro h <;> cbv)
   | (refine E_nm hE fun v hv => ?_; cbv)
   | (refine E_px hE (vO ⟨_, _, _, _⟩) ?_; intro t ht; cbv)
   | (refine E_px hE (aRW ⟨_, _, _, _⟩) ?_; intro t ht; cbv)
   | (refine E_cx hE (aJR ⟨_, _, _, _⟩ ⟨_, _, _, _⟩) ?_; intro t ht; cbv)
   | fail)
 all_goals (subst hE; subst hr)
 all_goals (try simp only [aB, aE, aH, aG, aF, aK, aL, aA, Ab, Aa, SI.val, SB.val, Num.eta, Iv.eta] at *)
 all_goals (try simp_all [Num.cmp])
 all_goals (try omega)
 all_goals (try simp only [Ay])
 all_goals (try rfl)
 all_goals ((repeat' split) <;> (try simp_all) <;> (try omega))
theorem aQR (n : Num)  : ∃ t : Num, t = n.opp ∧ aC Tryz.prog 41 [n.av] (t.av) := by
 refine ⟨_, rfl, ?_⟩;generalize hr : n.opp = r;refine callsA_o Tryz.func41 fun E hE lp hl => ?_
 cbv;repeat' (first
   | (refine E_br hE ?_ ?_ <;> intro h <;> cbv)
   | (refine E_nm hE fun v hv => ?_; cbv)
   | (refine E_cx hE (vO ⟨_, _, _, _⟩) ?_; intro t ht; cbv)
   | fail)
 all_goals (subst hE; subst hr)
 all_goals (try simp only [aB, aE, aH, aG, aF, aK, aL, aA, Ab, Aa, SI.val, SB.val, Num.eta, Iv.eta] at *)
 all_goals (try simp_all [Num.opp])
 all_goals (try omega)
 all_goals (try simp only [Ay])
 all_goals (try rfl)
 all_goals ((repeat' split) <;> (try simp_all) <;> (try omega))
end
section
open Go
def Iv.none : Iv := ⟨true, Num.zero, Num.zero⟩
def Iv.may (x : Iv) : Bool :=
 if x.empty then decide (x = Iv.none) else x.lo.may && x.hi.may && decide (x.lo.cmp x.hi ≤ 0) && decide (x.lo ≠ Num.inf false) && decide (x.hi ≠ Num.inf true)
def Iv.fair (x : Iv) : Iv := if x.may then x else Iv.none
def Iv.make (lo hi : Num) : Iv := Iv.fair ⟨false, lo.opp.opp, hi.opp.opp⟩
def Iv.point (n : Num) : Iv := Iv.make n n
def Iv.within (a b : Iv) : Bool := a.fair.empty || (!b.fair.empty && decide (b.fair.lo.cmp a.fair.lo ≤ 0) && decide (a.fair.hi.cmp b.fair.hi ≤ 0))
def Iv.has (x : Iv) (n : Num) : Bool := !(Iv.point n).empty && (Iv.point n).within x
end
section
open Go Go.Proofs
theorem lU   : ∃ t : Iv, t = Iv.none ∧ aC Tryz.prog 88 [] (t.av) := by
 refine ⟨_, rfl, ?_⟩;generalize hr : Iv.none = r;refine callsA_o Tryz.func88 fun E hE lp hl => ?_
 cbv;repeat' (first
   | (refine E_br hE ?_ ?_ <;> intro h <;> cbv)
   | (refine E_nm hE fun v hv => ?_; cbv)
   | fail)
 all_goals (subst hE; subst hr)
 all_goals (try simp only [aB, aE, aH, aG, aF, aK, aL, aA, Ab, Aa, SI.val, SB.val, Num.eta, Iv.eta] at *)
 all_goals (try simp_all [Iv.none, Num.zero])
 all_goals (try omega)
 all_goals (try simp only [Ay])
 all_goals (try rfl)
 all_goals ((repeat' split) <;> (try simp_all) <;> (try omega))
theorem aIP (x : Iv)  : ∃ t : Bool, t = x.may ∧ aC Tryz.prog 119 [x.av] (.bool (.s t)) := by
 refine ⟨_, rfl, ?_⟩;generalize hr : x.may = r;refine callsA_o Tryz.func119 fun E hE lp hl => ?_
 cbv;repeat' (first
   | (refine E_br hE ?_ ?_ <;> intro h <;> cbv)
   | (refine E_nm hE fun v hv => ?_; cbv)
   | (refine E_px hE (lU ) ?_; intro t ht; cbv)
   | (refine E_px hE (xP ⟨_, _, _, _⟩) ?_; intro t ht; cbv)
   | (refine E_px hE (c_Cmp ⟨_, _, _, _⟩ ⟨_, _, _, _⟩) ?_; intro t ht; cbv)
   | (refine E_px hE (yL _) ?_; intro t ht; cbv)
   | fail)
 all_goals (subst hE; subst hr)
 all_goals (try simp only [aB, aE, aH, aG, aF, aK, aL, aA, Ab, Aa, SI.val, SB.val, Num.eta, Iv.eta] at *)
 all_goals (try simp_all [Iv.may, Iv.none, Num.zero, Iv.eq_iff, Num.eq_iff, Num.inf])
 all_goals (try omega)
 all_goals (try simp only [Ay])
 all_goals (try rfl)
 all_goals ((repeat' split) <;> (try simp_all) <;> (try omega))
theorem mO (x : Iv)  : ∃ t : Iv, t = x.fair ∧ aC Tryz.prog 82 [x.av] (t.av) := by
 refine ⟨_, rfl, ?_⟩;generalize hr : x.fair = r;refine callsA_o Tryz.func82 fun E hE lp hl => ?_
 cbv;repeat' (first
   | (refine E_br hE ?_ ?_ <;> intro h <;> cbv)
   | (refine E_nm hE fun v hv => ?_; cbv)
   | (refine E_cx hE (aIP ⟨_, ⟨_, _, _, _⟩, ⟨_, _, _, _⟩⟩) ?_; intro t ht; cbv)
   | (refine E_cx hE (lU ) ?_; intro t ht; cbv)
   | fail)
 all_goals (subst hE; subst hr)
 all_goals (try simp only [aB, aE, aH, aG, aF, aK, aL, aA, Ab, Aa, SI.val, SB.val, Num.eta, Iv.eta] at *)
 all_goals (try simp_all [Iv.fair])
 all_goals (try omega)
 all_goals (try simp only [Ay])
 all_goals (try rfl)
 all_goals ((repeat' split) <;> (try simp_all) <;> (try omega))
theorem c_ivMake (lo : Num) (hi : Num)  : ∃ t : Iv, t = Iv.make lo hi ∧ aC Tryz.prog 54 [lo.av, hi.av] (t.av) := by
 refine ⟨_, rfl, ?_⟩;generalize hr : Iv.make lo hi = r;refine callsA_o Tryz.func54 fun E hE lp hl => ?_
 cbv;repeat' (first
   | (refine E_br hE ?_ ?_ <;> intro h <;> cbv)
   | (refine E_nm hE fun v hv => ?_; cbv)
   | (refine E_px hE (aQR ⟨_, _, _, _⟩) ?_; intro t ht; cbv)
   | (refine E_px hE (mO ⟨_, ⟨_, _, _, _⟩, ⟨_, _, _, _⟩⟩) ?_; intro t ht; cbv)
   | fail)
 all_goals (subst hE; subst hr)
 all_goals (try simp only [aB, aE, aH, aG, aF, aK, aL, aA, Ab, Aa, SI.val, SB.val, Num.eta, Iv.eta] at *)
 all_goals (try simp_all [Iv.make])
 all_goals (try omega)
 all_goals (try simp only [Ay])
 all_goals (try rfl)
 all_goals ((repeat' split) <;> (try simp_all) <;> (try omega))
theorem qZ (n : Num)  : ∃ t : Iv, t = Iv.point n ∧ aC Tryz.prog 37 [n.av] (t.av) := by
 refine ⟨_, rfl, ?_⟩;generalize hr : Iv.point n = r;refine callsA_o Tryz.func37 fun E hE lp hl => ?_
 cbv;repeat' (first
   | (refine E_br hE ?_ ?_ <;> intro h <;> cbv)
   | (refine E_nm hE fun v hv => ?_; cbv)
   | (refine E_cx hE (c_ivMake ⟨_, _, _, _⟩ ⟨_, _, _, _⟩) ?_; intro t ht; cbv)
   | fail)
 all_goals (subst hE; subst hr)
 all_goals (try simp only [aB, aE, aH, aG, aF, aK, aL, aA, Ab, Aa, SI.val, SB.val, Num.eta, Iv.eta] at *)
 all_goals (try simp_all [Iv.point])
 all_goals (try omega)
 all_goals (try simp only [Ay])
 all_goals (try rfl)
 all_goals ((repeat' split) <;> (try simp_all) <;> (try omega))
theorem aGC (a : Iv) (b : Iv)  : ∃ t : Bool, t = a.within b ∧ aC Tryz.prog 28 [a.av, b.av] (.bool (.s t)) := by
 refine ⟨_, rfl, ?_⟩;generalize hr : a.within b = r;refine callsA_o Tryz.func28 fun E hE lp hl => ?_
 cbv;repeat' (first
   | (refine E_br hE ?_ ?_ <;> intro h <;> cbv)
   | (refine E_nm hE fun v hv => ?_; cbv)
   | (refine E_px hE (mO ⟨_, ⟨_, _, _, _⟩, ⟨_, _, _, _⟩⟩) ?_; intro t ht; cbv)
   | (refine E_cx hE (c_Cmp ⟨_, _, _, _⟩ ⟨_, _, _, _⟩) ?_; intro t ht; cbv)
   | fail)
 all_goals (subst hE; subst hr)
 all_goals (try simp only [aB, aE, aH, aG, aF, aK, aL, aA, Ab, Aa, SI.val, SB.val, Num.eta, Iv.eta] at *)
 all_goals (try simp_all [Iv.within])
 all_goals (try omega)
 all_goals (try simp only [Ay])
 all_goals (try rfl)
 all_goals ((repeat' split) <;> (try simp_all) <;> (try omega))
theorem c_ivHas (x : Iv) (n : Num)  : ∃ t : Bool, t = x.has n ∧ aC Tryz.prog 34 [x.av, n.av] (.bool (.s t)) := by
 refine ⟨_, rfl, ?_⟩;generalize hr : x.has n = r;refine callsA_o Tryz.func34 fun E hE lp hl => ?_
 cbv;repeat' (first
   | (refine E_br hE ?_ ?_ <;> intro h <;> cbv)
   | (refine E_nm hE fun v hv => ?_; cbv)
   | (refine E_cx hE (qZ ⟨_, _, _, _⟩) ?_; intro t ht; cbv)
   | (refine E_cx hE (aGC ⟨_, ⟨_, _, _, _⟩, ⟨_, _, _, _⟩⟩ ⟨_, ⟨_, _, _, _⟩, ⟨_, _, _, _⟩⟩) ?_; intro t ht; cbv)
   | fail)
 all_goals (subst hE; subst hr)
 all_goals (try simp only [aB, aE, aH, aG, aF, aK, aL, aA, Ab, Aa, SI.val, SB.val, Num.eta, Iv.eta] at *)
 all_goals (try simp_all [Iv.has])
 all_goals (try omega)
 all_goals (try simp only [Ay])
 all_goals (try rfl)
 all_goals ((repeat' split) <;> (try simp_all) <;> (try omega))
theorem aMY (n : Num)  : ∃ t : Num, t = n.fair ∧ aC Tryz.prog 158 [n.av] (t.av) := by
 refine ⟨_, rfl, ?_⟩;generalize hr : n.fair = r;refine callsA_o Tryz.func158 fun E hE lp hl => ?_
 cbv;repeat' (first
   | (refine E_br hE ?_ ?_ <;> intro h <;> cbv)
   | (refine E_nm hE fun v hv => ?_; cbv)
   | (refine E_cx hE (xP ⟨_, _, _, _⟩) ?_; intro t ht; cbv)
   | fail)
 all_goals (subst hE; subst hr)
 all_goals (try simp only [aB, aE, aH, aG, aF, aK, aL, aA, Ab, Aa, SI.val, SB.val, Num.eta, Iv.eta] at *)
 all_goals (try simp_all [Num.fair, Num.zero])
 all_goals (try omega)
 all_goals (try simp only [Ay])
 all_goals (try rfl)
 all_goals ((repeat' split) <;> (try simp_all) <;> (try omega))
end
section
open Go
theorem wu8 (n : Int) : IntKind.u8.wrap n = n % 256 := IntKind.wrap_u8 n
theorem wu32 (n : Int) : IntKind.u32.wrap n = n % 4294967296 := IntKind.wrap_u32 n
theorem wu64 (n : Int) : IntKind.u64.wrap n = n % 18446744073709551616 := IntKind.wrap_u64 n
theorem wi64 (n : Int) : IntKind.i64.wrap n = (n + 9223372036854775808) % 18446744073709551616 - 9223372036854775808 := IntKind.wrap_i64 n
theorem aKR (n : Int) (d : Nat) : n.fdiv (d : Int) = n / (d : Int) := Dn n (Cv d)
theorem gT {n d : Int} (h : 0 ≤ d) : n.fdiv d = n / d := Dn n h
theorem gJ (x : Int) : ((BitVec.ofInt 64 x).toNat : Int) = x % 18446744073709551616 := by
 rw [Eg];omega
theorem aPD (x : Int) (k : Nat) (hk : k ≤ 64) : ((BitVec.ofInt 64 x &&& BitVec.ofInt 64 (2 ^ k - 1 : Int)).toNat : Int) = x % 2 ^ k := by
 rw [Ec];have h2 : (BitVec.ofInt 64 (2 ^ k - 1 : Int)).toNat = 2 ^ k - 1 := by
  have h1 : ((BitVec.ofInt 64 (2 ^ k - 1 : Int)).toNat : Int) = ((2 ^ k - 1 : Nat) : Int) := by
   rw [gJ];have e : (2 ^ k - 1 : Int) = ((2 ^ k - 1 : Nat) : Int) := by
    have : 1 ≤ 2 ^ k := Nat.one_le_two_pow;push_cast [Int.ofNat_sub this];rfl
   rw [e];have : (2 : Nat) ^ k ≤ 2 ^ 64 := Ag (by omega) hk;omega
  omega
 rw [h2, Nat.and_two_pow_sub_one_eq_mod];have h3 := gJ x;have hd : (2 ^ k : Int) ∣ 18446744073709551616 := ⟨2 ^ (64 - k), by
   rw [← Cw];rw [show k + (64 - k) = 64 by omega];rfl⟩
 push_cast;rw [h3];exact Int.emod_emod_of_dvd x hd
theorem shr1 (x : Int) : x.fdiv (2 ^ min (Int.toNat 1) IntKind.u64.bits) = x / 2 := gT (by decide)
theorem shr8 (x : Int) : x.fdiv (2 ^ min (Int.toNat 8) IntKind.u64.bits) = x / 256 := gT (by decide)
theorem aTG (x : Int) : x.fdiv (2 ^ min (Int.toNat 16) IntKind.u64.bits) = x / 65536 := gT (by decide)
theorem zB (x : Int) : x.fdiv (2 ^ min (Int.toNat 32) IntKind.u64.bits) = x / 4294967296 := gT (by decide)
theorem aNB : (2 : Int) ^ min (Int.toNat 32) IntKind.u64.bits = 4294967296 := by decide
def blen (x : Int) : Int := if x ≤ 0 then 0 else (Nat.log2 x.toNat : Int) + 1
theorem blen_iff {x : Int} (hx : 0 < x) (n : Nat) : blen x = (n : Int) + 1 ↔ (2 : Int) ^ n ≤ x ∧ x < 2 ^ (n + 1) := by
 unfold blen;rw [if_neg (by omega)];have h := Nat.log2_eq_iff (n := x.toNat) (k := n) (by omega);have e1 : ((2 ^ n : Nat) : Int) = (2 : Int) ^ n := by push_cast; rfl
 have e2 : ((2 ^ (n + 1) : Nat) : Int) = (2 : Int) ^ (n + 1) := by push_cast; rfl
 rw [← e1, ← e2];constructor
 · intro h1;have := h.1 (by omega);omega
 · rintro ⟨h1, h2⟩;have := h.2 ⟨by omega, by omega⟩;omega
theorem fC {x : Int} (hx : 0 < x) : ∃ n : Nat, blen x = (n : Int) + 1 ∧ (2 : Int) ^ n ≤ x ∧ x < 2 ^ (n + 1) := by
 refine ⟨Nat.log2 x.toNat, ?_, ?_⟩
 · unfold blen; rw [if_neg (by omega)]
 · exact (blen_iff hx _).1 (by unfold blen; rw [if_neg (by omega)])
theorem aJP : blen 0 = 0 := rfl
theorem kJ {x : Int} (k : Nat) (h : (2 : Int) ^ k ≤ x) : blen (x / 2 ^ k) = blen x - k := by
 have hk : (0 : Int) < 2 ^ k := Dq (by omega);obtain ⟨n, h1, h2, h3⟩ := fC (x := x) (by omega);have hkn : k ≤ n := by
  rcases Ar n k with h4 | h4
  · exfalso;have : (2 : Int) ^ (n + 1) ≤ 2 ^ k := by
     have := Ag (n := 2) (by omega) h4
     exact_mod_cast this
    omega
  · exact h4
 have hq : 0 < x / 2 ^ k := by
  have := Int.le_ediv_of_mul_le hk (show 1 * 2 ^ k ≤ x by omega);omega
 have : blen (x / 2 ^ k) = ((n - k : Nat) : Int) + 1 := by
  rw [blen_iff hq];have e1 : (2 : Int) ^ n = 2 ^ (n - k) * 2 ^ k := by rw [← Cw]; congr 1; omega
  have e2 : (2 : Int) ^ (n + 1) = 2 ^ (n - k + 1) * 2 ^ k := by rw [← Cw]; congr 1; omega
  constructor
  · exact (Cm hk).2 (by rw [← e1]; exact h2)
  · exact (Int.ediv_lt_iff_lt_mul hk).2 (by rw [← e2]; exact h3)
 omega
theorem cQ {x : Int} (k : Nat) (h : x < 2 ^ k) : blen x ≤ k := by
 by_cases hx : x ≤ 0
 · unfold blen; rw [if_pos hx]; omega
 · obtain ⟨n, h1, h2, h3⟩ := fC (x := x) (by omega);have : n < k := by
    rcases Ar n k with h4 | h4
    · exact h4
    · exfalso;have : (2 : Int) ^ k ≤ 2 ^ n := by
       have := Ag (n := 2) (by omega) h4
       exact_mod_cast this
      omega
   omega
theorem aX (x : Int) : 0 ≤ blen x := by
 unfold blen; split <;> omega
theorem aLU : (List.range 256).all (fun i => (([0, 1, 2, 2, 3, 3, 3, 3, 4, 4, 4, 4, 4, 4, 4, 4, 5, 5, 5, 5, 5, 5, 5, 5, 5, 5, 5, 5, 5, 5, 5, 5, 6, 6, 6, 6, 6, 6, 6, 6, 6, 6, 6, 6, 6, 6, 6, 6, 6, 6, 6, 6, 6, 6, 6, 6, 6, 6, 6, 6, 6, 6, 6, 6, 7, 7, 7, 7, 7, 7, 7, 7, 7, 7, 7, 7, 7, 7, 7, 7, 7, 7, 7, 7, 7, 7, 7, 7, 7, 7, 7, 7, 7, 7, 7, 7, 7, 7, 7, 7, 7, 7, 7, 7, 7, 7, 7, 7, 7, 7, 7, 7, 7, 7, 7, 7, 7, 7, 7, 7, 7, 7, 7, 7, 7, 7, 7, 7, 8, 8, 8, 8, 8, 8, 8, 8, 8, 8, 8, 8, 8, 8, 8, 8, 8, 8, 8, 8, 8, 8, 8, 8, 8, 8, 8, 8, 8, 8, 8, 8, 8, 8, 8, 8, 8, 8, 8, 8, 8, 8, 8, 8, 8, 8, 8, 8, 8, 8, 8, 8, 8, 8, 8, 8, 8, 8, 8, 8, 8, 8, 8, 8, 8, 8, 8, 8, 8, 8, 8, 8, 8, 8, 8, 8, 8, 8, 8, 8, 8, 8, 8, 8, 8, 8, 8, 8, 8, 8, 8, 8, 8, 8, 8, 8, 8, 8, 8, 8, 8, 8, 8, 8, 8, 8, 8, 8, 8, 8, 8, 8, 8, 8, 8, 8, 8, 8, 8, 8, 8, 8, 8, 8, 8, 8, 8, 8] : List UInt8).getD i 0).toNat == (blen i).toNat) = true := by decide +kernel
theorem aQC (i : Int) (h0 : 0 ≤ i) (h1 : i < 256) : (((([0, 1, 2, 2, 3, 3, 3, 3, 4, 4, 4, 4, 4, 4, 4, 4, 5, 5, 5, 5, 5, 5, 5, 5, 5, 5, 5, 5, 5, 5, 5, 5, 6, 6, 6, 6, 6, 6, 6, 6, 6, 6, 6, 6, 6, 6, 6, 6, 6, 6, 6, 6, 6, 6, 6, 6, 6, 6, 6, 6, 6, 6, 6, 6, 7, 7, 7, 7, 7, 7, 7, 7, 7, 7, 7, 7, 7, 7, 7, 7, 7, 7, 7, 7, 7, 7, 7, 7, 7, 7, 7, 7, 7, 7, 7, 7, 7, 7, 7, 7, 7, 7, 7, 7, 7, 7, 7, 7, 7, 7, 7, 7, 7, 7, 7, 7, 7, 7, 7, 7, 7, 7, 7, 7, 7, 7, 7, 7, 8, 8, 8, 8, 8, 8, 8, 8, 8, 8, 8, 8, 8, 8, 8, 8, 8, 8, 8, 8, 8, 8, 8, 8, 8, 8, 8, 8, 8, 8, 8, 8, 8, 8, 8, 8, 8, 8, 8, 8, 8, 8, 8, 8, 8, 8, 8, 8, 8, 8, 8, 8, 8, 8, 8, 8, 8, 8, 8, 8, 8, 8, 8, 8, 8, 8, 8, 8, 8, 8, 8, 8, 8, 8, 8, 8, 8, 8, 8, 8, 8, 8, 8, 8, 8, 8, 8, 8, 8, 8, 8, 8, 8, 8, 8, 8, 8, 8, 8, 8, 8, 8, 8, 8, 8, 8, 8, 8, 8, 8, 8, 8, 8, 8, 8, 8, 8, 8, 8, 8, 8, 8, 8, 8, 8, 8, 8, 8] : List UInt8).getD i.toNat 0).toNat : Nat) : Int) = blen i := by
 have := List.all_eq_true.1 aLU i.toNat (Bl.2 (by omega));have h2 := aX i;rw [beq_iff_eq] at this;rw [this, Ef h0];omega
theorem aMT (l : List UInt8) (n : Nat) : (⟨⟨l⟩⟩ : ByteArray).data.getD n 0 = l.getD n 0 := by
 simp only [Array.getD_eq_getD_getElem?, List.getElem?_toArray, List.getD_eq_getElem?_getD]
theorem aBJ {L : ByteArray} (h : (⟨⟨[0, 1, 2, 2, 3, 3, 3, 3, 4, 4, 4, 4, 4, 4, 4, 4, 5, 5, 5, 5, 5, 5, 5, 5, 5, 5, 5, 5, 5, 5, 5, 5, 6, 6, 6, 6, 6, 6, 6, 6, 6, 6, 6, 6, 6, 6, 6, 6, 6, 6, 6, 6, 6, 6, 6, 6, 6, 6, 6, 6, 6, 6, 6, 6, 7, 7, 7, 7, 7, 7, 7, 7, 7, 7, 7, 7, 7, 7, 7, 7, 7, 7, 7, 7, 7, 7, 7, 7, 7, 7, 7, 7, 7, 7, 7, 7, 7, 7, 7, 7, 7, 7, 7, 7, 7, 7, 7, 7, 7, 7, 7, 7, 7, 7, 7, 7, 7, 7, 7, 7, 7, 7, 7, 7, 7, 7, 7, 7, 8, 8, 8, 8, 8, 8, 8, 8, 8, 8, 8, 8, 8, 8, 8, 8, 8, 8, 8, 8, 8, 8, 8, 8, 8, 8, 8, 8, 8, 8, 8, 8, 8, 8, 8, 8, 8, 8, 8, 8, 8, 8, 8, 8, 8, 8, 8, 8, 8, 8, 8, 8, 8, 8, 8, 8, 8, 8, 8, 8, 8, 8, 8, 8, 8, 8, 8, 8, 8, 8, 8, 8, 8, 8, 8, 8, 8, 8, 8, 8, 8, 8, 8, 8, 8, 8, 8, 8, 8, 8, 8, 8, 8, 8, 8, 8, 8, 8, 8, 8, 8, 8, 8, 8, 8, 8, 8, 8, 8, 8, 8, 8, 8, 8, 8, 8, 8, 8, 8, 8, 8, 8, 8, 8, 8, 8, 8, 8]⟩⟩ : ByteArray) = L) : L.size = 256 ∧ ∀ i : Int, 0 ≤ i → i < 256 → (((L.data.getD (i % 256).toNat 0).toNat : Nat) : Int) = blen i := by
 subst h;refine ⟨by decide +kernel, fun i h0 h1 => ?_⟩;rw [Bi h0 h1, ← aQC i h0 h1, aMT]
theorem aTW {x y : Int} (h : 4294967296 ≤ x) (hy : y = x / 4294967296) : blen y = blen x - 32 := by subst hy; exact kJ 32 h
theorem aQS {x y : Int} (h : 65536 ≤ x) (hy : y = x / 65536) : blen y = blen x - 16 := by subst hy; exact kJ 16 h
theorem len8 {x y : Int} (h : 256 ≤ x) (hy : y = x / 256) : blen y = blen x - 8 := by subst hy; exact kJ 8 h
def lv : List Int → Nat
 | [] => 0
 | x :: r => x.toNat + 4294967296 * lv r
def Lb (a : List Int) : Prop := ∀ x ∈ a, 0 ≤ x ∧ x < 4294967296
def limF : Nat → Nat → List Int
 | 0, _ => []
 | f + 1, n => if n = 0 then [] else ((n % 4294967296 : Nat) : Int) :: limF f (n / 4294967296)
def lim (n : Nat) : List Int := limF (n.log2 + 1) n
def Cn : List Int → Prop
 | [] => True
 | x :: r => (0 ≤ x ∧ x < 4294967296) ∧ Cn r ∧ (r = [] → x ≠ 0)
theorem Cn.lb : ∀ {a : List Int}, Cn a → Lb a
 | [], _, x, hx => by cases hx
 | y :: r, h, x, hx => by
  rcases List.mem_cons.1 hx with rfl | hx
  · exact h.1
  · exact Cn.lb h.2.1 x hx
theorem Lb.tail {x : Int} {r : List Int} (h : Lb (x :: r)) : Lb r := fun y hy => h y (List.mem_cons_of_mem _ hy)
theorem Lb.head {x : Int} {r : List Int} (h : Lb (x :: r)) : 0 ≤ x ∧ x < 4294967296 := h x (List.mem_cons_self ..)
theorem Lb.nil : Lb [] := fun x hx => by cases hx
theorem Lb.cons {x : Int} {r : List Int} (h0 : 0 ≤ x) (h1 : x < 4294967296) (h : Lb r) : Lb (x :: r) := by
 intro y hy;rcases List.mem_cons.1 hy with rfl | hy
 · exact ⟨h0, h1⟩
 · exact h y hy
theorem Lb.take {a : List Int} (h : Lb a) (n : Nat) : Lb (a.take n) := fun x hx => h x (List.mem_of_mem_take hx)
theorem Lb.drop {a : List Int} (h : Lb a) (n : Nat) : Lb (a.drop n) := fun x hx => h x (List.mem_of_mem_drop hx)
theorem Lb.set {a : List Int} (h : Lb a) (n : Nat) {v : Int} (h0 : 0 ≤ v) (h1 : v < 4294967296) : Lb (a.set n v) := by
 intro x hx;rcases List.mem_or_eq_of_mem_set hx with hx | rfl
 · exact h x hx
 · exact ⟨h0, h1⟩
theorem Lb.append {a b : List Int} (h : Lb a) (k : Lb b) : Lb (a ++ b) := by
 intro x hx;rcases List.mem_append.1 hx with hx | hx
 · exact h x hx
 · exact k x hx
theorem Lb.replicate (n : Nat) : Lb (List.replicate n 0) := by
 intro x hx;have := List.eq_of_mem_replicate hx;omega
theorem Lb.getD {a : List Int} (h : Lb a) (i : Nat) : 0 ≤ a.getD i 0 ∧ a.getD i 0 < 4294967296 := by
 rcases Ar i a.length with hi | hi
 · have : a.getD i 0 = a[i] := by simp [List.getD, List.getElem?_eq_getElem hi]
   rw [this];exact h _ (List.getElem_mem hi)
 · have : a.getD i 0 = 0 := by simp [List.getD, List.getElem?_eq_none hi]
   omega
theorem rK : ∀ (f n : Nat), n < 4294967296 ^ f → lv (limF f n) = n ∧ Cn (limF f n)
 | 0, n, h => by
  have : n = 0 := by simpa using h
  subst this;exact ⟨rfl, trivial⟩
 | f + 1, n, h => by
  simp only [limF];by_cases hn : n = 0
  · subst hn; exact ⟨rfl, trivial⟩
  · rw [if_neg hn];have hd : n / 4294967296 < 4294967296 ^ f := by
     rw [Aq] at h;exact Nat.div_lt_of_lt_mul (by rw [Ax]; exact h)
    obtain ⟨h1, h2⟩ := rK f (n / 4294967296) hd;refine ⟨?_, ⟨?_, ?_⟩, h2, ?_⟩
    · simp only [lv, h1];rw [Ak];omega
    · omega
    · omega
    · intro he;rw [he] at h1;simp only [lv] at h1;omega
theorem lt_pow_log (n : Nat) : n < 4294967296 ^ (n.log2 + 1) := by
 rcases Ao n with h | h
 · subst h; decide
 · have h1 : n < 2 ^ (n.log2 + 1) := Nat.lt_log2_self;have h2 : 2 ^ (n.log2 + 1) ≤ 4294967296 ^ (n.log2 + 1) := Nat.pow_le_pow_left (by omega) _;omega
theorem aJ (n : Nat) : lv (lim n) = n := (rK _ n (lt_pow_log n)).1
theorem kT (n : Nat) : Cn (lim n) := (rK _ n (lt_pow_log n)).2
theorem lim_lb (n : Nat) : Lb (lim n) := (kT n).lb
theorem Cn.pos : ∀ {a : List Int}, Cn a → a ≠ [] → 0 < lv a
 | [], _, h => absurd rfl h
 | x :: r, h, _ => by
  obtain ⟨h1, h2, h3⟩ := h;simp only [lv];by_cases hr : r = []
  · have := h3 hr;omega
  · have := Cn.pos h2 hr;omega
theorem Cn.inj : ∀ {a b : List Int}, Cn a → Cn b → lv a = lv b → a = b
 | [], b, _, hb, h => by
  by_cases e : b = []
  · exact e.symm
  · have := hb.pos e;simp only [lv] at h;omega
 | x :: r, [], ha, _, h => by
  have := ha.pos (by simp);simp only [lv] at h this;omega
 | x :: r, y :: s, ha, hb, h => by
  obtain ⟨h1, h2, _⟩ := ha;obtain ⟨k1, k2, _⟩ := hb;simp only [lv] at h;have e1 : x = y := by omega
  have e2 : lv r = lv s := by omega
  rw [e1, Cn.inj h2 k2 e2]
theorem Cn.aSI {a : List Int} (h : Cn a) : a = lim (lv a) := h.inj (kT _) (aJ _).symm
theorem aHS {m n : Nat} (h : lim m = lim n) : m = n := by rw [← aJ m, h, aJ]
theorem aMS : lim 0 = [] := rfl
theorem fH {n : Nat} : lim n = [] ↔ n = 0 := by
 constructor
 · intro h;have := aJ n;rw [h] at this;exact this.symm
 · rintro rfl; rfl
theorem Cn.of_last : ∀ {a : List Int}, Lb a → (a ≠ [] → a.getD (a.length - 1) 0 ≠ 0) → Cn a
 | [], _, _ => trivial
 | [x], h, k => ⟨h.head, trivial, fun _ => by simpa using k (by simp)⟩
 | x :: y :: r, h, k => by
  refine ⟨h.head, Cn.of_last h.tail (fun _ => ?_), fun e => by cases e⟩;have := k (by simp)
  simpa using this
theorem Cn.last : ∀ {a : List Int}, Cn a → a ≠ [] → a.getD (a.length - 1) 0 ≠ 0
 | [], _, h => absurd rfl h
 | [x], h, _ => by simpa using h.2.2 rfl
 | x :: y :: r, h, _ => by
  have := Cn.last h.2.1 (by simp)
  simpa using this
theorem iC : ∀ (a b : List Int), lv (a ++ b) = lv a + 4294967296 ^ a.length * lv b
 | [], b => by simp [lv]
 | x :: r, b => by
  simp only [List.cons_append, lv, iC r b, List.length_cons, Aq];grind
theorem bP : ∀ {a : List Int}, Lb a → lv a < 4294967296 ^ a.length
 | [], _ => by simp [lv]
 | x :: r, h => by
  have h1 := h.head;have h2 := bP h.tail;simp only [lv, List.length_cons, Aq];have : x.toNat < 4294967296 := by omega
  omega
theorem dD (n : Nat) : lv (List.replicate n 0) = 0 := by
 induction n with
 | zero => rfl
 | succ n ih => simp only [List.replicate_succ, lv, ih]; rfl
theorem eH {a : List Int} {i : Nat} (h : i < a.length) : lv (a.take (i + 1)) = lv (a.take i) + 4294967296 ^ i * (a.getD i 0).toNat := by
 have e : a.take (i + 1) = a.take i ++ [a.getD i 0] := by
  rw [List.take_add_one, List.getElem?_eq_getElem h];simp [List.getD, List.getElem?_eq_getElem h]
 rw [e, iC];have : (a.take i).length = i := by simp; omega
 rw [this];simp [lv]
theorem bJ (a : List Int) (i : Nat) : lv (a.take (i + 1)) = lv (a.take i) + 4294967296 ^ i * (a.getD i 0).toNat := by
 rcases Ar i a.length with h | h
 · exact eH h
 · rw [List.take_of_length_le (by omega), List.take_of_length_le h];simp [List.getD, List.getElem?_eq_none h]
theorem dE (a : List Int) (i : Nat) (h : i ≤ a.length) : lv a = lv (a.take i) + 4294967296 ^ i * lv (a.drop i) := by
 have e := iC (a.take i) (a.drop i);rw [List.take_append_drop] at e;rw [e];have : (a.take i).length = i := by simp; omega
 rw [this]
theorem fS : ∀ {l : List Int} {i : Nat} (v : Int), i < l.length → lv (l.set i v) + 4294967296 ^ i * (l.getD i 0).toNat = lv l + 4294967296 ^ i * v.toNat
 | [], i, _, h => by simp at h
 | x :: r, 0, v, _ => by simp [lv]; omega
 | x :: r, i + 1, v, h => by
  have ih := fS (l := r) (i := i) v (by simpa using h);simp only [List.set_cons_succ, lv, List.getD_cons_succ, Aq];grind
theorem jB {a : List Int} (h : Lb a) (i : Nat) (hi : i ≤ a.length) : lv (a.take i) < 4294967296 ^ i := by
 have := bP (h.take i);have e : (a.take i).length = i := by simp; omega
 rwa [e] at this
theorem cL (a : List Int) : lv (a.take a.length) = lv a := by rw [List.take_length]
theorem rE {a : List Int} {i k : Nat} (h : i < k) : (a.take k).getD i 0 = a.getD i 0 := by
 simp only [List.getD_eq_getElem?_getD, List.getElem?_take, if_pos h]
theorem aIX {a : List Int} {i k : Nat} : (a.drop k).getD i 0 = a.getD (k + i) 0 := by
 simp only [List.getD_eq_getElem?_getD, List.getElem?_drop]
theorem getD_set_ne {a : List Int} {i k : Nat} {v : Int} (h : i ≠ k) : (a.set i v).getD k 0 = a.getD k 0 := by
 simp only [List.getD_eq_getElem?_getD, List.getElem?_set_ne h]
theorem xF {a : List Int} {i : Nat} {v : Int} (h : i < a.length) : (a.set i v).getD i 0 = v := by
 simp [List.getD_eq_getElem?_getD, List.getElem?_set_self h]
theorem cM (n i : Nat) : (List.replicate n (0 : Int)).getD i 0 = 0 := by
 simp only [List.getD_eq_getElem?_getD, List.getElem?_replicate];split <;> rfl
theorem lY {a : List Int} {k : Nat} (hk : 0 < k) (hl : k ≤ a.length) (h0 : a.getD (k - 1) 0 = 0) : lv (a.take (k - 1)) = lv (a.take k) := by
 obtain ⟨j, rfl⟩ : ∃ j, k = j + 1 := ⟨k - 1, by omega⟩
 have := eH (a := a) (i := j) (by omega);rw [show j + 1 - 1 = j by omega] at h0 ⊢;rw [this, h0];simp
theorem cut_end {a : List Int} (h : Lb a) {k : Nat} (hl : k ≤ a.length) (h0 : k = 0 ∨ a.getD (k - 1) 0 ≠ 0) (hv : lv (a.take k) = lv a) : a.take k = lim (lv a) := by
 rw [← hv];refine (Cn.of_last (h.take k) (fun hne => ?_)).aSI;have e : (a.take k).length = k := by simp; omega
 rw [e];rcases h0 with rfl | h0
 · simp at hne
 · rcases Ao k with rfl | hk
   · simp at hne
   · rw [rE (by omega)]; exact h0
theorem lim_length_le {n k : Nat} (h : n < 4294967296 ^ k) : (lim n).length ≤ k := by
 rcases Ar k (lim n).length with hlt | hge
 · exfalso;have hne : lim n ≠ [] := by intro e; rw [e] at hlt; simp at hlt
   have h1 := (kT n).last hne;have h2 := dE (lim n) ((lim n).length - 1) (by omega);rw [aJ] at h2;have h3 : lv ((lim n).drop ((lim n).length - 1)) ≠ 0 := by
    have e : (lim n).drop ((lim n).length - 1) = [(lim n).getD ((lim n).length - 1) 0] := by
     rw [List.drop_eq_getElem_cons (by omega)];rw [List.drop_eq_nil_of_le (by omega)];simp [List.getD, List.getElem?_eq_getElem (show (lim n).length - 1 < (lim n).length by omega)]
    rw [e];simp only [lv];have := (lim_lb n).getD ((lim n).length - 1);omega
   have h4 : 4294967296 ^ k ≤ 4294967296 ^ ((lim n).length - 1) := Ag (by omega) (by omega);have h5 : 4294967296 ^ ((lim n).length - 1) * 1 ≤ 4294967296 ^ ((lim n).length - 1) * lv ((lim n).drop ((lim n).length - 1)) := As _ (by omega);omega
 · exact hge
theorem xG {n k : Nat} (h : 4294967296 ^ k ≤ n) : k < (lim n).length := by
 rcases Ar k (lim n).length with hlt | hge
 · exact hlt
 · exfalso;have h1 := bP (lim_lb n);rw [aJ] at h1;have h2 : 4294967296 ^ (lim n).length ≤ 4294967296 ^ k := Ag (by omega) hge;omega
theorem jD {m n : Nat} (h : (lim m).length < (lim n).length) : m < n := by
 have h1 := bP (lim_lb m);rw [aJ] at h1;rcases Ar m n with h2 | h2
 · exact h2
 · exfalso;have : (lim n).length ≤ (lim m).length := lim_length_le (by omega);omega
theorem cmp_step {a b : List Int} (ha : Lb a) (hb : Lb b) {k : Nat} (hl : a.length = b.length) (hk : k < a.length) (he : a.drop (k + 1) = b.drop (k + 1)) (h : a.getD k 0 < b.getD k 0) : lv a < lv b := by
 have e1 := dE a (k + 1) (by omega);have e2 := dE b (k + 1) (by omega);rw [eH hk] at e1;rw [eH (by omega)] at e2;rw [he] at e1;have h1 := jB ha k (by omega);have h2 := ha.getD k;have h3 := hb.getD k;have h4 : 4294967296 ^ k * ((a.getD k 0).toNat + 1) ≤ 4294967296 ^ k * (b.getD k 0).toNat := As _ (by omega);rw [Bz] at h4;omega
theorem xQ {a b : List Int} {k : Nat} (hl : a.length = b.length) (hk : k < a.length) (he : a.drop (k + 1) = b.drop (k + 1)) (h : a.getD k 0 = b.getD k 0) : a.drop k = b.drop k := by
 rw [List.drop_eq_getElem_cons hk, List.drop_eq_getElem_cons (show k < b.length by omega), he];congr 1
 simpa [List.getD, List.getElem?_eq_getElem hk, List.getElem?_eq_getElem (show k < b.length by omega)] using h
structure gZ (a b out : List Int) (i : Nat) (c : Int) : Prop where
 len : out.length = a.length + 1
 lb : Lb out
 zero : ∀ j, i ≤ j → out.getD j 0 = 0
 c0 : 0 ≤ c
 c1 : c ≤ 1
 val : lv out + 4294967296 ^ i * c.toNat = lv (a.take i) + lv (b.take i)
theorem gZ.start (a b : List Int) : gZ a b (List.replicate (a.length + 1) 0) 0 0 :=
 ⟨by simp, Lb.replicate _, fun j _ => cM _ _, by omega, by omega, by rw [dD]; simp [lv]⟩
theorem gZ.step {a b out : List Int} {i : Nat} {c : Int} (ha : Lb a) (hb : Lb b) (h : gZ a b out i c) (hi : i < a.length) :
 gZ a b (out.set i ((a.getD i 0 + b.getD i 0 + c) % 4294967296)) (i + 1) ((a.getD i 0 + b.getD i 0 + c) / 4294967296) := by
 obtain ⟨h1, h2, h3, h4, h5, h6⟩ := h;have hx := ha.getD i;have hy := hb.getD i;have e1 := bJ a i;have e2 := bJ b i;have e3 := fS (l := out) (i := i) ((a.getD i 0 + b.getD i 0 + c) % 4294967296) (by omega);rw [h3 i (Ba i)] at e3;generalize a.getD i 0 = x at *
 generalize b.getD i 0 = y at *
 refine ⟨by simp [h1], h2.set _ (by omega) (by omega), fun j hj => ?_, by omega, by omega, ?_⟩
 · rw [getD_set_ne (by omega)]; exact h3 j (by omega)
 · rw [e1, e2];have e4 : ((x + y + c) % 4294967296).toNat + 4294967296 * ((x + y + c) / 4294967296).toNat = x.toNat + y.toNat + c.toNat := by omega
   have e5 := congrArg (4294967296 ^ i * ·) e4;simp only [Bz] at e5;rw [Aq, Aw];simp only [Cy, Cp] at e3;omega
theorem gZ.stop {a b out : List Int} {c : Int} (hl : b.length ≤ a.length) (h : gZ a b out a.length c) :
 Lb (out.set a.length c) ∧ lv (out.set a.length c) = lv a + lv b := by
 obtain ⟨h1, h2, h3, h4, h5, h6⟩ := h;refine ⟨h2.set _ h4 (by omega), ?_⟩;have e3 := fS (l := out) (i := a.length) c (by omega);rw [h3 _ (Ba _)] at e3;rw [cL, List.take_of_length_le hl] at h6;simp only [Cy, Cp] at e3;omega
structure jW (a b out : List Int) (i : Nat) (c : Int) : Prop where
 len : out.length = a.length
 lb : Lb out
 zero : ∀ j, i ≤ j → out.getD j 0 = 0
 c0 : 0 ≤ c
 c1 : c ≤ 1
 val : lv out + lv (b.take i) = lv (a.take i) + 4294967296 ^ i * c.toNat
theorem jW.start (a b : List Int) : jW a b (List.replicate a.length 0) 0 0 :=
 ⟨by simp, Lb.replicate _, fun j _ => cM _ _, by omega, by omega, by rw [dD]; simp [lv]⟩
theorem jW.step {a b out : List Int} {i : Nat} {c : Int} (ha : Lb a) (hb : Lb b) (h : jW a b out i c) (hi : i < a.length) :
 jW a b (out.set i ((a.getD i 0 - b.getD i 0 - c) % 4294967296)) (i + 1) (if a.getD i 0 < b.getD i 0 + c then 1 else 0) := by
 obtain ⟨h1, h2, h3, h4, h5, h6⟩ := h;have hx := ha.getD i;have hy := hb.getD i;have e1 := bJ a i;have e2 := bJ b i;have e3 := fS (l := out) (i := i) ((a.getD i 0 - b.getD i 0 - c) % 4294967296) (by omega);rw [h3 i (Ba i)] at e3;generalize a.getD i 0 = x at *
 generalize b.getD i 0 = y at *
 refine ⟨by simp [h1], h2.set _ (by omega) (by omega), fun j hj => ?_, by split <;> omega, by split <;> omega, ?_⟩
 · rw [getD_set_ne (by omega)]; exact h3 j (by omega)
 · rw [e1, e2];have e4 : ((x - y - c) % 4294967296).toNat + y.toNat + c.toNat = x.toNat + 4294967296 * (if x < y + c then 1 else 0 : Int).toNat := by split <;> omega
   have e5 := congrArg (4294967296 ^ i * ·) e4;simp only [Bz] at e5;rw [Aq, Aw];simp only [Cy, Cp] at e3;omega
theorem jW.stop {a b out : List Int} {c : Int} (ha : Lb a) (hle : lv b ≤ lv a) (hl : b.length ≤ a.length) (h : jW a b out a.length c) : lv out = lv a - lv b := by
 obtain ⟨h1, h2, h3, h4, h5, h6⟩ := h;rw [cL, List.take_of_length_le hl] at h6;have := bP h2;rw [h1] at this;rcases (show c = 0 ∨ c = 1 by omega) with rfl | rfl
 · simp at h6; omega
 · simp at h6; omega
structure eS (a b out : List Int) (i k : Nat) (c : Int) : Prop where
 len : out.length = a.length + b.length
 lb : Lb out
 zero : ∀ j, i + b.length ≤ j → out.getD j 0 = 0
 c0 : 0 ≤ c
 c1 : c < 4294967296
 val : lv out + 4294967296 ^ (i + k) * c.toNat = lv (a.take i) * lv b + 4294967296 ^ i * ((a.getD i 0).toNat * lv (b.take k))
theorem eS.start (a b : List Int) : eS a b (List.replicate (a.length + b.length) 0) 0 0 0 :=
 ⟨by simp, Lb.replicate _, fun j _ => cM _ _, by omega, by omega, by rw [dD]; simp [lv]⟩
theorem yN {x y z c : Int} (hx : 0 ≤ x ∧ x < 4294967296) (hy : 0 ≤ y ∧ y < 4294967296) (hz : 0 ≤ z ∧ z < 4294967296) (hc : 0 ≤ c ∧ c < 4294967296) :
 0 ≤ x * y ∧ x * y + z + c < 18446744073709551616 := by
 have h0 : 0 ≤ x * y := Bj hx.1 hy.1;have h1 : x * y ≤ 4294967295 * 4294967295 := Dj (by omega) (by omega) hy.1 (by omega);omega
set_option maxHeartbeats 1000000 in
theorem eS.step {a b out : List Int} {i k : Nat} {c : Int} (ha : Lb a) (hb : Lb b) (h : eS a b out i k c) (hi : i < a.length) (hk : k < b.length) :
 eS a b (out.set (i + k) ((a.getD i 0 * b.getD k 0 + out.getD (i + k) 0 + c) % 4294967296)) i (k + 1) ((a.getD i 0 * b.getD k 0 + out.getD (i + k) 0 + c) / 4294967296) := by
 obtain ⟨h1, h2, h3, h4, h5, h6⟩ := h;have hx := ha.getD i;have hy := hb.getD k;have hz := h2.getD (i + k);have e2 := bJ b k;have e3 := fS (l := out) (i := i + k) ((a.getD i 0 * b.getD k 0 + out.getD (i + k) 0 + c) % 4294967296) (by omega);generalize hxe : a.getD i 0 = x at *
 generalize b.getD k 0 = y at *
 generalize out.getD (i + k) 0 = z at *
 have hm := yN hx hy hz ⟨h4, h5⟩;have hxy : (x * y).toNat = x.toNat * y.toNat := by
  rw [Int.toNat_mul hx.1 hy.1]
 refine ⟨by simp [h1], h2.set _ (by omega) (by omega), fun j hj => ?_, by omega, by omega, ?_⟩
 · rw [getD_set_ne (by omega)]; exact h3 j hj
 · rw [e2, hxe];have e4 : ((x * y + z + c) % 4294967296).toNat + 4294967296 * ((x * y + z + c) / 4294967296).toNat = x.toNat * y.toNat + z.toNat + c.toNat := by omega
   have e5 := congrArg (4294967296 ^ (i + k) * ·) e4;simp only [Bz] at e5;have e6 : 4294967296 ^ (i + (k + 1)) * ((x * y + z + c) / 4294967296).toNat = 4294967296 ^ (i + k) * (4294967296 * ((x * y + z + c) / 4294967296).toNat) := by
    rw [← Cs, Aq, Aw]
   have e7 : 4294967296 ^ i * (x.toNat * (lv (b.take k) + 4294967296 ^ k * y.toNat)) = 4294967296 ^ i * (x.toNat * lv (b.take k)) + 4294967296 ^ (i + k) * (x.toNat * y.toNat) := by
    rw [Ap];grind
   rw [e6, e7];omega
theorem eS.next {a b out : List Int} {i : Nat} {c : Int} (h : eS a b out i b.length c) (hi : i < a.length) : eS a b (out.set (i + b.length) c) (i + 1) 0 0 := by
 obtain ⟨h1, h2, h3, h4, h5, h6⟩ := h;have e3 := fS (l := out) (i := i + b.length) c (by omega);rw [h3 _ (Ba _)] at e3;refine ⟨by simp [h1], h2.set _ h4 h5, fun j hj => ?_, by omega, by omega, ?_⟩
 · rw [getD_set_ne (by omega)]; exact h3 j (by omega)
 · rw [cL] at h6;rw [bJ a i, Bd];simp only [Cy, Cp, List.take_zero, lv] at e3 ⊢;rw [Aw];omega
theorem eS.stop {a b out : List Int} (h : eS a b out a.length 0 0) : lv out = lv a * lv b := by
 have := h.val;rw [cL] at this
 simpa [lv] using this
theorem aRV {k m l : Nat} (h : l < 2 ^ k) : 2 ^ k * m ||| l = 2 ^ k * m + l := (Nat.two_pow_add_eq_or_of_lt h m).symm
theorem aIK {k m l : Nat} (h : l < 2 ^ k) : l ||| 2 ^ k * m = l + 2 ^ k * m := by rw [Nat.or_comm, aRV h, Dr]
theorem fX {x : Int} (h : 0 ≤ x) (h' : x < 4294967296) : (BitVec.ofInt 32 x).toNat = x.toNat := by
 rw [Eg]; omega
theorem iE {x : Int} (h : 0 ≤ x) (h' : x < 18446744073709551616) : (BitVec.ofInt 64 x).toNat = x.toNat := by
 rw [Eg]; omega
theorem or32 {l m : Int} {k : Nat} (h0 : 0 ≤ l) (h1 : l < 2 ^ k) (hm : 0 ≤ m) (hs : l + 2 ^ k * m < 4294967296) :
 IntKind.u32.wrap ((BitVec.ofInt 32 l ||| BitVec.ofInt 32 (2 ^ k * m)).toNat : Int) = l + 2 ^ k * m := by
 obtain ⟨L, rfl⟩ := Al h0;obtain ⟨M, rfl⟩ := Al hm;have e : (2 ^ k * (M : Int)) = ((2 ^ k * M : Nat) : Int) := by push_cast; rfl
 have hl : L < 2 ^ k := by
  have : ((L : Nat) : Int) < ((2 ^ k : Nat) : Int) := by push_cast; exact h1
  omega
 rw [e] at hs ⊢;rw [Dt, fX (by omega) (by omega), fX (by omega) (by omega), Ak, Ak, aIK hl, wu32];omega
theorem aUE {l : Int} (h0 : 0 ≤ l) (h1 : l < 4294967296) : IntKind.u32.wrap ((BitVec.ofInt 32 0 ||| BitVec.ofInt 32 l).toNat : Int) = l := by
 rw [Dt, fX (by omega) (by omega), fX h0 h1];simp only [Cy, Nat.zero_or];rw [wu32]; omega
theorem or64 {l m : Int} (h0 : 0 ≤ l) (h1 : l < 4294967296) (hm : 0 ≤ m) (hm1 : m < 4294967296) :
 IntKind.u64.wrap ((BitVec.ofInt 64 l ||| BitVec.ofInt 64 (m * 4294967296)).toNat : Int) = l + m * 4294967296 := by
 obtain ⟨L, rfl⟩ := Al h0;obtain ⟨M, rfl⟩ := Al hm;rw [Dt, iE (by omega) (by omega), iE (by omega) (by omega)];rw [show ((M : Int) * 4294967296).toNat = 2 ^ 32 * M by omega, Ak, aIK (k := 32) (by omega), wu64];omega
theorem aNU {l m : Int} (h0 : 0 ≤ l) (h1 : l < 4294967296) (hm : 0 ≤ m) (hm1 : m < 4294967296) :
 IntKind.u64.wrap ((BitVec.ofInt 64 (m * 4294967296) ||| BitVec.ofInt 64 l).toNat : Int) = m * 4294967296 + l := by
 have := or64 h0 h1 hm hm1;rw [BitVec.or_comm, this]; omega
structure gD (a out : List Int) (L by_ : Nat) (i : Nat) : Prop where
 len : out.length = a.length + L + 1
 lb : Lb out
 zero : ∀ j, i + L + 1 ≤ j → out.getD j 0 = 0
 low : out.getD (i + L) 0 < 2 ^ by_
 val : lv out = lv (a.take i) * 2 ^ by_ * 4294967296 ^ L
theorem gD.start (a : List Int) (L by_ : Nat) : gD a (List.replicate (a.length + L + 1) 0) L by_ 0 :=
 ⟨by simp, Lb.replicate _, fun j _ => cM _ _, by rw [cM]; exact Dq (by omega), by rw [dD]; simp [lv]⟩
theorem nS {k : Nat} (h : k ≤ 32) : (2 : Nat) ^ k * 2 ^ (32 - k) = 4294967296 := by
 rw [← Ap, show k + (32 - k) = 32 by omega]
theorem kW {k : Nat} (h : k ≤ 32) : (2 : Nat) ^ k ≤ 4294967296 := by
 have := Ag (n := 2) (by omega) h;exact this
theorem xU {x : Int} {k : Nat} (h0 : 0 ≤ x) (h1 : x < 4294967296) (hk : k < 32) :
 x * 2 ^ k < 18446744073709551616 ∧ 0 ≤ x * 2 ^ k ∧ (∃ m : Int, 0 ≤ m ∧ (x * 2 ^ k) % 4294967296 = 2 ^ k * m ∧ 2 ^ k * m + 2 ^ k ≤ 4294967296) ∧ 0 ≤ x * 2 ^ k / 4294967296 ∧ x * 2 ^ k / 4294967296 < 2 ^ k := by
 obtain ⟨X, rfl⟩ := Al h0;have e : (2 : Int) ^ k = ((2 ^ k : Nat) : Int) := by push_cast; rfl
 rw [e];have hs := nS (k := k) (by omega);have hp : 0 < 2 ^ k := Bf k;have hp2 : 0 < 2 ^ (32 - k) := Bf _;have hle := kW (k := k) (by omega);have hX : X < 4294967296 := by omega
 have h2 : X * 2 ^ k < 4294967296 * 2 ^ k := Cg hX hp;have h3 : X * 2 ^ k % 4294967296 = 2 ^ k * (X % 2 ^ (32 - k)) := by
  rw [← hs, Ax X, Nat.mul_mod_mul_left]
 have h4 : X % 2 ^ (32 - k) < 2 ^ (32 - k) := Cz _ hp2;have h5 : 2 ^ k * (X % 2 ^ (32 - k) + 1) ≤ 2 ^ k * 2 ^ (32 - k) := As _ h4;rw [hs, Bz] at h5;have h6 : X * 2 ^ k / 4294967296 < 2 ^ k := Nat.div_lt_of_lt_mul h2;refine ⟨?_, ?_, ⟨((X % 2 ^ (32 - k) : Nat) : Int), by omega, ?_, ?_⟩, ?_, ?_⟩
 · have : ((X : Int) * ((2 ^ k : Nat) : Int)) = ((X * 2 ^ k : Nat) : Int) := by push_cast; rfl
   rw [this];have : X * 2 ^ k < 18446744073709551616 := by
    have : 4294967296 * 2 ^ k ≤ 4294967296 * 4294967296 := As _ hle;omega
   omega
 · exact Bj (by omega) (by omega)
 · have : ((X : Int) * ((2 ^ k : Nat) : Int)) = ((X * 2 ^ k : Nat) : Int) := by push_cast; rfl
   rw [this];have h7 : ((X * 2 ^ k % 4294967296 : Nat) : Int) = ((2 ^ k * (X % 2 ^ (32 - k)) : Nat) : Int) := by rw [h3]
   rw [← Bp];omega
 · have : (((2 ^ k : Nat) : Int) * ((X % 2 ^ (32 - k) : Nat) : Int)) = ((2 ^ k * (X % 2 ^ (32 - k)) : Nat) : Int) := (Bp ..).symm;rw [this];omega
 · exact Cc (Bj (by omega) (by omega)) (by omega)
 · have : ((X : Int) * ((2 ^ k : Nat) : Int)) = ((X * 2 ^ k : Nat) : Int) := by push_cast; rfl
   rw [this];omega
set_option maxHeartbeats 1000000 in
theorem gD.step {a out : List Int} {L k i : Nat} (ha : Lb a) (hk : k < 32) (h : gD a out L k i) (hi : i < a.length) :
 gD a ((out.set (i + L) (out.getD (i + L) 0 + (a.getD i 0 * 2 ^ k) % 4294967296)).set (i + L + 1) (a.getD i 0 * 2 ^ k / 4294967296)) L k (i + 1) := by
 obtain ⟨h1, h2, h3, h4, h5⟩ := h;have hx := ha.getD i;have hz := h2.getD (i + L);have e1 := bJ a i;obtain ⟨b1, b0, ⟨m, hm, b2, b3⟩, b4, b5⟩ := xU hx.1 hx.2 hk;have e2 := fS (l := out) (i := i + L) (out.getD (i + L) 0 + (a.getD i 0 * 2 ^ k) % 4294967296) (by omega);have e3 := fS (l := out.set (i + L) (out.getD (i + L) 0 + (a.getD i 0 * 2 ^ k) % 4294967296)) (i := i + L + 1) (a.getD i 0 * 2 ^ k / 4294967296) (by simp; omega);rw [getD_set_ne (by omega), h3 _ (Ba _)] at e3;have hpow : (2 : Int) ^ k ≤ 4294967296 := by
  have e : (2 : Int) ^ k = ((2 ^ k : Nat) : Int) := by push_cast; rfl
  have := kW (k := k) (by omega);omega
 have hexp : (a.getD i 0 * 2 ^ k).toNat = (a.getD i 0).toNat * 2 ^ k := by
  have e : (2 : Int) ^ k = ((2 ^ k : Nat) : Int) := by push_cast; rfl
  rw [Int.toNat_mul hx.1 (Am (Dq (by omega))), e, Ak]
 generalize a.getD i 0 = x at *
 generalize out.getD (i + L) 0 = z at *
 have b6 := Bq (x * 2 ^ k) (show (4294967296 : Int) ≠ 0 by omega);have b7 : x * 2 ^ k / 4294967296 < 4294967296 := by omega
 have b8 : z + x * 2 ^ k % 4294967296 < 4294967296 := by omega
 refine ⟨by simp [h1], (h2.set _ (by omega) b8).set _ b4 b7, fun j hj => ?_, ?_, ?_⟩
 · rw [getD_set_ne (by omega), getD_set_ne (by omega)]; exact h3 j (by omega)
 · rw [show i + 1 + L = i + L + 1 by omega, xF (by simp; omega)];exact b5
 · rw [e1];have e4 : (z + x * 2 ^ k % 4294967296).toNat + 4294967296 * (x * 2 ^ k / 4294967296).toNat = z.toNat + x.toNat * 2 ^ k := by
    rw [← hexp]; omega
   have e5 := congrArg (4294967296 ^ (i + L) * ·) e4;simp only [Bz] at e5;have e6 : 4294967296 ^ (i + L + 1) * (x * 2 ^ k / 4294967296).toNat = 4294967296 ^ (i + L) * (4294967296 * (x * 2 ^ k / 4294967296).toNat) := by
    rw [Aq, Aw]
   rw [e6] at e3;have e7 : (lv (a.take i) + 4294967296 ^ i * x.toNat) * 2 ^ k * 4294967296 ^ L = lv (a.take i) * 2 ^ k * 4294967296 ^ L + 4294967296 ^ (i + L) * (x.toNat * 2 ^ k) := by
    rw [Ap]; grind
   rw [e7, ← h5];simp only [Cy, Cp] at e3;omega
theorem gD.stop {a out : List Int} {L k : Nat} (h : gD a out L k a.length) : lv out = lv a * 2 ^ (32 * L + k) := by
 have := h.val;rw [cL] at this;rw [this, Ap, Cj, Aw, Ax (2 ^ k)]
theorem nM {a : List Int} (h : Lb a) (L : Nat) (hl : L ≤ a.length) : lv (a.drop L) = lv a / 4294967296 ^ L := by
 have h1 := dE a L hl;have h2 := jB h L hl;have hp : 0 < 4294967296 ^ L := Bg (by omega);rw [h1, Ed _ _ hp, Ca h2, Be]
theorem cI (a : List Int) (i : Nat) : lv (a.drop i) = (a.getD i 0).toNat + 4294967296 * lv (a.drop (i + 1)) := by
 rcases Ar i a.length with h | h
 · rw [List.drop_eq_getElem_cons h];simp [lv, List.getD, List.getElem?_eq_getElem h]
 · rw [List.drop_eq_nil_of_le h, List.drop_eq_nil_of_le (by omega)];simp [lv, List.getD, List.getElem?_eq_none h]
structure iL (a out : List Int) (L k : Nat) (i : Nat) : Prop where
 len : out.length = a.length - L
 lb : Lb out
 zero : ∀ j, i ≤ j → out.getD j 0 = 0
 val : lv out = lv a / 2 ^ (32 * L + k) % 4294967296 ^ i
theorem iL.start (a : List Int) (L k : Nat) : iL a (List.replicate (a.length - L) 0) L k 0 :=
 ⟨by simp, Lb.replicate _, fun j _ => cM _ _, by rw [dD, Ct, Nat.mod_one]⟩
set_option maxHeartbeats 1000000 in
theorem iL.step {a out : List Int} {L k i : Nat} (ha : Lb a) (hk : k < 32) (hL : L < a.length) (h : iL a out L k i) (hi : i < a.length - L) :
 iL a (out.set i (((a.getD (i + L) 0 + a.getD (i + L + 1) 0 * 4294967296) / 2 ^ k) % 4294967296)) L k (i + 1) := by
 obtain ⟨h1, h2, h3, h4⟩ := h;have hx := ha.getD (i + L);have hy := ha.getD (i + L + 1);have e3 := fS (l := out) (i := i) (((a.getD (i + L) 0 + a.getD (i + L + 1) 0 * 4294967296) / 2 ^ k) % 4294967296) (by omega);rw [h3 i (Ba i)] at e3;have d0 := nM ha (i + L) (by omega);have d1 := cI a (i + L);have d2 := cI a (i + L + 1);generalize a.getD (i + L) 0 = x at *
 generalize a.getD (i + L + 1) 0 = y at *
 generalize lv (a.drop (i + L + 1 + 1)) = rest at *
 obtain ⟨X, rfl⟩ := Al hx.1;obtain ⟨Y, rfl⟩ := Al hy.1;simp only [Ak] at d1 d2;have ek : (2 : Int) ^ k = ((2 ^ k : Nat) : Int) := by push_cast; rfl
 have ev : (((X : Int) + (Y : Int) * 4294967296) / 2 ^ k) % 4294967296 = (((X + Y * 4294967296) / 2 ^ k % 4294967296 : Nat) : Int) := by
  rw [ek, show (X : Int) + (Y : Int) * 4294967296 = ((X + Y * 4294967296 : Nat) : Int) by omega, ← Dp];omega
 rw [ev] at e3 ⊢;refine ⟨by simp [h1], h2.set _ (by omega) (by omega), fun j hj => ?_, ?_⟩
 · rw [getD_set_ne (by omega)]; exact h3 j (by omega)
 ·
  have hs := nS (k := k) (by omega);have hp : 0 < 2 ^ k := Bf k;have key : lv a / 2 ^ (32 * L + k) / 4294967296 ^ i % 4294967296 = (X + Y * 4294967296) / 2 ^ k % 4294967296 := by
   have q1 : lv a / 2 ^ (32 * L + k) / 4294967296 ^ i = lv a / 4294967296 ^ (i + L) / 2 ^ k := by
    rw [Cl, Cl];congr 1;rw [Ap, Ap 4294967296, Cj];rw [show (2 : Nat) ^ 32 = 4294967296 by rfl];grind
   rw [q1, ← d0, d1, d2];have q2 : X + 4294967296 * (Y + 4294967296 * rest) = (X + Y * 4294967296) + 2 ^ k * (4294967296 * (2 ^ (32 - k) * rest)) := by
    have : 4294967296 * rest = 2 ^ k * (2 ^ (32 - k) * rest) := by rw [← Aw, hs]
    grind
   rw [q2, Ed _ _ hp, Nat.add_mul_mod_self_left]
  rw [Aq, Nat.mod_mul, key];rw [Ak, Cy, Cp, Bn] at e3;rw [e3, h4]
theorem iL.stop {a out : List Int} {L k : Nat} (ha : Lb a) (hL : L ≤ a.length) (h : iL a out L k (a.length - L)) : lv out = lv a / 2 ^ (32 * L + k) := by
 have := h.val;rw [this];refine Dh ?_;have h1 := bP ha;rw [show 4294967296 ^ a.length = 2 ^ (32 * L) * 4294967296 ^ (a.length - L) by
   rw [Cj, show (2 : Nat) ^ 32 = 4294967296 by rfl, ← Ap]; congr 1; omega] at h1
 rw [Ap, ← Cl];refine Ah (Bo _ _) ?_;exact Nat.div_lt_of_lt_mul h1
theorem lM {v : Nat} (n : Nat) : blen (v : Int) = (n : Int) + 1 ↔ 2 ^ n ≤ v ∧ v < 2 ^ (n + 1) := by
 have e1 : ((2 ^ n : Nat) : Int) = (2 : Int) ^ n := by push_cast; rfl
 have e2 : ((2 ^ (n + 1) : Nat) : Int) = (2 : Int) ^ (n + 1) := by push_cast; rfl
 rcases Ao v with h | h
 · subst h;have hp : 0 < 2 ^ n := Bf n;have hz : blen ((0 : Nat) : Int) = 0 := rfl;rw [hz];constructor
   · intro h1; omega
   · intro h1; omega
 · rw [blen_iff (by omega) n, ← e1, ← e2];omega
theorem vP {a : List Int} (h : Lb a) (hne : a ≠ []) (h0 : a.getD (a.length - 1) 0 ≠ 0) : blen (lv a : Int) = 32 * ((a.length : Int) - 1) + blen (a.getD (a.length - 1) 0) := by
 have hl : 0 < a.length := List.length_pos_iff.2 hne;have h1 := eH (a := a) (i := a.length - 1) (by omega);rw [show a.length - 1 + 1 = a.length by omega, cL] at h1;have h2 := jB h (a.length - 1) (by omega);have h3 := h.getD (a.length - 1);generalize a.getD (a.length - 1) 0 = x at *
 obtain ⟨n, q1, q2, q3⟩ := fC (x := x) (by omega);rw [q1];obtain ⟨X, rfl⟩ := Al h3.1;simp only [Ak] at h1;have e1 : ((2 ^ n : Nat) : Int) = (2 : Int) ^ n := by push_cast; rfl
 have e2 : ((2 ^ (n + 1) : Nat) : Int) = (2 : Int) ^ (n + 1) := by push_cast; rfl
 rw [← e1] at q2;rw [← e2] at q3;have k1 : (2 : Nat) ^ (32 * (a.length - 1) + n) = 4294967296 ^ (a.length - 1) * 2 ^ n := by
  rw [Ap, Cj]
 have k2 : (2 : Nat) ^ (32 * (a.length - 1) + n + 1) = 4294967296 ^ (a.length - 1) * 2 ^ (n + 1) := by
  rw [Cs, Ap, Cj]
 have m1 : 4294967296 ^ (a.length - 1) * 2 ^ n ≤ 4294967296 ^ (a.length - 1) * X := As _ (by omega);have m2 : 4294967296 ^ (a.length - 1) * (X + 1) ≤ 4294967296 ^ (a.length - 1) * 2 ^ (n + 1) := As _ (by omega);rw [Bz] at m2;have := (lM (v := lv a) (32 * (a.length - 1) + n)).2 ⟨by rw [k1]; omega, by rw [k2]; omega⟩;rw [this];omega
structure eO (a q : List Int) (d : Int) (k : Nat) (left : Int) : Prop where
 len : q.length = a.length
 lb : Lb q
 zero : ∀ j, j < k → q.getD j 0 = 0
 l0 : 0 ≤ left
 l1 : left < d
 val : lv q * d.toNat + 4294967296 ^ k * left.toNat + lv (a.take k) = lv a
theorem eO.start (a : List Int) {d : Int} (hd : 0 < d) : eO a (List.replicate a.length 0) d a.length 0 :=
 ⟨by simp, Lb.replicate _, fun j _ => cM _ _, by omega, hd, by rw [dD, cL]; simp⟩
set_option maxHeartbeats 1000000 in
theorem eO.step {a q : List Int} {d left : Int} {k : Nat} (ha : Lb a) (hd : d < 4294967296) (h : eO a q d (k + 1) left) (hk : k < a.length) :
 eO a (q.set k ((left * 4294967296 + a.getD k 0) / d)) d k ((left * 4294967296 + a.getD k 0) % d) := by
 obtain ⟨h1, h2, h3, h4, h5, h6⟩ := h;have hx := ha.getD k;have e1 := bJ a k;have e3 := fS (l := q) (i := k) ((left * 4294967296 + a.getD k 0) / d) (by omega);rw [h3 k (by omega)] at e3;generalize a.getD k 0 = x at *
 have b0 : 0 ≤ (left * 4294967296 + x) / d := Cc (by omega) (by omega);have b1 : (left * 4294967296 + x) / d < 4294967296 := by
  refine Eb (by omega) ?_;have : (left + 1) * 4294967296 ≤ d * 4294967296 := Af (by omega) (by omega);omega
 have b2 := Bq (left * 4294967296 + x) (show d ≠ 0 by omega);have b3 := Cf (left * 4294967296 + x) (show 0 < d by omega);have b4 := Bw (left * 4294967296 + x) d;refine ⟨by simp [h1], h2.set _ b0 b1, fun j hj => ?_, b2, b3, ?_⟩
 · rw [getD_set_ne (by omega)]; exact h3 j (by omega)
 · generalize (left * 4294967296 + x) / d = Q at *
   generalize (left * 4294967296 + x) % d = R at *
   obtain ⟨D, rfl⟩ := Al (show 0 ≤ d by omega);obtain ⟨Q', rfl⟩ := Al b0;obtain ⟨R', rfl⟩ := Al b2;obtain ⟨X, rfl⟩ := Al hx.1;obtain ⟨M, rfl⟩ := Al h4;simp only [Ak, Cy, Cp, Bn] at *
   have b5 : D * Q' + R' = M * 4294967296 + X := by
    have : (((D * Q' : Nat)) : Int) = (D : Int) * (Q' : Int) := Bp ..;omega
   rw [e3, Bd];rw [e1, Aq] at h6;have e5 := congrArg (4294967296 ^ k * ·) b5;simp only [Bz] at e5;have e6 : 4294967296 ^ k * Q' * D = 4294967296 ^ k * (D * Q') := by rw [Aw, Ax Q']
   have e7 : 4294967296 ^ k * 4294967296 * M = 4294967296 ^ k * (M * 4294967296) := by rw [Aw, Ax M]
   rw [e6];rw [e7] at h6;omega
theorem eO.stop {a q : List Int} {d left : Int} (h : eO a q d 0 left) : lv q = lv a / d.toNat ∧ left = ((lv a % d.toNat : Nat) : Int) := by
 obtain ⟨h1, h2, h3, h4, h5, h6⟩ := h;obtain ⟨M, rfl⟩ := Al h4;simp only [List.take_zero, lv, Ct, Dv, Bn, Ak] at h6;have hM : M < d.toNat := by omega
 have hd : 0 < d.toNat := by omega
 constructor
 · rw [← h6, Ax, Dr, Ed _ _ hd, Ca hM, Be]
 · rw [← h6, Ax, Dr, Nat.add_mul_mod_self_left, Dh hM]
structure bT (r2 r1 r0 d1 d0 q left : Int) : Prop where
 q0 : 0 ≤ q
 l0 : 0 ≤ left
 l1 : left < 4294967296
 eq : q * d1 + left = r2 * 4294967296 + r1
 up : ∀ k : Int, k * (d1 * 4294967296 + d0) ≤ (r2 * 4294967296 + r1) * 4294967296 + r0 → k ≤ 4294967295 → k ≤ q
structure dG (r2 r1 r0 d1 d0 : Int) : Prop where
 r2b : 0 ≤ r2 ∧ r2 < 4294967296
 r1b : 0 ≤ r1 ∧ r1 < 4294967296
 r0b : 0 ≤ r0 ∧ r0 < 4294967296
 d1b : 0 < d1 ∧ d1 < 4294967296
 d0b : 0 ≤ d0 ∧ d0 < 4294967296
 le : r2 ≤ d1
structure nF (r2 r1 r0 d1 d0 q : Int) : Prop where
 q0 : 0 ≤ q
 q1 : q ≤ 4294967295
 le : q * (d1 * 4294967296 + d0) ≤ (r2 * 4294967296 + r1) * 4294967296 + r0
 up : ∀ k : Int, k * (d1 * 4294967296 + d0) ≤ (r2 * 4294967296 + r1) * 4294967296 + r0 → k ≤ 4294967295 → k ≤ q
theorem bT.start {r2 r1 r0 d1 d0 : Int} (I : dG r2 r1 r0 d1 d0) :
 bT r2 r1 r0 d1 d0 ((r2 * 4294967296 + r1) / d1) ((r2 * 4294967296 + r1) % d1) := by
 obtain ⟨h2, h1, h0, hd1, hd0, hle⟩ := I;have hp := Bq (r2 * 4294967296 + r1) (show d1 ≠ 0 by omega);have hq := Cf (r2 * 4294967296 + r1) (show 0 < d1 by omega);have he := Bw (r2 * 4294967296 + r1) d1;refine ⟨Cc (by omega) (by omega), hp, by omega, by rw [At]; exact he, fun k hk hk1 => ?_⟩;rcases Bm k 0 with hneg | hnn
 · have := Cc (show 0 ≤ r2 * 4294967296 + r1 by omega) (show 0 ≤ d1 by omega);omega
 · refine (Cm hd1.1).2 ?_;have e : k * (d1 * 4294967296 + d0) = k * d1 * 4294967296 + k * d0 := by rw [Dx, Bh]
   have : 0 ≤ k * d0 := Bj hnn hd0.1;rw [e] at hk;omega
theorem xO {q d0 : Int} (h0 : 0 ≤ q) (h1 : q ≤ 4294967295) (hd : 0 ≤ d0 ∧ d0 < 4294967296) : 0 ≤ q * d0 ∧ q * d0 < 18446744065119617026 := by
 refine ⟨Bj h0 hd.1, ?_⟩;have : q * d0 ≤ 4294967295 * 4294967295 := Dj h1 (by omega) hd.1 (by omega);omega
theorem bT.pos {r2 r1 r0 d1 d0 q left : Int} (I : dG r2 r1 r0 d1 d0) (h : bT r2 r1 r0 d1 d0 q left) (hc : 4294967295 < q ∨ left * 4294967296 + r0 < q * d0) : 1 ≤ q := by
 rcases Bm q 1 with h1 | h1
 · exfalso;have hq := h.q0;have hl := h.l0;have hr := I.r0b;have : q = 0 := by omega
   subst this;simp at hc;omega
 · exact h1
theorem bT.done {r2 r1 r0 d1 d0 q left : Int} (h : bT r2 r1 r0 d1 d0 q left) (h1 : q ≤ 4294967295) (h2 : q * d0 ≤ left * 4294967296 + r0) : nF r2 r1 r0 d1 d0 q := by
 refine ⟨h.q0, h1, ?_, h.up⟩;have := h.eq;rw [← this];have e1 : q * (d1 * 4294967296 + d0) = q * d1 * 4294967296 + q * d0 := by rw [Dx, Bh]
 rw [e1];omega
theorem bT.step {r2 r1 r0 d1 d0 q left : Int} (I : dG r2 r1 r0 d1 d0) (h : bT r2 r1 r0 d1 d0 q left) (hc : 4294967295 < q ∨ left * 4294967296 + r0 < q * d0) (hl : left + d1 ≤ 4294967295) :
 bT r2 r1 r0 d1 d0 (q - 1) (left + d1) := by
 have hq := h.pos I hc;have hd := I.d1b;refine ⟨by omega, by have := h.l0; omega, by omega, ?_, fun k hk hk1 => ?_⟩
 · have := h.eq;rw [Int.sub_mul];omega
 · have hkq := h.up k hk hk1;rcases (show k = q ∨ k ≤ q - 1 by omega) with rfl | h2
   · exfalso;rcases hc with hc | hc
     · omega
     · have e1 : k * (d1 * 4294967296 + d0) = k * d1 * 4294967296 + k * d0 := by rw [Dx, Bh]
       have := h.eq;rw [e1] at hk;omega
   · exact h2
theorem bT.brk {r2 r1 r0 d1 d0 q left : Int} (I : dG r2 r1 r0 d1 d0) (h : bT r2 r1 r0 d1 d0 q left) (hc : 4294967295 < q ∨ left * 4294967296 + r0 < q * d0) (hl : 4294967295 < left + d1) :
 nF r2 r1 r0 d1 d0 (q - 1) := by
 have hq := h.pos I hc;have hd := I.d1b;have hr := I.r1b;have hle := I.le;have heq := h.eq;have h0 := h.l0;have e1 : (q - 1) * d1 + (left + d1) = r2 * 4294967296 + r1 := by rw [Int.sub_mul]; omega
 have hq1 : q - 1 ≤ 4294967295 := by
  rcases Bm 4294967295 (q - 1) with h1 | h1
  · exfalso;have : 4294967296 * d1 ≤ (q - 1) * d1 := Af (by omega) (by omega);omega
  · exact h1
 have hm := xO (q := q - 1) (by omega) hq1 I.d0b;refine ⟨by omega, hq1, ?_, fun k hk hk1 => ?_⟩
 · have e2 : (q - 1) * (d1 * 4294967296 + d0) = (q - 1) * d1 * 4294967296 + (q - 1) * d0 := by rw [Dx, Bh]
   rw [e2];have := I.r0b;omega
 · have hkq := h.up k hk hk1;rcases (show k = q ∨ k ≤ q - 1 by omega) with rfl | h2
   · exfalso;rcases hc with hc | hc
     · omega
     · have e3 : k * (d1 * 4294967296 + d0) = k * d1 * 4294967296 + k * d0 := by rw [Dx, Bh]
       rw [e3] at hk;omega
   · exact h2
theorem aGE {R D n at_ q : Nat} (hn : 2 ≤ n) (hD : 4294967296 ^ (n - 1) ≤ D) (hR : R < D * 4294967296 ^ (at_ + 1))
 (hle : q * (D / 4294967296 ^ (n - 2)) ≤ R / 4294967296 ^ (at_ + n - 2))
 (hup : ∀ k : Nat, k * (D / 4294967296 ^ (n - 2)) ≤ R / 4294967296 ^ (at_ + n - 2) → k ≤ 4294967295 → k ≤ q) :
 R / (4294967296 ^ at_ * D) ≤ q ∧ q ≤ R / (4294967296 ^ at_ * D) + 1 := by
 have hp : 0 < 4294967296 ^ (n - 2) := Bg (by omega);have hp2 : 0 < 4294967296 ^ (at_ + n - 2) := Bg (by omega);have hpa : 0 < 4294967296 ^ at_ := Bg (by omega);have hD0 : 0 < D := Av (Bg (by omega)) hD;have hsplit : 4294967296 ^ (at_ + n - 2) = 4294967296 ^ at_ * 4294967296 ^ (n - 2) := by
  rw [← Ap]; congr 1; omega
 generalize hv : D / 4294967296 ^ (n - 2) = v at *
 generalize hu : R / 4294967296 ^ (at_ + n - 2) = u at *
 have hvB : 4294967296 ≤ v := by
  rw [← hv];refine (Cu hp).2 ?_;rw [← Nat.pow_succ', show (n - 2).succ = n - 1 by omega];exact hD
 have v1 : v * 4294967296 ^ (n - 2) ≤ D := by rw [← hv]; exact Ee _ _
 have v2 : D < (v + 1) * 4294967296 ^ (n - 2) := by
  rw [← hv];exact (Bv hp).1 (Nat.lt_succ_self _)
 have hM : 0 < 4294967296 ^ at_ * D := Dw hpa hD0;generalize hs : R / (4294967296 ^ at_ * D) = s at *
 have s1 : s * (4294967296 ^ at_ * D) ≤ R := by rw [← hs]; exact Ee _ _
 have s2 : R < (s + 1) * (4294967296 ^ at_ * D) := by
  rw [← hs];exact (Bv hM).1 (Nat.lt_succ_self _)
 have sB : s ≤ 4294967295 := by
  have : s < 4294967296 := by
   rw [← hs];refine (Bv hM).2 ?_;rw [Aq] at hR
   calc R < D * (4294967296 ^ at_ * 4294967296) := hR
    _ = 4294967296 * (4294967296 ^ at_ * D) := by grind
  omega
 constructor
 · refine hup s ?_ sB;rw [← hu];refine (Cu hp2).2 ?_;rw [hsplit]
   calc s * v * (4294967296 ^ at_ * 4294967296 ^ (n - 2)) = s * (4294967296 ^ at_ * (v * 4294967296 ^ (n - 2))) := by grind
    _ ≤ s * (4294967296 ^ at_ * D) := As _ (As _ v1)
    _ ≤ R := s1
 · rcases Ar (s + 1) q with hlt | hge
   · exfalso;have h1 : (s + 2) * v ≤ u := Ae (Ai _ (by omega)) hle;have h2 : u * 4294967296 ^ (at_ + n - 2) ≤ R := by rw [← hu]; exact Ee _ _
     have h3 : (s + 1) * (4294967296 ^ at_ * D) ≤ (s + 1) * (4294967296 ^ at_ * ((v + 1) * 4294967296 ^ (n - 2))) :=
      As _ (As _ (Dz v2))
     have h4 : u * 4294967296 ^ (at_ + n - 2) < (s + 1) * (v + 1) * 4294967296 ^ (at_ + n - 2) := by
      have : (s + 1) * (4294967296 ^ at_ * ((v + 1) * 4294967296 ^ (n - 2))) = (s + 1) * (v + 1) * 4294967296 ^ (at_ + n - 2) := by
       rw [hsplit]; grind
      omega
     have h5 : u < (s + 1) * (v + 1) := Nat.lt_of_mul_lt_mul_right h4;have h6 : (s + 2) * v = s * v + 2 * v := Bd s 2 v;have h7 : (s + 1) * (v + 1) = s * v + s + v + 1 := by grind
     omega
   · exact hge
structure fK (r0 d : List Int) (q : Int) (at_ : Nat) (r : List Int) (i : Nat) (carry borrow : Int) : Prop where
 len : r.length = r0.length
 lb : Lb r
 same : ∀ j, at_ + i ≤ j → r.getD j 0 = r0.getD j 0
 c0 : 0 ≤ carry
 c1 : carry < 4294967296
 b0 : 0 ≤ borrow
 b1 : borrow ≤ 1
 val : lv r + 4294967296 ^ at_ * (q.toNat * lv (d.take i)) = lv r0 + 4294967296 ^ (at_ + i) * (carry.toNat + borrow.toNat)
theorem fK.start {r0 : List Int} (d : List Int) (q : Int) (at_ : Nat) (h : Lb r0) : fK r0 d q at_ r0 0 0 0 :=
 ⟨rfl, h, fun _ _ => rfl, by omega, by omega, by omega, by omega, by simp [lv]⟩
theorem wR {y q c : Int} (hy : 0 ≤ y ∧ y < 4294967296) (hq : 0 ≤ q ∧ q < 4294967296) (hc : 0 ≤ c ∧ c < 4294967296) : 0 ≤ y * q ∧ y * q + c < 18446744073709551616 := by
 have h0 : 0 ≤ y * q := Bj hy.1 hq.1;have h1 : y * q ≤ 4294967295 * 4294967295 := Dj (by omega) (by omega) hq.1 (by omega);omega
set_option maxHeartbeats 1000000 in
theorem fK.step {r0 d r : List Int} {q : Int} {at_ i : Nat} {carry borrow : Int} (hd : Lb d) (hq : 0 ≤ q ∧ q < 4294967296) (h : fK r0 d q at_ r i carry borrow) (hi : at_ + i < r0.length) :
 fK r0 d q at_ (r.set (at_ + i) ((r.getD (at_ + i) 0 - (d.getD i 0 * q + carry) % 4294967296 - borrow) % 4294967296)) (i + 1) ((d.getD i 0 * q + carry) / 4294967296)
  (if r.getD (at_ + i) 0 < (d.getD i 0 * q + carry) % 4294967296 + borrow then 1 else 0) := by
 obtain ⟨h1, h2, h3, h4, h5, h6, h7, h8⟩ := h;have hx := h2.getD (at_ + i);have hy := hd.getD i;have e2 := bJ d i;have e3 := fS (l := r) (i := at_ + i) ((r.getD (at_ + i) 0 - (d.getD i 0 * q + carry) % 4294967296 - borrow) % 4294967296) (by omega);generalize r.getD (at_ + i) 0 = x at *
 generalize d.getD i 0 = y at *
 have hm := wR hy hq ⟨h4, h5⟩;have hyq : (y * q).toNat = y.toNat * q.toNat := Int.toNat_mul hy.1 hq.1;refine ⟨by simp [h1], h2.set _ (by omega) (by omega), fun j hj => ?_, by omega, by omega, by split <;> omega, by split <;> omega, ?_⟩
 · rw [getD_set_ne (by omega)]; exact h3 j (by omega)
 · rw [e2];have e4 : ((x - (y * q + carry) % 4294967296 - borrow) % 4294967296).toNat + y.toNat * q.toNat + carry.toNat + borrow.toNat
       = x.toNat + 4294967296 * (((y * q + carry) / 4294967296).toNat + (if x < (y * q + carry) % 4294967296 + borrow then 1 else 0 : Int).toNat) := by
    rw [← hyq]; split <;> omega
   have e5 := congrArg (4294967296 ^ (at_ + i) * ·) e4;simp only [Bz] at e5;have e6 : 4294967296 ^ at_ * (q.toNat * (lv (d.take i) + 4294967296 ^ i * y.toNat)) = 4294967296 ^ at_ * (q.toNat * lv (d.take i)) + 4294967296 ^ (at_ + i) * (y.toNat * q.toNat) := by
    rw [Ap]; grind
   rw [e6, ← Cs at_ i 1, Aq, Aw];simp only [Bz] at h8 e3 ⊢;omega
theorem fK.stop {r0 d r : List Int} {q : Int} {at_ : Nat} {carry borrow : Int} (h : fK r0 d q at_ r d.length carry borrow) (hi : at_ + d.length < r0.length) :
 (r.set (at_ + d.length) ((r.getD (at_ + d.length) 0 - carry - borrow) % 4294967296)).length = r0.length ∧
 Lb (r.set (at_ + d.length) ((r.getD (at_ + d.length) 0 - carry - borrow) % 4294967296)) ∧
 (∀ j, at_ + d.length + 1 ≤ j → (r.set (at_ + d.length) ((r.getD (at_ + d.length) 0 - carry - borrow) % 4294967296)).getD j 0 = r0.getD j 0) ∧
 lv (r.set (at_ + d.length) ((r.getD (at_ + d.length) 0 - carry - borrow) % 4294967296)) + 4294967296 ^ at_ * (q.toNat * lv d)
  = lv r0 + 4294967296 ^ (at_ + d.length + 1) * (if r.getD (at_ + d.length) 0 < carry + borrow then 1 else 0 : Int).toNat := by
 obtain ⟨h1, h2, h3, h4, h5, h6, h7, h8⟩ := h;have hx := h2.getD (at_ + d.length);have e3 := fS (l := r) (i := at_ + d.length) ((r.getD (at_ + d.length) 0 - carry - borrow) % 4294967296) (by omega);rw [cL] at h8;generalize r.getD (at_ + d.length) 0 = x at *
 refine ⟨by simp [h1], h2.set _ (by omega) (by omega), fun j hj => ?_, ?_⟩
 · rw [getD_set_ne (by omega)]; exact h3 j (by omega)
 · have e4 : ((x - carry - borrow) % 4294967296).toNat + carry.toNat + borrow.toNat = x.toNat + 4294967296 * (if x < carry + borrow then 1 else 0 : Int).toNat := by
    split <;> omega
   have e5 := congrArg (4294967296 ^ (at_ + d.length) * ·) e4;simp only [Bz] at e5 h8;rw [Aq, Aw];omega
structure fQ (r0 d : List Int) (at_ : Nat) (r : List Int) (i : Nat) (c : Int) : Prop where
 len : r.length = r0.length
 lb : Lb r
 same : ∀ j, at_ + i ≤ j → r.getD j 0 = r0.getD j 0
 c0 : 0 ≤ c
 c1 : c ≤ 1
 val : lv r + 4294967296 ^ (at_ + i) * c.toNat = lv r0 + 4294967296 ^ at_ * lv (d.take i)
theorem fQ.start {r0 : List Int} (d : List Int) (at_ : Nat) (h : Lb r0) : fQ r0 d at_ r0 0 0 :=
 ⟨rfl, h, fun _ _ => rfl, by omega, by omega, by simp [lv]⟩
theorem fQ.step {r0 d r : List Int} {at_ i : Nat} {c : Int} (hd : Lb d) (h : fQ r0 d at_ r i c) (hi : at_ + i < r0.length) :
 fQ r0 d at_ (r.set (at_ + i) ((r.getD (at_ + i) 0 + d.getD i 0 + c) % 4294967296)) (i + 1) ((r.getD (at_ + i) 0 + d.getD i 0 + c) / 4294967296) := by
 obtain ⟨h1, h2, h3, h4, h5, h6⟩ := h;have hx := h2.getD (at_ + i);have hy := hd.getD i;have e2 := bJ d i;have e3 := fS (l := r) (i := at_ + i) ((r.getD (at_ + i) 0 + d.getD i 0 + c) % 4294967296) (by omega);generalize r.getD (at_ + i) 0 = x at *
 generalize d.getD i 0 = y at *
 refine ⟨by simp [h1], h2.set _ (by omega) (by omega), fun j hj => ?_, by omega, by omega, ?_⟩
 · rw [getD_set_ne (by omega)]; exact h3 j (by omega)
 · rw [e2];have e4 : ((x + y + c) % 4294967296).toNat + 4294967296 * ((x + y + c) / 4294967296).toNat = x.toNat + y.toNat + c.toNat := by omega
   have e5 := congrArg (4294967296 ^ (at_ + i) * ·) e4;simp only [Bz] at e5;have e6 : 4294967296 ^ at_ * (lv (d.take i) + 4294967296 ^ i * y.toNat) = 4294967296 ^ at_ * lv (d.take i) + 4294967296 ^ (at_ + i) * y.toNat := by
    rw [Ap]; grind
   rw [e6, ← Cs at_ i 1, Aq, Aw];omega
theorem fQ.stop {r0 d r : List Int} {at_ : Nat} {c : Int} (h : fQ r0 d at_ r d.length c) (hi : at_ + d.length < r0.length) :
 (r.set (at_ + d.length) ((r.getD (at_ + d.length) 0 + c) % 4294967296)).length = r0.length ∧
 Lb (r.set (at_ + d.length) ((r.getD (at_ + d.length) 0 + c) % 4294967296)) ∧
 (∀ j, at_ + d.length + 1 ≤ j → (r.set (at_ + d.length) ((r.getD (at_ + d.length) 0 + c) % 4294967296)).getD j 0 = r0.getD j 0) ∧
 lv (r.set (at_ + d.length) ((r.getD (at_ + d.length) 0 + c) % 4294967296)) + 4294967296 ^ (at_ + d.length + 1) * ((r.getD (at_ + d.length) 0 + c) / 4294967296).toNat
  = lv r0 + 4294967296 ^ at_ * lv d := by
 obtain ⟨h1, h2, h3, h4, h5, h6⟩ := h;have hx := h2.getD (at_ + d.length);have e3 := fS (l := r) (i := at_ + d.length) ((r.getD (at_ + d.length) 0 + c) % 4294967296) (by omega);rw [cL] at h6;generalize r.getD (at_ + d.length) 0 = x at *
 refine ⟨by simp [h1], h2.set _ (by omega) (by omega), fun j hj => ?_, ?_⟩
 · rw [getD_set_ne (by omega)]; exact h3 j (by omega)
 · have e4 : ((x + c) % 4294967296).toNat + 4294967296 * ((x + c) / 4294967296).toNat = x.toNat + c.toNat := by omega
   have e5 := congrArg (4294967296 ^ (at_ + d.length) * ·) e4;simp only [Bz] at e5;rw [Aq, Aw];omega
theorem nV {r : List Int} (h : Lb r) {k : Nat} (h0 : ∀ j, k ≤ j → r.getD j 0 = 0) : lv r < 4294967296 ^ k := by
 rcases Ar r.length k with hk | hk
 · exact Av (bP h) (Ag (by omega) (by omega))
 · have h1 := dE r k hk;have h2 := jB h k hk;have h3 : lv (r.drop k) = 0 := by
    have : ∀ (l : List Int), (∀ j, l.getD j 0 = 0) → lv l = 0 := by
     intro l;induction l with
     | nil => intro _; rfl
     | cons x l ih =>
      intro hz;have e1 := hz 0;have e2 := ih (fun j => by have := hz (j + 1); simpa using this);simp at e1;simp [lv, e1, e2]
    refine this _ (fun j => ?_);rw [aIX];exact h0 _ (by omega)
   rw [h3] at h1;omega
theorem xM {r : List Int} (h : Lb r) {k : Nat} (hlt : lv r < 4294967296 ^ k) : ∀ j, k ≤ j → r.getD j 0 = 0 := by
 intro j hj;rcases Ar j r.length with hl | hl
 · have h1 := dE r j (by omega);have h2 := cI r j;have h3 := h.getD j;rcases (show r.getD j 0 = 0 ∨ 0 < r.getD j 0 by omega) with h4 | h4
   · exact h4
   · exfalso;have h5 : 4294967296 ^ j * 1 ≤ 4294967296 ^ j * lv (r.drop j) := As _ (by omega);have h6 : 4294967296 ^ k ≤ 4294967296 ^ j := Ag (by omega) hj;omega
 · simp [List.getD, List.getElem?_eq_none hl]
structure cP (A D n : Nat) (r q : List Int) (at_ : Nat) : Prop where
 lenr : q.length + n ≤ r.length
 lbr : Lb r
 lbq : Lb q
 zero : ∀ j, j < at_ → q.getD j 0 = 0
 val : lv q * D + lv r = A
 lt : lv r < D * 4294967296 ^ at_
theorem cP.top {A D n at_ : Nat} {r q : List Int} (h : cP A D n r q (at_ + 1)) (hn : 2 ≤ n) (hD : D < 4294967296 ^ n) (hat : at_ < q.length) :
 ((r.getD (at_ + n) 0 * 4294967296 + r.getD (at_ + n - 1) 0) * 4294967296 + r.getD (at_ + n - 2) 0).toNat = lv r / 4294967296 ^ (at_ + n - 2) := by
 have h0 := h.lenr;have b2 := h.lbr.getD (at_ + n);have b1 := h.lbr.getD (at_ + n - 1);have b0 := h.lbr.getD (at_ + n - 2);rw [← nM h.lbr _ (by omega), cI, show at_ + n - 2 + 1 = at_ + n - 1 by omega, cI r (at_ + n - 1), show at_ + n - 1 + 1 = at_ + n by omega, cI r (at_ + n)];have hz : lv (r.drop (at_ + n + 1)) = 0 := by
  rw [nM h.lbr _ (by omega)];refine Ca (Av h.lt ?_);have : D * 4294967296 ^ (at_ + 1) ≤ 4294967296 ^ n * 4294967296 ^ (at_ + 1) := Ai _ (by omega);rw [← Ap] at this;rw [show at_ + n + 1 = n + (at_ + 1) by omega];exact this
 rw [hz];omega
theorem aIC {d : List Int} (hd : Lb d) (hn : 2 ≤ d.length) : (d.getD (d.length - 1) 0 * 4294967296 + d.getD (d.length - 2) 0).toNat = lv d / 4294967296 ^ (d.length - 2) := by
 have b1 := hd.getD (d.length - 1);have b0 := hd.getD (d.length - 2);rw [← nM hd _ (by omega), cI, show d.length - 2 + 1 = d.length - 1 by omega, cI d (d.length - 1), show d.length - 1 + 1 = d.length by omega, List.drop_length];simp only [lv];omega
theorem cP.in_ {A n at_ : Nat} {r q d : List Int} (h : cP A (lv d) n r q (at_ + 1)) (hd : Lb d) (hn : 2 ≤ n) (hdn : d.length = n) (hat : at_ < q.length) (h0 : d.getD (n - 1) 0 ≠ 0) :
 dG (r.getD (at_ + n) 0) (r.getD (at_ + n - 1) 0) (r.getD (at_ + n - 2) 0) (d.getD (n - 1) 0) (d.getD (n - 2) 0) := by
 have hD := bP hd;rw [hdn] at hD;have e1 := h.top hn hD hat;have e2 := aIC hd (by omega);rw [hdn] at e2;have b2 := h.lbr.getD (at_ + n);have b1 := h.lbr.getD (at_ + n - 1);have b0 := h.lbr.getD (at_ + n - 2);have c1 := hd.getD (n - 1);have c0 := hd.getD (n - 2);refine ⟨b2, b1, b0, ⟨by omega, c1.2⟩, c0, ?_⟩;have h1 : lv r / 4294967296 ^ (at_ + n - 2) < (lv d / 4294967296 ^ (n - 2) + 1) * 4294967296 := by
  have hp : 0 < 4294967296 ^ (n - 2) := Bg (by omega);refine (Bv (Bg (by omega))).2 ?_;have h2 : lv d < (lv d / 4294967296 ^ (n - 2) + 1) * 4294967296 ^ (n - 2) := (Bv hp).1 (Nat.lt_succ_self _);have h3 := h.lt;have h4 : lv d * 4294967296 ^ (at_ + 1) ≤ (lv d / 4294967296 ^ (n - 2) + 1) * 4294967296 ^ (n - 2) * 4294967296 ^ (at_ + 1) := Ai _ (by omega);have h5 : (lv d / 4294967296 ^ (n - 2) + 1) * 4294967296 ^ (n - 2) * 4294967296 ^ (at_ + 1) = (lv d / 4294967296 ^ (n - 2) + 1) * 4294967296 * 4294967296 ^ (at_ + n - 2) := by
   rw [show at_ + n - 2 = at_ + (n - 2) by omega, Ap, Ap];grind
  omega
 omega
theorem cP.near {A n at_ : Nat} {r q d : List Int} {g : Int} (h : cP A (lv d) n r q (at_ + 1)) (hd : Lb d) (hn : 2 ≤ n) (hdn : d.length = n) (hat : at_ < q.length) (h0 : d.getD (n - 1) 0 ≠ 0)
 (hg : nF (r.getD (at_ + n) 0) (r.getD (at_ + n - 1) 0) (r.getD (at_ + n - 2) 0) (d.getD (n - 1) 0) (d.getD (n - 2) 0) g) :
 lv r / (4294967296 ^ at_ * lv d) ≤ g.toNat ∧ g.toNat ≤ lv r / (4294967296 ^ at_ * lv d) + 1 := by
 have hD := bP hd;rw [hdn] at hD;have e1 := h.top hn hD hat;have e2 := aIC hd (by omega);rw [hdn] at e2;have b2 := h.lbr.getD (at_ + n);have b1 := h.lbr.getD (at_ + n - 1);have b0 := h.lbr.getD (at_ + n - 2);have c1 := hd.getD (n - 1);have c0 := hd.getD (n - 2);obtain ⟨g0, g1, g2, g3⟩ := hg;obtain ⟨g', rfl⟩ := Al g0;have hDl : 4294967296 ^ (n - 1) ≤ lv d := by
  have := dE d (n - 1) (by omega);rw [cI d (n - 1)] at this;have h5 : 4294967296 ^ (n - 1) * 1 ≤ 4294967296 ^ (n - 1) * ((d.getD (n - 1) 0).toNat + 4294967296 * lv (d.drop (n - 1 + 1))) := As _ (by omega);omega
 have cast : ∀ k : Nat, (k : Int) * (d.getD (n - 1) 0 * 4294967296 + d.getD (n - 2) 0) ≤ (r.getD (at_ + n) 0 * 4294967296 + r.getD (at_ + n - 1) 0) * 4294967296 + r.getD (at_ + n - 2) 0 ↔
  k * (lv d / 4294967296 ^ (n - 2)) ≤ lv r / 4294967296 ^ (at_ + n - 2) := by
  intro k;rw [← e1, ← e2];have p1 : 0 ≤ d.getD (n - 1) 0 * 4294967296 + d.getD (n - 2) 0 := by omega
  have p2 : 0 ≤ (r.getD (at_ + n) 0 * 4294967296 + r.getD (at_ + n - 1) 0) * 4294967296 + r.getD (at_ + n - 2) 0 := by omega
  generalize d.getD (n - 1) 0 * 4294967296 + d.getD (n - 2) 0 = V at *
  generalize (r.getD (at_ + n) 0 * 4294967296 + r.getD (at_ + n - 1) 0) * 4294967296 + r.getD (at_ + n - 2) 0 = U at *
  obtain ⟨V', rfl⟩ := Al p1;obtain ⟨U', rfl⟩ := Al p2;simp only [Ak];rw [← Bp];exact Int.ofNat_le
 rw [Ak];exact aGE hn hDl h.lt ((cast g').1 g2) (fun k hk hk1 => by
   have := g3 k ((cast k).2 hk) (by omega);omega)
theorem cP.down {A D n at_ : Nat} {r r' q : List Int} {g : Int} (h : cP A D n r q (at_ + 1)) (hat : at_ < q.length) (hl : r'.length = r.length) (hb : Lb r') (hg : 0 ≤ g ∧ g < 4294967296)
 (hv : lv r' + 4294967296 ^ at_ * (g.toNat * D) = lv r) (hlt : lv r' < D * 4294967296 ^ at_) : cP A D n r' (q.set at_ g) at_ := by
 have e3 := fS (l := q) (i := at_) g hat;rw [h.zero at_ (by omega)] at e3;refine ⟨by simp [hl, h.lenr], hb, h.lbq.set _ hg.1 hg.2, fun j hj => ?_, ?_, hlt⟩
 · rw [getD_set_ne (by omega)]; exact h.zero j (by omega)
 · have := h.val;simp only [Cy, Cp, Bn] at e3;rw [e3, Bd];have : 4294967296 ^ at_ * g.toNat * D = 4294967296 ^ at_ * (g.toNat * D) := Aw ..;omega
theorem aMV {R M s x : Nat} (hM : 0 < M) (h : R / M = s) (hx : x + s * M = R) : x < M := by
 have := Ch R M;have h2 := Cz R hM;rw [h] at this;have : M * s = s * M := Ax ..;omega
theorem cP.same {A D n at_ : Nat} {r r' q : List Int} {g : Int} (h : cP A D n r q (at_ + 1)) (hat : at_ < q.length) (hD : 0 < D) (hl : r'.length = r.length) (hb : Lb r') (hg : 0 ≤ g ∧ g < 4294967296)
 (hn : lv r / (4294967296 ^ at_ * D) ≤ g.toNat) (hv : lv r' + 4294967296 ^ at_ * (g.toNat * D) = lv r) : cP A D n r' (q.set at_ g) at_ := by
 have hM : 0 < 4294967296 ^ at_ * D := Dw (Bg (by omega)) hD;have e : 4294967296 ^ at_ * (g.toNat * D) = g.toNat * (4294967296 ^ at_ * D) := Dd ..;have hs : lv r / (4294967296 ^ at_ * D) = g.toNat := by
  have : g.toNat ≤ lv r / (4294967296 ^ at_ * D) := (Cu hM).2 (by omega);omega
 refine h.down hat hl hb hg hv ?_;have := aMV hM hs (x := lv r') (by omega);rw [Ax];exact this
set_option maxHeartbeats 1000000 in
theorem cP.less {A D n at_ : Nat} {r r1 r' q : List Int} {g c : Int} (h : cP A D n r q (at_ + 1)) (hat : at_ < q.length) (hD : 0 < D) (hDn : D < 4294967296 ^ n) (hl : r'.length = r.length) (hb1 : Lb r1) (hb : Lb r') (hg : 0 ≤ g ∧ g < 4294967296)
 (hn : g.toNat ≤ lv r / (4294967296 ^ at_ * D) + 1) (hs : ∀ j, at_ + n + 1 ≤ j → r'.getD j 0 = r.getD j 0) (hs1 : ∀ j, at_ + n + 1 ≤ j → r1.getD j 0 = r.getD j 0) (hc : 0 ≤ c ∧ c ≤ 1)
 (hv1 : lv r1 + 4294967296 ^ at_ * (g.toNat * D) = lv r + 4294967296 ^ (at_ + n + 1)) (hv : lv r' + 4294967296 ^ (at_ + n + 1) * c.toNat = lv r1 + 4294967296 ^ at_ * D) :
 1 ≤ g ∧ cP A D n r' (q.set at_ (g - 1)) at_ := by
 have hM : 0 < 4294967296 ^ at_ * D := Dw (Bg (by omega)) hD;have hrz : lv r < 4294967296 ^ (at_ + n + 1) := by
  refine Av h.lt ?_;have : D * 4294967296 ^ (at_ + 1) ≤ 4294967296 ^ n * 4294967296 ^ (at_ + 1) := Ai _ (by omega);rw [← Ap] at this;rw [show at_ + n + 1 = n + (at_ + 1) by omega];exact this
 have hz := xM h.lbr hrz;have l1 := nV hb1 (k := at_ + n + 1) (fun j hj => by rw [hs1 j hj]; exact hz j hj);have l2 := nV hb (k := at_ + n + 1) (fun j hj => by rw [hs j hj]; exact hz j hj);have g1 : 1 ≤ g.toNat := by
  rcases Ao g.toNat with e | e
  · exfalso;rw [e] at hv1;simp only [Cx, Cp] at hv1;omega
  · exact e
 have e : 4294967296 ^ at_ * (g.toNat * D) = 4294967296 ^ at_ * ((g - 1).toNat * D) + 4294967296 ^ at_ * D := by
  rw [show g.toNat = (g - 1).toNat + 1 by omega, Bd, Bz, Dv]
 have hle : 4294967296 ^ at_ * ((g - 1).toNat * D) ≤ lv r := by
  have h5 : (g - 1).toNat ≤ lv r / (4294967296 ^ at_ * D) := by omega
  have h6 := (Cu hM).1 h5;have : 4294967296 ^ at_ * ((g - 1).toNat * D) = (g - 1).toNat * (4294967296 ^ at_ * D) := Dd ..;omega
 have hc1 : c = 1 := by
  rcases (show c = 0 ∨ c = 1 by omega) with rfl | rfl
  · exfalso;simp only [Cy, Cp] at hv;omega
  · rfl
 subst hc1;simp only [Int.toNat_one, By] at hv;refine ⟨by omega, ?_⟩;have hv' : lv r' + 4294967296 ^ at_ * ((g - 1).toNat * D) = lv r := by omega
 refine h.same hat hD hl hb (by omega) ?_ hv';have h7 : lv r < 4294967296 ^ at_ * (g.toNat * D) := by omega
 have h8 : lv r < g.toNat * (4294967296 ^ at_ * D) := by
  rw [← Dd];exact h7
 have := (Bv hM).2 h8;omega
theorem cP.stop {A D n : Nat} {r q : List Int} (h : cP A D n r q 0) : lv q = A / D ∧ lv r = A % D := by
 have h1 := h.val;have h2 := h.lt;simp only [Ct, By] at h2;have hD : 0 < D := by omega
 constructor
 · rw [← h1, Ax, Dr, Ed _ _ hD, Ca h2, Be]
 · rw [← h1, Ax, Dr, Nat.add_mul_mod_self_left, Dh h2]
theorem shr31 (x : Int) : x.fdiv (2 ^ min (Int.toNat 31) IntKind.u32.bits) = x / 2147483648 := gT (by decide)
theorem aUF (v : BitVec 32) : ((v.toNat : Int)) / 2147483648 = if v.toNat.testBit 31 then 1 else 0 := by
 have h := v.isLt;rw [Nat.testBit_eq_decide_div_mod_eq];by_cases g : v.toNat / 2 ^ 31 % 2 = 1
 · rw [if_pos (by simpa using g)]; omega
 · rw [if_neg (by simpa using g)]; omega
theorem vL {x : Int} (h : 0 ≤ x) (h' : x < 4294967296) : (BitVec.ofInt 32 x).toNat.testBit 31 = decide (2147483648 ≤ x) := by
 rw [fX h h', Nat.testBit_eq_decide_div_mod_eq];rw [Bk];omega
theorem w32 (v : BitVec 32) : IntKind.u32.wrap (v.toNat : Int) = v.toNat := by
 have := v.isLt;rw [wu32]; omega
theorem aQO (x : BitVec 32) : (BitVec.ofInt 32 4294967295 ^^^ x).toNat.testBit 31 = !x.toNat.testBit 31 := by
 rw [BitVec.toNat_xor, Nat.testBit_xor];have : (BitVec.ofInt 32 4294967295).toNat.testBit 31 = true := by decide
 rw [this]; simp
theorem aJI (v : BitVec 32) : BitVec.ofInt 32 (v.toNat : Int) = v := by
 apply BitVec.eq_of_toNat_eq;rw [Eg];have := v.isLt;omega
theorem aMN {x y d : Int} (hx : 0 ≤ x) (hx' : x < 4294967296) (hy : 0 ≤ y) (hy' : y < 4294967296) (hd : 0 ≤ d) (hd' : d < 4294967296) {b : Int} (hb : b = 0 ∨ b = 1) (h : d = (x - y - b) % 4294967296) :
 IntKind.u32.wrap ((BitVec.ofInt 32 (IntKind.u32.wrap ((BitVec.ofInt 32 (IntKind.u32.wrap ((BitVec.ofInt 32 4294967295 ^^^ BitVec.ofInt 32 x).toNat : Int)) &&& BitVec.ofInt 32 y).toNat : Int)) |||
   BitVec.ofInt 32 (IntKind.u32.wrap ((BitVec.ofInt 32 (IntKind.u32.wrap ((BitVec.ofInt 32 4294967295 ^^^ BitVec.ofInt 32 (IntKind.u32.wrap ((BitVec.ofInt 32 x ^^^ BitVec.ofInt 32 y).toNat : Int))).toNat : Int)) &&& BitVec.ofInt 32 d).toNat : Int))).toNat : Int) / 2147483648
 = if x < y + b then 1 else 0 := by
 simp only [w32, aJI];rw [aUF, Dt, Nat.testBit_or, Ec, Nat.testBit_and, Ec, Nat.testBit_and, aQO, aQO, BitVec.toNat_xor, Nat.testBit_xor, vL hx hx', vL hy hy', vL hd hd'];by_cases c1 : 2147483648 ≤ x <;> by_cases c2 : 2147483648 ≤ y <;> by_cases c3 : 2147483648 ≤ d <;> simp only [c1, c2, c3, decide_true, decide_false, Bool.not_true, Bool.not_false, Dm, Bool.and_false, Bool.or_true, Bool.or_false, Bool.xor_true, Bool.xor_false, Bool.true_and, Bool.false_and, if_true, Br, if_false] <;> (split <;> omega)
theorem div32_word {hi lo : Int} (h0 : 0 ≤ hi) (h1 : hi < 4294967296) (l0 : 0 ≤ lo) (l1 : lo < 4294967296) :
 IntKind.u64.wrap ((BitVec.ofInt IntKind.u64.bits (IntKind.u64.wrap (IntKind.u64.wrap hi * 2 ^ min (Int.toNat 32) IntKind.u64.bits)) ||| BitVec.ofInt IntKind.u64.bits (IntKind.u64.wrap lo)).toNat : Int) = hi * 4294967296 + lo := by
 rw [aNB, show IntKind.u64.wrap hi = hi by (rw [wu64]; omega), show IntKind.u64.wrap lo = lo by (rw [wu64]; omega), show IntKind.u64.wrap (hi * 4294967296) = hi * 4294967296 by (rw [wu64]; omega)];exact aNU l0 l1 h0 h1
theorem aEN {hi lo y : Int} (h0 : 0 ≤ hi) (l0 : 0 ≤ lo) (l1 : lo < 4294967296) (hlt : hi < y) (hy : y < 4294967296) :
 IntKind.u32.wrap (IntKind.u64.wrap ((hi * 4294967296 + lo).tdiv (IntKind.u64.wrap y))) = (hi * 4294967296 + lo) / y ∧ IntKind.u32.wrap ((hi * 4294967296 + lo).tmod (IntKind.u64.wrap y)) = (hi * 4294967296 + lo) % y := by
 have ey : IntKind.u64.wrap y = y := by rw [wu64]; omega
 have n0 : 0 ≤ hi * 4294967296 + lo := by omega
 rw [ey, Dc n0, Bx n0];have q0 : 0 ≤ (hi * 4294967296 + lo) / y := Cc n0 (by omega);have q1 : (hi * 4294967296 + lo) / y < 4294967296 := by
  refine Eb (by omega) ?_;have : (hi + 1) * 4294967296 ≤ y * 4294967296 := Af (by omega) (by omega);omega
 have r0 := Bq (hi * 4294967296 + lo) (show y ≠ 0 by omega);have r1 := Cf (hi * 4294967296 + lo) (show 0 < y by omega);generalize (hi * 4294967296 + lo) / y = q at *
 generalize (hi * 4294967296 + lo) % y = r at *
 constructor
 · rw [wu32, wu64]; omega
 · rw [wu32]; omega
theorem aSC (x : Int) : x.fdiv (2 ^ min (Int.toNat 16) IntKind.u32.bits) = x / 65536 := gT (by decide)
theorem aTF (x : Int) : x.fdiv (2 ^ min (Int.toNat 8) IntKind.u32.bits) = x / 256 := gT (by decide)
end
section
open Go Go.Proofs
theorem aT {E : Env} (hE : E = aB Tryz.prog) {n : Int} {K : Bool → Prop} (h : ∀ b, (b = true → n = 0) → K b) : E.nilS n K := by
 subst hE; exact h
theorem bF {a b : Int} (h : (aB Tryz.prog).cmp .lss a b = true) : a < b := Bt h
theorem aW {a b : Int} (h : (aB Tryz.prog).cmp .lss a b = false) : ¬ a < b := Ce h
theorem cU {a b : Int} (h : (aB Tryz.prog).cmp .gtr a b = true) : b < a := Bt h
theorem dB {a b : Int} (h : (aB Tryz.prog).cmp .gtr a b = false) : ¬ b < a := Ce h
theorem kI {a b : Int} (h : (aB Tryz.prog).cmp .leq a b = true) : a ≤ b := Bt h
theorem bQ {a b : Int} (h : (aB Tryz.prog).cmp .leq a b = false) : ¬ a ≤ b := Ce h
theorem lQ {a b : Int} (h : (aB Tryz.prog).cmp .geq a b = true) : b ≤ a := Bt h
theorem kH {a b : Int} (h : (aB Tryz.prog).cmp .geq a b = false) : ¬ b ≤ a := Ce h
theorem cA {a b : Int} (h : (aB Tryz.prog).cmp .eql a b = true) : a = b := by simpa only [aB, aE, Ab] using h
theorem eql_f {a b : Int} (h : (aB Tryz.prog).cmp .eql a b = false) : ¬ a = b := by simpa only [aB, aE, Aa] using h
theorem rR {n : Int} (h0 : 0 < n) (h1 : n < 9223372036854775808) : IntKind.i64.wrap (n - 1) = n - 1 := by rw [wi64]; omega
theorem aO {a : List Int} (ha : Lb a) : (lim (lv a)).length ≤ a.length := lim_length_le (bP ha)
end
section
open Go
def Num.ok (n : Num) : Prop := 0 ≤ n.m ∧ n.m < 18446744073709551616
theorem Num.zero_ok : Num.zero.ok := by unfold Num.ok Num.zero; decide
theorem Num.mS (b : Bool) : (Num.inf b).ok := ⟨by simp [Num.inf], by simp [Num.inf]⟩
theorem Num.fair_ok {n : Num} (h : n.ok) : n.fair.ok := by
 unfold Num.fair; split
 · exact h
 · exact Num.zero_ok
theorem Num.may_cases {n : Num} (h : n.may = true) : n = Num.zero ∨ (n.kind = 1 ∧ 9223372036854775808 ≤ n.m ∧ -1048576 ≤ n.e ∧ n.e ≤ 1048576) ∨ (n = Num.inf n.neg) := by
 unfold Num.may at h;split at h
 · exact .inl (by simpa using h)
 · split at h
   · rename_i h1;simp only [Aj, Ab] at h;exact .inr (.inl ⟨h1, h.1.1, h.1.2, h.2⟩)
   · split at h
     · rename_i h1;simp only [Aj, Ab] at h;exact .inr (.inr (by rw [Num.eq_iff]; simp [Num.inf, h1, h.1, h.2]))
     · cases h
theorem Num.fair_may (n : Num) : n.fair.may = true := by
 unfold Num.fair; split
 · assumption
 · decide
theorem Num.aS {n : Num} (h : n.may = true) : n.fair = n := by unfold Num.fair; rw [if_pos h]
theorem Num.sD {n : Num} (h0 : n.fair.kind ≠ 0) (h2 : n.fair.kind ≠ 2) : n.fair.kind = 1 ∧ 9223372036854775808 ≤ n.fair.m ∧ -1048576 ≤ n.fair.e ∧ n.fair.e ≤ 1048576 := by
 rcases Num.may_cases n.fair_may with h | h | h
 · rw [h] at h0; exact absurd rfl h0
 · exact h
 · rw [h] at h2; exact absurd rfl h2
theorem Num.fin {t r : Num} (h : t = r) : t.kind = r.kind ∧ t.neg = r.neg ∧ t.m = r.m ∧ t.e = r.e ∧ True := by
 subst h; exact ⟨rfl, rfl, rfl, rfl, trivial⟩
end
section
open Go Go.RowKit
def in1 (k : Nat) : AV → Bool
 | .ms b _ _ _ => Nat.blt b k
 | .ptr b _ _ _ => Nat.blt b k
 | _ => true
def in2 (k : Nat) : AV → Bool
 | .agg cs => allB (in1 k) cs
 | .fn _ cs => allB (in1 k) cs
 | x => in1 k x
def in3 (k : Nat) : AV → Bool
 | .tup cs => allB (in2 k) cs
 | x => in2 k x
def uQ : Nat → List Blk → List Blk
 | 0, _ => []
 | _, [] => []
 | n + 1, c :: r => c :: uQ n r
theorem aEH : ∀ (n : Nat) (l : List Blk), uQ n l = l.take n
 | 0, l => by simp [uQ]
 | n + 1, [] => by simp [uQ]
 | n + 1, c :: r => by simp [uQ, aEH n r]
def jE (k : Nat) : List Blk → Prop
 | [] => True
 | .rows _ _ _ l :: r => allB (allB (in1 k)) l = true ∧ jE k r
 | _ :: r => jE k r
theorem rA {k : Nat} : ∀ {h : List Blk} {b : Nat} {w : Bool} {sz : Nat} {d : List AV} {l : List (List AV)}, jE k h → h[b]? = some (.rows w sz d l) → allB (allB (in1 k)) l = true
 | [], b, _, _, _, _, _, hb => by simp at hb
 | c :: r, 0, _, _, _, _, h, hb => by
  simp at hb;subst hb;exact h.1
 | c :: r, b + 1, _, _, _, _, h, hb => by
  have : jE k r := by cases c <;> first | exact h | exact h.2
  exact rA this (by simpa using hb)
section
variable {P : Program} {G : Nat → TI} {base : Nat} {O0 : Nat → Prop} {μ : Nat → Nat} {hp : List Blk} {w w' : World}
theorem aHK {k b : Nat} (h : wrB (hp.take k) b = true) : wrB hp b = true := by
 unfold wrB at *
 rw [List.getElem?_take] at h;split at h
 · exact h
 · simp [Blk.wr] at h
theorem mZ {k b : Nat} {n : Nat × Nat} (h : dimB (hp.take k) b = some n) : dimB hp b = some n := by
 unfold dimB at *
 rw [List.getElem?_take] at h;split at h
 · exact h
 · simp [Blk.dim] at h
theorem aIA {k n : Nat} (h : okO base O0 μ hp w n) : okO base O0 μ (hp.take k) w n := by
 rcases h with h | ⟨h1, h2, h3⟩
 · exact .inl h
 · exact .inr ⟨h1, h2, fun b hb => h3 b (aHK hb)⟩
theorem leaf_take {k : Nat} {c : AV} {v : Value} (h : LeafR (mkX base O0 μ hp w) c v) (hi : in1 k c = true) : LeafR (mkX base O0 μ (hp.take k) w) c v := by
 unfold LeafR at *
 split at h
 · obtain ⟨hb, h0, h1, A, cap, rfl, hle, hA, hd⟩ := h;have hbk := An hi;refine ⟨by simp [mkX] at hb ⊢; omega, h0, h1, A, cap, rfl, hle, hA, fun n s hn => hd n s (mZ hn)⟩
 · obtain ⟨hb, h0, rfl, hd⟩ := h;have hbk := An hi;exact ⟨by simp [mkX] at hb ⊢; omega, h0, rfl, fun n s hn => hd n s (mZ hn)⟩
 · exact RoV.mono (fun n hn => aIA hn) (fun _ _ _ h => h) h
theorem agg_take {k : Nat} {c : AV} {v : Value} (h : AggR (mkX base O0 μ hp w) c v) (hi : in2 k c = true) : AggR (mkX base O0 μ (hp.take k) w) c v := by
 unfold AggR at *
 split at h
 · simp only [in2, allB_eq, List.all_eq_true] at hi;obtain ⟨ys, rfl, hl, h⟩ := h;exact ⟨ys, rfl, hl, fun j c hj => leaf_take (h j c hj) (hi c (List.mem_of_getElem? hj))⟩
 · simp only [in2, allB_eq, List.all_eq_true] at hi;obtain ⟨ys, rfl, hl, h⟩ := h;exact ⟨ys, rfl, hl, fun j c hj => leaf_take (h j c hj) (hi c (List.mem_of_getElem? hj))⟩
 · rename_i h1 h2;exact leaf_take h (by unfold in2 at hi; split at hi <;> first | exact hi | (exfalso; first | exact h1 _ rfl | exact h2 _ _ rfl))
theorem aNT {k : Nat} {c : AV} {v : Value} (h : RelV (mkX base O0 μ hp w) c v) (hi : in3 k c = true) : RelV (mkX base O0 μ (hp.take k) w) c v := by
 unfold RelV at *
 split at h
 · simp only [in3, allB_eq, List.all_eq_true] at hi;obtain ⟨ys, rfl, hl, h⟩ := h;exact ⟨ys, rfl, hl, fun j c hj => agg_take (h j c hj) (hi c (List.mem_of_getElem? hj))⟩
 · rename_i h1;exact agg_take h (by unfold in3 at hi; split at hi <;> first | exact hi | (exfalso; exact h1 _ rfl))
theorem HR.take {k : Nat} (H : HR base O0 μ hp w) (hb : jE k (hp.take k)) : HR base O0 μ (hp.take k) w := by
 refine ⟨H.all, fun b x hx => ?_, fun b hd => ?_, fun b b' h1 h2 h3 => ?_, fun b x hx => H.ty b x (by rw [List.getElem?_take] at hx; split at hx <;> first | exact hx | cases hx), H.gl⟩
 · have hx' : hp[b]? = some x := by
    rw [List.getElem?_take] at hx;split at hx
    · exact hx
    · cases hx
   have := H.blk b x hx';cases x with
   | dead => trivial
   | ints wr kk l => exact this
   | rows wr sz d l =>
    obtain ⟨h1, c, e, h2, h3⟩ := this;have hin := rA hb hx;rw [allB_eq, List.all_eq_true] at hin;refine ⟨h1, c, e, h2, fun i r hi => ⟨(h3 i r hi).1, fun j a hj => ?_⟩⟩;obtain ⟨y, h4, h5⟩ := (h3 i r hi).2 j a hj;have hr := hin r (List.mem_of_getElem? hi);rw [allB_eq, List.all_eq_true] at hr;exact ⟨y, h4, leaf_take h5 (hr a (List.mem_of_getElem? hj))⟩
 · cases hn : dimB (hp.take k) b with
   | none => exact absurd hn hd
   | some n => exact H.low b (by rw [mZ hn]; simp)
 · cases hn : dimB (hp.take k) b' with
   | none => exact absurd hn h2
   | some n => exact H.inj b b' (aHK h1) (by rw [mZ hn]; simp) h3
def aGZ (s s' : St) : Prop := s'.h = uQ (lenB s'.h) s.h ∧ jE (lenB s'.h) s'.h ∧ ∀ u, AVle (lookT s.t u) (lookT s'.t u) ∧ in3 (lenB s'.h) (lookT s'.t u) = true
theorem SR.leW {I : X} {nt : Nat} {s s' : St} {a : Act} (R : SR base O0 I nt s μ a w) (h : aGZ s s') (hI : I.h.length ≤ s'.h.length) : SR base O0 I nt s' μ a w := by
 obtain ⟨h1, h2, h3⟩ := h;rw [eJ] at *
 rw [aEH] at h1;obtain ⟨t', h'⟩ := s';dsimp only at *
 generalize hk : h'.length = k at h1 h2 h3 hI;subst h1;refine ⟨R.size, R.defers, R.hr.take h2, fun u => aNT ((h3 u).1 _ _ (R.tmps u)) (h3 u).2, ?_, R.below⟩;have e := R.ext;exact ⟨fun n hn => aIA (e.o n hn), e.mu, (by show I.h.length ≤ (List.take k s.h).length; rw [hk]; exact hI), fun b hb n hn => e.dim b hb n (mZ hn), e.cell, e.shape⟩
def leW (k : Nat) (t : List (Nat × AV)) : List (Nat × AV) → Prop
 | [] => True
 | (i, v) :: r => (sle2 (lookT t i) v ∧ in3 k v = true) ∧ leW k t r
theorem aCD {k : Nat} {t : List (Nat × AV)} : ∀ {t' : List (Nat × AV)}, leW k t t' → ∀ u, AVle (lookT t u) (lookT t' u) ∧ in3 k (lookT t' u) = true
 | [], _, u => ⟨AVle.un _, rfl⟩
 | (i, v) :: r, h, u => by
  simp only [lookT];cases hb : Nat.beq i u with
  | true =>
   have := Ad hb;subst this;exact ⟨fun x val hv => aFO h.1.1 hv, h.1.2⟩
  | false => exact aCD h.2 u
theorem tB {t t' : List (Nat × AV)} {h h' : List Blk} (e : h' = uQ (lenB h') h) (b : jE (lenB h') h') (l : leW (lenB h') t t') : aGZ ⟨t, h⟩ ⟨t', h'⟩ := ⟨e, b, aCD l⟩
theorem loopW_real {ι : Type} (hG : GOK P G) (hm : P.follows .mixedOrders = true) {nt : Nat} {lp : Code → St → (Ex → St → Prop) → Prop} (hlp : ∀ b s K, codeOK nt b = true → lp b s K → lpR P nt b s K) {b : Code} (hc : codeOK nt b = true)
 {s : St} {K : Ex → St → Prop} (S : ι → St) (m : ι → Nat) (ok : ι → Prop) (hlen : ∀ i, lenB (S i).h = lenB s.h) (h0 : ∃ i, ok i ∧ StLe s (S i))
 (hr : ∀ i, ok i → ev (aB P) G lp b (S i) (fun e s => match e with
   | .normal => ∃ j, m j < m i ∧ ok j ∧ aGZ s (S j)
   | .exit x => K (.exit x) s
   | .goto x => K (.goto x) s
   | .ret => K .ret s)) : lpR P nt (.loop b) s K := by
 intro base O0 I μ a w R;have hI : ∀ i, I.h.length ≤ (S i).h.length := by
  intro i;have h1 := R.ext.len;have h2 := hlen i;rw [eJ, eJ] at h2;simp only [mkX] at h1;omega
 obtain ⟨i0, ho0, hl0⟩ := h0;refine wp_loop_ghost (fun n a w => ∃ i μ, m i = n ∧ ok i ∧ SR base O0 I nt (S i) μ a w) (m i0) ⟨i0, μ, rfl, ho0, R.le hl0⟩ ?_;rintro n a w ⟨i, μ, rfl, ho, R⟩;refine wp_mono (mE hG hm hlp b _ (S i) μ a w hc R (hr i ho)) ?_;intro e a w hq;cases e with
 | normal =>
  obtain ⟨s', μ', R', j, h1, h2, h3⟩ := hq;exact ⟨m j, h1, j, μ', rfl, h2, R'.leW h3 (hI j)⟩
 | exit i => exact hq
 | goto i => exact hq
 | ret => exact hq
 | panic ch => exact hq.elim
 | outgrown => exact hq.elim
theorem E_loopW {ι : Type} {E : Env} (hE : E = aB P) (hG : GOK P G) (hm : P.follows .mixedOrders = true) {n : Nat} {lp : Code → St → (Ex → St → Prop) → Prop} (hlp : Loops P n lp) {b : Code} {s : St} {K : Ex → St → Prop}
 (S : ι → St) (m : ι → Nat) (ok : ι → Prop) (hlen : ∀ i, lenB (S i).h = lenB s.h) (h0 : ∃ i, ok i ∧ StLe s (S i))
 (hr : ∀ i, ok i → ev E G lp b (S i) (fun e s => match e with
   | .normal => ∃ j, m j < m i ∧ ok j ∧ aGZ s (S j)
   | .exit x => K (.exit x) s
   | .goto x => K (.goto x) s
   | .ret => K .ret s)) : lp (.loop b) s K := by
 subst hE;subst hlp;intro hc;exact loopW_real hG hm (lp := fun b s K => codeOK n b = true → lpR P n b s K) (fun b s K hc h => h hc) (b := b) (show codeOK n b = true from hc) S m ok hlen h0 hr
theorem aQ {b sz : Nat} {row : SI} {col : Nat} : sle2 (.ptr b sz row col) (.ptr b sz row col) := rfl
theorem bI {b sz : Nat} {row len : SI} : sle2 (.ms b sz row len) (.ms b sz row len) := rfl
theorem bK {sz : Nat} {n : SI} {f : Nat → List AV} : sle2 (.slc sz n f) (.slc sz n f) := ⟨rfl, rfl, fun i _ => by
  generalize f i = l;induction l with
  | nil => trivial
  | cons x r ih => exact ⟨by unfold sle0; split <;> simp_all, ih⟩⟩
theorem bC {t : List (Nat × AV)} : leT t [] := trivial
theorem aV {t : List (Nat × AV)} {i : Nat} {v : AV} {r : List (Nat × AV)} (h : sle2 (lookT t i) v) (k : leT t r) : leT t ((i, v) :: r) := ⟨h, k⟩
theorem aGY {k : Nat} {t : List (Nat × AV)} : leW k t [] := trivial
theorem mL {k : Nat} {t : List (Nat × AV)} {i : Nat} {v : AV} {r : List (Nat × AV)} (h : sle2 (lookT t i) v) (h' : in3 k v = true) (q : leW k t r) : leW k t ((i, v) :: r) := ⟨⟨h, h'⟩, q⟩
end
end
section
open Go
theorem gH {i n : Int} (h0 : 0 ≤ i) (h1 : i < n) (h2 : n < 9223372036854775808) : IntKind.i64.wrap (i + 1) = i + 1 := by
 rw [wi64]; omega
def Num.lesser (o n : Num) : Num := if n.cmp o < 0 then n.fair else o
def Num.least (l : List Num) : Num := l.foldl Num.lesser (Num.inf false)
def Num.leastTo (l : List Num) (i : Int) : Num := (l.take i.toNat).foldl Num.lesser (Num.inf false)
theorem Num.sZ (l : List Num) : Num.leastTo l l.length = Num.least l := by simp [Num.leastTo, Num.least]
theorem Num.pM (l : List Num) {i : Int} (h0 : 0 ≤ i) (h1 : i < l.length) : Num.leastTo l (i + 1) = Num.lesser (Num.leastTo l i) (l.getD i.toNat Num.zero) := by
 unfold Num.leastTo;have : i.toNat < l.length := by omega
 have e : l.getD i.toNat Num.zero = l[i.toNat] := by simp [List.getD, List.getElem?_eq_getElem this]
 rw [e, show (i + 1).toNat = i.toNat + 1 by omega, List.take_add_one, List.getElem?_eq_getElem this, Option.toList_some, List.foldl_append];rfl
def Num.greater (o n : Num) : Num := if 0 < n.cmp o then n.fair else o
def Num.most (l : List Num) : Num := l.foldl Num.greater (Num.inf true)
def Num.mostTo (l : List Num) (i : Int) : Num := (l.take i.toNat).foldl Num.greater (Num.inf true)
theorem Num.vQ (l : List Num) : Num.mostTo l l.length = Num.most l := by simp [Num.mostTo, Num.most]
theorem Num.sS (l : List Num) {i : Int} (h0 : 0 ≤ i) (h1 : i < l.length) : Num.mostTo l (i + 1) = Num.greater (Num.mostTo l i) (l.getD i.toNat Num.zero) := by
 unfold Num.mostTo;have : i.toNat < l.length := by omega
 have e : l.getD i.toNat Num.zero = l[i.toNat] := by simp [List.getD, List.getElem?_eq_getElem this]
 rw [e, show (i + 1).toNat = i.toNat + 1 by omega, List.take_add_one, List.getElem?_eq_getElem this, Option.toList_some, List.foldl_append];rfl
end
section
open Go Go.Proofs
attribute [local irreducible] Lb
theorem c_cut (a : List Int) (ha : Lb a) (hb : a.length < 9223372036854775808) : ∃ t : List Int, t = lim (lv a) ∧ aC Tryz.prog 188 [.sli .u32 a] (.sli .u32 t) := by
 refine ⟨_, rfl, ?_⟩;generalize hr : lim (lv a) = r;refine callsA_o Tryz.func188 fun E hE lp hl => ?_
 cbv;refine E_loop hE hG hm hl (fun (p : List Int) => (⟨[(0, .sli .u32 p), (2, .s0)], []⟩ : St)) (fun p => p.length) (fun p => ∃ k : Nat, k ≤ a.length ∧ p = a.take k ∧ lv (a.take k) = lv a) ⟨a, ⟨a.length, Ba _, by simp, by simp⟩, stLe rfl ?_⟩ ?_
 · (repeat' (first | exact bC | apply aV | exact aN | exact aM | exact aI | exact bI | exact aQ | exact (rfl : sle2 .s0 .s0)))
 rintro p ⟨k, hk, hp, hv⟩;have hpl : p.length = k := by rw [hp]; simp; omega
 cbv;repeat' (first
   | (refine E_br hE ?_ ?_ <;> intro h <;> cbv)
   | (refine E_nm hE fun v hv => ?_; cbv)
   | (refine aT hE (fun b hb => ?_); cbv)
   | fail)
 case refine_2.refine_1.refine_1.refine_1.refine_1.refine_1.refine_1 =>
  refine ⟨E.sub p 0 (E.bin .sub .i64 (E.len p) 1), ?_, ⟨k - 1, ?_, ?_, ?_⟩, stLe rfl ?_⟩;rotate_right
  · (repeat' (first | exact bC | apply aV | exact aN | exact aM | exact aI | exact bI | exact aQ | exact (rfl : sle2 .s0 .s0)))
  all_goals (subst hE; simp only [NatCast.natCast, Ac, aB, aE, aH, aG, aF, aK, aL, aA, Ab, Aa, SI.val, SB.val, Num.eta, Iv.eta] at *)
  all_goals (rw [hpl] at *; rw [rR (by omega) (by omega)] at *)
  all_goals (have e0 : ((k : Int) - 1).toNat = k - 1 := by omega)
  · simp; omega
  · omega
  · rw [e0, hp]; simp [List.take_take]
  · rw [lY (by omega) hk ?_, hv];rw [← rE (k := k) (by omega), ← hp, ← e0]; assumption
 all_goals (subst hE; simp only [NatCast.natCast, Ac, aB, aE, aH, aG, aF, aK, aL, aA, Ab, Aa, SI.val, SB.val, Num.eta, Iv.eta] at *)
 all_goals (rw [hpl] at *)
 all_goals (try (rw [rR (by omega) (by omega)] at *))
 all_goals (try (exfalso; omega))
 all_goals (rw [← hr, hp])
 · exact cut_end ha hk (.inr (by rw [← rE (k := k) (by omega), ← hp]; rw [show ((k : Int) - 1).toNat = k - 1 by omega] at h; exact h)) hv
 · exact cut_end ha hk (.inl (by omega)) hv
theorem tU (a : List Int) (hlb : a.length ≤ 268435456) : ∃ t : List Int, t = a ∧ aC Tryz.prog 189 [.sli .u32 a] (.sli .u32 t) := by
 refine ⟨_, rfl, ?_⟩;generalize hr : a = r;refine callsA_o Tryz.func189 fun E hE lp hl => ?_
 cbv;repeat' (first
   | (refine E_br hE ?_ ?_ <;> intro h <;> cbv)
   | (refine E_nm hE fun v hv => ?_; cbv)
   | (refine aT hE (fun b hb => ?_); cbv)
   | fail)
 all_goals (subst hE; simp only [NatCast.natCast, Ac, aB, aE, aH, aG, aF, aK, aL, aA, Ab, Aa, SI.val, SB.val, Num.eta, Iv.eta] at *)
 · exact List.length_eq_zero_iff.1 (by have := hb h; omega)
 · simp
 · subst hr; omega
theorem c_natCmp (a b : List Int) (ha : Lb a) (hb : Lb b) (hla : a.length ≤ 268435456) (hlb : b.length ≤ 268435456) : ∃ t : Int, t = (if lv a < lv b then -1 else if lv b < lv a then 1 else 0 : Int) ∧ aC Tryz.prog 140 [.sli .u32 a, .sli .u32 b] (.int .i64 (.s t)) := by
 refine ⟨_, rfl, ?_⟩;generalize hr : (if lv a < lv b then -1 else if lv b < lv a then 1 else 0 : Int) = r;have hl1 := aO ha;have hl2 := aO hb;have l1 := lim_lb (lv a);have l2 := lim_lb (lv b);have v1 := aJ (lv a);have v2 := aJ (lv b);have k1 : (lim (lv a)).length < (lim (lv b)).length → r = -1 := by
  intro h; rw [← hr, if_pos (jD h)]
 have k2 : (lim (lv b)).length < (lim (lv a)).length → r = 1 := by
  intro h; have := jD h; rw [← hr, if_neg (by omega), if_pos this]
 have k3 : lv (lim (lv a)) < lv (lim (lv b)) → r = -1 := by
  intro h; rw [v1, v2] at h; rw [← hr, if_pos h]
 have k4 : lv (lim (lv b)) < lv (lim (lv a)) → r = 1 := by
  intro h; rw [v1, v2] at h; rw [← hr, if_neg (by omega), if_pos h]
 have k5 : lim (lv a) = lim (lv b) → r = 0 := by
  intro h; have := aHS h; rw [← hr, if_neg (by omega), if_neg (by omega)]
 refine callsA_o Tryz.func140 fun E hE lp hl => ?_
 cbv
 (apply E_callX hE (c_cut a ha (by omega)); (case hf => rfl); (case hc => (cbv <;> trivial)); (case hle => exact ⟨aN, trivial⟩); intro x hx; cbv)
 (apply E_callX hE (c_cut b hb (by omega)); (case hf => rfl); (case hc => (cbv <;> trivial)); (case hle => exact ⟨aN, trivial⟩); intro y hy; cbv)
 repeat' (first
   | (refine E_br hE ?_ ?_ <;> intro h <;> cbv)
   | (refine E_nm hE fun v hv => ?_; cbv)
   | (refine aT hE (fun b hb => ?_); cbv)
   | fail)
 case hK.hK.refine_1 => subst hE; simp only [NatCast.natCast, Ac, aB, aE, aH, aG, aF, aK, aL, aA, Ab, Aa, SI.val, SB.val, Num.eta, Iv.eta] at *; rw [k1 (by rw [← hx, ← hy]; omega)]
 case hK.hK.refine_2.refine_1 => subst hE; simp only [NatCast.natCast, Ac, aB, aE, aH, aG, aF, aK, aL, aA, Ab, Aa, SI.val, SB.val, Num.eta, Iv.eta] at *; rw [k2 (by rw [← hx, ← hy]; omega)]
 have hlen : x.length = y.length := by subst hE; simp only [NatCast.natCast, Ac, aB, aE, aH, aG, aF, aK, aL, aA, Ab, Aa, SI.val, SB.val, Num.eta, Iv.eta] at *; omega
 rw [← hx] at k1 k2 k3 k4 k5 hl1 l1;rw [← hy] at k1 k2 k3 k4 k5 hl2 l2;obtain ⟨m, em⟩ : ∃ m : Int → Nat, ∀ i, m i = (x.length - i).toNat := ⟨_, fun _ => rfl⟩
 obtain ⟨ok, eok⟩ : ∃ ok : Int → Prop, ∀ i, ok i ↔ 0 ≤ i ∧ i ≤ x.length ∧ x.drop (x.length - i).toNat = y.drop (x.length - i).toNat := ⟨_, fun _ => Bs⟩
 refine E_loop hE hG hm hl (fun i : Int => (⟨[(0, .sli .u32 x), (1, .sli .u32 y), (24, .int .i64 (.s (E.len x))), (25, .int .i64 (.s i))], []⟩ : St)) m ok ⟨0, (eok 0).2 ⟨by omega, by omega, ?_⟩, stLe rfl ?_⟩ ?_
 · rw [show ((x.length : Int) - 0).toNat = x.length by omega, List.drop_length, List.drop_eq_nil_of_le (by omega)]
 · (repeat' (first | exact bC | apply aV | exact aN | exact aM | exact aI | exact bI | exact aQ | exact (rfl : sle2 .s0 .s0)))
 intro i hok;obtain ⟨h1, h2, h3⟩ := (eok i).1 hok;have low : ∀ v : Int, v = x.length - 1 - i → i < x.length → x.getD v.toNat 0 < y.getD v.toNat 0 → -1 = r := by
  intro v hv hi h;exact (k3 (cmp_step l1 l2 (k := v.toNat) hlen (by omega) (by rw [show v.toNat + 1 = ((x.length : Int) - i).toNat by omega]; exact h3) h)).symm
 have high : ∀ v : Int, v = x.length - 1 - i → i < x.length → y.getD v.toNat 0 < x.getD v.toNat 0 → 1 = r := by
  intro v hv hi h;exact (k4 (cmp_step l2 l1 (k := v.toNat) hlen.symm (by omega) (by rw [show v.toNat + 1 = ((x.length : Int) - i).toNat by omega]; exact h3.symm) h)).symm
 have same : ∀ v : Int, v = x.length - 1 - i → i < x.length → ¬ y.getD v.toNat 0 < x.getD v.toNat 0 → ¬ x.getD v.toNat 0 < y.getD v.toNat 0 → x.drop (x.length - (i + 1)).toNat = y.drop (x.length - (i + 1)).toNat := by
  intro v hv hi h h';rw [show ((x.length : Int) - (i + 1)).toNat = v.toNat by omega];exact xQ hlen (by omega) (by rw [show v.toNat + 1 = ((x.length : Int) - i).toNat by omega]; exact h3) (by omega)
 have done : ¬ i < x.length → 0 = r := by
  intro h;rw [k5 (by rw [show ((x.length : Int) - i).toNat = 0 by omega] at h3; simpa using h3)]
 clear h3 k1 k2 k3 k4 k5;cbv;repeat' (first
   | (refine E_br hE ?_ ?_ <;> intro h <;> cbv)
   | (refine E_nm hE fun v hv => ?_; cbv)
   | (refine aT hE (fun b hb => ?_); cbv)
   | fail)
 all_goals (try refine ⟨E.bin .add .i64 i 1, ?_, ?_, stLe rfl ?_⟩)
 all_goals (try ((repeat' (first | exact bC | apply aV | exact aN | exact aM | exact aI | exact bI | exact aQ | exact (rfl : sle2 .s0 .s0))); done))
 all_goals (subst hE; simp only [NatCast.natCast, Ac, aB, aE, aH, aG, aF, aK, aL, aA, Ab, Aa, SI.val, SB.val, Num.eta, Iv.eta] at *)
 all_goals (try exact done ‹_›)
 all_goals (have hi : i < x.length := ‹_›; try rw [gH h1 hi (by omega)])
 all_goals (have hv : ∀ v w, w = i → v = IntKind.i64.wrap (IntKind.i64.wrap ((x.length : Int) - 1) - w) → v = x.length - 1 - i := by (intro v w h h'; rw [wi64, wi64] at h'; omega))
 all_goals (replace hv := hv _ _ ‹_ = i› ‹_›)
 all_goals (first | omega | (rw [em, em]; omega) | exact low _ hv hi ‹_› | exact high _ hv hi ‹_› | exact (eok _).2 ⟨by omega, by omega, same _ hv hi ‹_› ‹_›⟩)
theorem aKZ (a : List Int) (ha : Lb a) (hb : a.length ≤ 268435456) : ∃ t : List Int, t = lim (lv a) ∧ aC Tryz.prog 137 [.sli .u32 a] (.sli .u32 t) := by
 refine ⟨_, rfl, ?_⟩;generalize hr : lim (lv a) = r;have hl' := aO ha;refine callsA_o Tryz.func137 fun E hE lp hl => ?_
 cbv;repeat' (first
   | (refine E_br hE ?_ ?_ <;> intro h <;> cbv)
   | (refine E_nm hE fun v hv => ?_; cbv)
   | (refine aT hE (fun b hb => ?_); cbv)
   | (refine E_cx hE (c_cut _ ha ?_) ?_; all_goals (first | (intro t ht; cbv) | (omega)))
   | (refine E_cx hE (tU _ ?_) ?_; all_goals (first | (intro t ht; cbv) | ((subst_vars; omega))))
   | fail)
 subst_vars;rfl
end
section
open Go
theorem wi64_id {n : Int} (h0 : 0 ≤ n) (h1 : n < 9223372036854775808) : IntKind.i64.wrap n = n := by rw [wi64]; omega
theorem aED {a b out : List Int} {i k c : Int} (ha : Lb a) (hb : Lb b) (hla : a.length < 134217728) (hlb : b.length < 134217728) (h1 : 0 ≤ i) (h2 : i < a.length) (h3 : 0 ≤ k) (h4 : k < b.length)
 (inv : eS a b out i.toNat k.toNat c) {i' k' x y v v2 j : Int} (ei : i' = i) (ek : k' = k) (ex : x = a.getD i.toNat 0) (ey : y = b.getD k.toNat 0)
 (ev : v = aA .add .u64 (aA .add .u64 (aA .mul .u64 (IntKind.u64.wrap x) (IntKind.u64.wrap y)) (IntKind.u64.wrap (out.getD (aA .add .i64 i' k').toNat 0))) c)
 (e2 : v2 = aA .shr .u64 v 32) (ej : j = aA .add .i64 k 1) :
 0 ≤ j ∧ j ≤ b.length ∧ ((b.length : Int) - j).toNat < ((b.length : Int) - k).toNat ∧ eS a b (out.set (aA .add .i64 i' k').toNat (IntKind.u32.wrap v)) i.toNat j.toNat v2 := by
 have hx := ha.getD i.toNat;have hy := hb.getD k.toNat;have hz := inv.lb.getD (i.toNat + k.toNat);have hd := yN hx hy hz ⟨inv.c0, inv.c1⟩;have st := inv.step ha hb (by omega) (by omega);subst ei ek ex ey;have eik : (aA .add .i64 i' k').toNat = i'.toNat + k'.toNat := by
  show (IntKind.i64.wrap (i' + k')).toNat = _;rw [wi64_id (by omega) (by omega)]; omega
 have ej' : j = k' + 1 := by rw [ej]; show IntKind.i64.wrap (k' + 1) = _; rw [wi64_id (by omega) (by omega)]
 rw [eik] at ev ⊢;generalize a.getD i'.toNat 0 = x at *
 generalize b.getD k'.toNat 0 = y at *
 generalize out.getD (i'.toNat + k'.toNat) 0 = z at *
 have c0 := inv.c0;have c1 := inv.c1;have ev' : v = x * y + z + c := by
  rw [ev];show IntKind.u64.wrap (IntKind.u64.wrap (IntKind.u64.wrap (IntKind.u64.wrap x * IntKind.u64.wrap y) + IntKind.u64.wrap z) + c) = _;simp only [wu64];rw [Bi hx.1 (by omega), Bi hy.1 (by omega), Bi hz.1 (by omega)];generalize x * y = p at *
  omega
 have e2' : v2 = v / 4294967296 := by rw [e2]; exact zB v
 rw [wu32, e2', ev', ej', show (k' + 1).toNat = k'.toNat + 1 by omega];exact ⟨by omega, by omega, by omega, st⟩
theorem aCR {a b out : List Int} {i k c : Int} (hla : a.length < 134217728) (hlb : b.length < 134217728) (h1 : 0 ≤ i) (h2 : i < a.length) (h3 : k ≤ b.length) (h4 : ¬ k < b.length)
 (inv : eS a b out i.toNat k.toNat c) {i' j : Int} (ei : i' = i) (ej : j = aA .add .i64 i 1) :
 0 ≤ j ∧ j ≤ a.length ∧ ((a.length : Int) - j).toNat < ((a.length : Int) - i).toNat ∧ eS a b (out.set (aA .add .i64 i' b.length).toNat (IntKind.u32.wrap c)) j.toNat 0 0 := by
 subst ei;have e : k.toNat = b.length := by omega
 rw [e] at inv;have st := inv.next (by omega)
 have eik : (aA .add .i64 i' b.length).toNat = i'.toNat + b.length := by
  show (IntKind.i64.wrap (i' + b.length)).toNat = _;rw [wi64_id (by omega) (by omega)]; omega
 have ej' : j = i' + 1 := by rw [ej]; show IntKind.i64.wrap (i' + 1) = _; rw [wi64_id (by omega) (by omega)]
 have c0 := inv.c0;have c1 := inv.c1;rw [eik, ej', wu32, Bi c0 c1, show (i' + 1).toNat = i'.toNat + 1 by omega];exact ⟨by omega, by omega, by omega, st⟩
end
end Go.Proofs.YtmlcglmbjjmijaaGreatDoor.Ev
