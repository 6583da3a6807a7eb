/- Texts of the proof, joined and shortened. -/
import Derived.Test.YtmlcglmbjjmijaaGreatDoorB4
set_option linter.unusedVariables false
set_option linter.unusedSimpArgs false
namespace Go.Proofs.YtmlcglmbjjmijaaGreatDoor.Ev
section
open Go Go.RowKit
def nth0 : List Nat → Nat → Nat
 | [], n => n
 | r :: _, 0 => r
 | _ :: rs, n + 1 => nth0 rs n
def rn1 (ρ : List Nat) : AV → AV
 | .ms b sz row len => .ms (nth0 ρ b) sz row len
 | .ptr b sz row col => .ptr (nth0 ρ b) sz row col
 | c => c
def mapB {α β : Type} (f : α → β) : List α → List β
 | [] => []
 | x :: r => f x :: mapB f r
def rn2 (ρ : List Nat) : AV → AV
 | .agg cs => .agg (mapB (rn1 ρ) cs)
 | .fn f cs => .fn f (mapB (rn1 ρ) cs)
 | c => rn1 ρ c
def rn3 (ρ : List Nat) : AV → AV
 | .tup cs => .tup (mapB (rn2 ρ) cs)
 | c => rn2 ρ c
def rnB (ρ : List Nat) : Blk → Blk
 | .rows w sz d l => .rows w sz d (mapB (mapB (rn1 ρ)) l)
 | b => b
def pI (ρ : List Nat) (h : List Blk) : List Nat → List Blk → Prop
 | _ :: rs, .dead :: bs => pI ρ h rs bs
 | r :: rs, b :: bs => bS h r = rnB ρ b ∧ pI ρ h rs bs
 | [], [] => True
 | _, _ => False
def mM : List Nat → List Blk → List Nat → Bool
 | _ :: rs, .dead :: bs, seen => mM rs bs seen
 | r :: rs, _ :: bs, seen => bif memN r seen then false else mM rs bs (r :: seen)
 | _, _, _ => true
def zC (ρ : List Nat) : Nat → Bool
 | 0 => true
 | n + 1 => bif Nat.beq (nth0 ρ n) n then zC ρ n else false
theorem jQ {α β : Type} (f : α → β) (l : List α) : mapB f l = l.map f := by induction l <;> simp_all [mapB]
theorem mK {ρ : List Nat} : ∀ {n : Nat}, zC ρ n = true → ∀ b, b < n → nth0 ρ b = b
 | 0, _, b, hb => by omega
 | n + 1, h, b, hb => by
  simp only [zC] at h;cases e : Nat.beq (nth0 ρ n) n with
  | false => rw [e] at h; cases h
  | true =>
   rw [e, cond_true] at h;rcases Ar b n with h1 | h1
   · exact mK h b h1
   · have : b = n := by omega
     subst this;exact Ad e
theorem aBE {n : Nat} : ∀ {l : List Nat}, memN n l = true ↔ n ∈ l
 | [] => by simp [memN]
 | x :: r => by
  simp only [memN];cases e : Nat.beq n x with
  | true => simp [Ad e]
  | false =>
   have : n ≠ x := fun h => by rw [h, Nat.beq_refl] at e; cases e
   simp [aBE, this]
theorem vK {ρ : List Nat} {h : List Blk} : ∀ {rs : List Nat} {bs : List Blk} {b : Nat} {x : Blk}, pI ρ h rs bs → bs[b]? = some x → x ≠ .dead → bS h (nth0 rs b) = rnB ρ x
 | [], bs, b, x, hM, hb, _ => by
  cases bs with
  | nil => simp at hb
  | cons => exact hM.elim
 | r :: rs, [], b, x, hM, hb, _ => by simp at hb
 | r :: rs, y :: bs, 0, x, hM, hb, hx => by
  simp at hb;subst hb;cases y with
  | dead => exact absurd rfl hx
  | ints => exact hM.1
  | rows => exact hM.1
 | r :: rs, y :: bs, b + 1, x, hM, hb, hx => by
  have hM' : pI ρ h rs bs := by cases y with
   | dead => exact hM
   | ints => exact hM.2
   | rows => exact hM.2
  exact vK (rs := rs) (bs := bs) (b := b) hM' (by simpa using hb) hx
theorem rT {ρ : List Nat} {h : List Blk} : ∀ {rs : List Nat} {bs : List Blk}, pI ρ h rs bs → rs.length = bs.length
 | [], [], _ => rfl
 | [], _ :: _, hM => by exact hM.elim
 | _ :: _, [], hM => by exact hM.elim
 | r :: rs, y :: bs, hM => by
  have hM' : pI ρ h rs bs := by cases y with
   | dead => exact hM
   | ints => exact hM.2
   | rows => exact hM.2
  simp [rT hM']
theorem nD : ∀ {rs : List Nat} {bs : List Blk} {seen : List Nat}, mM rs bs seen = true → rs.length = bs.length →
 (∀ b x, bs[b]? = some x → x ≠ .dead → nth0 rs b ∉ seen) ∧ (∀ b b' x x', bs[b]? = some x → x ≠ .dead → bs[b']? = some x' → x' ≠ .dead → nth0 rs b = nth0 rs b' → b = b')
 | [], [], _, _, _ => ⟨fun b x hb => by simp at hb, fun b b' x x' hb => by simp at hb⟩
 | [], _ :: _, _, _, hl => by simp at hl
 | _ :: _, [], _, _, hl => by simp at hl
 | r :: rs, y :: bs, seen, h, hl => by
  have hl' : rs.length = bs.length := by simpa using hl
  by_cases hy : y = .dead
  · subst hy;obtain ⟨h1, h2⟩ := nD (show mM rs bs seen = true from h) hl';refine ⟨fun b x hb hx => ?_, fun b b' x x' hb hx hb' hx' e => ?_⟩
    · cases b with
      | zero => simp at hb; exact absurd hb.symm hx
      | succ b => exact h1 b x (by simpa using hb) hx
    · cases b with
      | zero => simp at hb; exact absurd hb.symm hx
      | succ b =>
       cases b' with
       | zero => simp at hb'; exact absurd hb'.symm hx'
       | succ b' => rw [h2 b b' x x' (by simpa using hb) hx (by simpa using hb') hx' e]
  · have h' : (bif memN r seen then false else mM rs bs (r :: seen)) = true := by
     cases y with
     | dead => exact absurd rfl hy
     | ints => exact h
     | rows => exact h
    cases hm : memN r seen with
    | true => rw [hm] at h'; cases h'
    | false =>
     rw [hm, cond_false] at h';have hr : r ∉ seen := fun hc => by rw [aBE.2 hc] at hm; cases hm
     obtain ⟨h1, h2⟩ := nD h' hl';refine ⟨fun b x hb hx => ?_, fun b b' x x' hb hx hb' hx' e => ?_⟩
     · cases b with
       | zero => exact hr
       | succ b => exact fun hc => h1 b x (by simpa using hb) hx (List.mem_cons_of_mem _ hc)
     · cases b with
       | zero =>
        cases b' with
        | zero => rfl
        | succ b' => exact absurd (show nth0 rs b' ∈ r :: seen by rw [← show r = nth0 rs b' from e]; exact List.mem_cons_self ..) (h1 b' x' (by simpa using hb') hx')
       | succ b =>
        cases b' with
        | zero => exact absurd (show nth0 rs b ∈ r :: seen by rw [show nth0 rs b = r from e]; exact List.mem_cons_self ..) (h1 b x (by simpa using hb) hx)
        | succ b' => rw [h2 b b' x x' (by simpa using hb) hx (by simpa using hb') hx' e]
section
variable {P : Program} {G : Nat → TI} {base : Nat} {O0 : Nat → Prop} {μ : Nat → Nat} {hp hq : List Blk} {w w' : World}
structure Named (ρ : List Nat) (hp hq : List Blk) : Prop where
 len : ρ.length = hq.length
 blk : ∀ b x, hq[b]? = some x → x ≠ .dead → hp[nth0 ρ b]? = some (rnB ρ x)
 apart : ∀ b b' x x', hq[b]? = some x → x ≠ .dead → hq[b']? = some x' → x' ≠ .dead → nth0 ρ b = nth0 ρ b' → b = b'
 inl : jE (lenB hq) hq
theorem aDT {ρ : List Nat} {x : Blk} (h : x ≠ .dead) : rnB ρ x ≠ .dead := by cases x <;> simp_all [rnB]
theorem aOC {ρ : List Nat} {x : Blk} : (rnB ρ x).dim = x.dim := by cases x <;> simp [rnB, Blk.dim, jQ]
theorem aRT {ρ : List Nat} {x : Blk} : (rnB ρ x).wr = x.wr := by cases x <;> rfl
theorem tM {x : Blk} {n : Nat × Nat} (h : x.dim = some n) : x ≠ .dead := by rintro rfl; simp [Blk.dim] at h
theorem not_dead_of_wr {x : Blk} (h : x.wr = true) : x ≠ .dead := by rintro rfl; simp [Blk.wr] at h
theorem Named.dim {ρ : List Nat} (N : Named ρ hp hq) {b : Nat} {n : Nat × Nat} (h : dimB hq b = some n) : dimB hp (nth0 ρ b) = some n := by
 unfold dimB at h ⊢;cases hb : hq[b]? with
 | none => rw [hb] at h; simp [Blk.dim] at h
 | some x =>
  rw [hb] at h;have hx : x ≠ .dead := tM h;rw [N.blk b x hb hx];simp only [Option.getD_some] at h ⊢;rw [aOC];exact h
theorem Named.wr {ρ : List Nat} (N : Named ρ hp hq) {b : Nat} (h : wrB hq b = true) : wrB hp (nth0 ρ b) = true := by
 unfold wrB at h ⊢;cases hb : hq[b]? with
 | none => rw [hb] at h; simp [Blk.wr] at h
 | some x =>
  rw [hb] at h;have hx : x ≠ .dead := not_dead_of_wr h;rw [N.blk b x hb hx];simp only [Option.getD_some] at h ⊢;rw [aRT];exact h
theorem aBM {b : Nat} (h : dimB hq b ≠ none) : ∃ x, hq[b]? = some x ∧ x ≠ .dead := by
 unfold dimB at h;cases hb : hq[b]? with
 | none => rw [hb] at h; simp [Blk.dim] at h
 | some x => exact ⟨x, rfl, by rintro rfl; rw [hb] at h; simp [Blk.dim] at h⟩
theorem some_of_wr {b : Nat} (h : wrB hq b = true) : ∃ x, hq[b]? = some x ∧ x ≠ .dead := by
 unfold wrB at h;cases hb : hq[b]? with
 | none => rw [hb] at h; simp [Blk.wr] at h
 | some x => exact ⟨x, rfl, by rintro rfl; rw [hb] at h; simp [Blk.wr] at h⟩
theorem Named.ok {ρ : List Nat} (N : Named ρ hp hq) {n : Nat} (h : okO base O0 μ hp w n) : okO base O0 (fun b => μ (nth0 ρ b)) hq w n := by
 rcases h with h | ⟨h1, h2, h3⟩
 · exact .inl h
 · exact .inr ⟨h1, h2, fun b hb => h3 _ (N.wr hb)⟩
theorem bZ {ρ : List Nat} (N : Named ρ hp hq) {c : AV} {v : Value} (h : LeafR (mkX base O0 μ hp w) (rn1 ρ c) v) (hi : in1 (lenB hq) c = true) : LeafR (mkX base O0 (fun b => μ (nth0 ρ b)) hq w) c v := by
 rw [eJ] at hi;cases c with
 | ms b sz row len =>
  obtain ⟨hb, h0, h1, A, cap, rfl, hle, hA, hd⟩ := (show LeafR _ (.ms (nth0 ρ b) sz row len) v from h)
  exact ⟨An hi, h0, h1, A, cap, rfl, hle, hA, fun n s hn => hd n s (N.dim hn)⟩
 | ptr b sz row col =>
  obtain ⟨hb, h0, rfl, hd⟩ := (show LeafR _ (.ptr (nth0 ρ b) sz row col) v from h)
  exact ⟨An hi, h0, rfl, fun n s hn => hd n s (N.dim hn)⟩
 | _ => exact RoV.mono (fun n hn => N.ok hn) (fun _ _ _ h => h) (show RoV _ _ _ v from h)
theorem cK {ρ : List Nat} (N : Named ρ hp hq) {c : AV} {v : Value} (h : AggR (mkX base O0 μ hp w) (rn2 ρ c) v) (hi : in2 (lenB hq) c = true) : AggR (mkX base O0 (fun b => μ (nth0 ρ b)) hq w) c v := by
 have list : ∀ {cs : List AV} {ys : Array Value}, allB (in1 (lenB hq)) cs = true → (mapB (rn1 ρ) cs).length = ys.size → (∀ (j : Nat) (c : AV), (mapB (rn1 ρ) cs)[j]? = some c → LeafR (mkX base O0 μ hp w) c (ys.getD j undef)) →
  cs.length = ys.size ∧ ∀ (j : Nat) (c : AV), cs[j]? = some c → LeafR (mkX base O0 (fun b => μ (nth0 ρ b)) hq w) c (ys.getD j undef) := by
  intro cs ys hi hl h;rw [allB_eq, List.all_eq_true] at hi;rw [jQ] at hl h;refine ⟨by simpa using hl, fun j c hj => bZ N (h j _ (by rw [List.getElem?_map, hj]; rfl)) (hi c (List.mem_of_getElem? hj))⟩
 cases c with
 | agg cs =>
  obtain ⟨ys, rfl, hl, h⟩ := h;obtain ⟨h1, h2⟩ := list hi hl h;exact ⟨ys, rfl, h1, h2⟩
 | fn f cs =>
  obtain ⟨ys, rfl, hl, h⟩ := h;obtain ⟨h1, h2⟩ := list hi hl h;exact ⟨ys, rfl, h1, h2⟩
 | un => exact bZ (c := .un) N h hi
 | lit x => exact bZ (c := .lit x) N h hi
 | int k n => exact bZ (c := .int k n) N h hi
 | bool b => exact bZ (c := .bool b) N h hi
 | str s => exact bZ (c := .str s) N h hi
 | tup cs => exact bZ (c := .tup cs) N h hi
 | sli k l => exact bZ (c := .sli k l) N h hi
 | slc sz n f => exact bZ (c := .slc sz n f) N h hi
 | s0 => exact bZ (c := .s0) N h hi
 | ms b sz row len => exact bZ (c := .ms b sz row len) N h hi
 | ptr b sz row col => exact bZ (c := .ptr b sz row col) N h hi
 | rp cs => exact bZ (c := .rp cs) N h hi
 | bnd f bs => exact bZ (c := .bnd f bs) N h hi
 | slx sz l => exact bZ (c := .slx sz l) N h hi
theorem yR {ρ : List Nat} (N : Named ρ hp hq) {c : AV} {v : Value} (h : RelV (mkX base O0 μ hp w) (rn3 ρ c) v) (hi : in3 (lenB hq) c = true) : RelV (mkX base O0 (fun b => μ (nth0 ρ b)) hq w) c v := by
 cases c with
 | tup cs =>
  obtain ⟨ys, rfl, hl, h⟩ := h;simp only [in3, allB_eq, List.all_eq_true] at hi;rw [jQ] at hl h;exact ⟨ys, rfl, by simpa using hl, fun j c hj => cK N (h j _ (by rw [List.getElem?_map, hj]; rfl)) (hi c (List.mem_of_getElem? hj))⟩
 | un => exact cK (c := .un) N h hi
 | lit x => exact cK (c := .lit x) N h hi
 | int k n => exact cK (c := .int k n) N h hi
 | bool b => exact cK (c := .bool b) N h hi
 | str s => exact cK (c := .str s) N h hi
 | agg cs => exact cK (c := .agg cs) N h hi
 | fn f cs => exact cK (c := .fn f cs) N h hi
 | sli k l => exact cK (c := .sli k l) N h hi
 | slc sz n f => exact cK (c := .slc sz n f) N h hi
 | s0 => exact cK (c := .s0) N h hi
 | ms b sz row len => exact cK (c := .ms b sz row len) N h hi
 | ptr b sz row col => exact cK (c := .ptr b sz row col) N h hi
 | rp cs => exact cK (c := .rp cs) N h hi
 | bnd f bs => exact cK (c := .bnd f bs) N h hi
 | slx sz l => exact cK (c := .slx sz l) N h hi
theorem HR.named {ρ : List Nat} (H : HR base O0 μ hp w) (N : Named ρ hp hq) : HR base O0 (fun b => μ (nth0 ρ b)) hq w := by
 refine ⟨H.all, fun b x hx => ?_, fun b hd => ?_, fun b b' h1 h2 h3 => ?_, fun b x hx => ?_, H.gl⟩
 · by_cases hne : x = .dead
   · subst hne; trivial
   · have := H.blk _ _ (N.blk b x hx hne);cases x with
     | dead => trivial
     | ints wr kk l => exact this
     | rows wr sz d l =>
      obtain ⟨h1, c, e, h2, h3⟩ := this;have hin := rA N.inl hx;rw [allB_eq, List.all_eq_true] at hin;refine ⟨h1, c, e, h2, fun i r hi => ?_⟩;have h4 := h3 i (mapB (rn1 ρ) r) (by rw [jQ, List.getElem?_map, hi]; rfl);refine ⟨by simpa [jQ] using h4.1, fun j a hj => ?_⟩;obtain ⟨y, h5, h6⟩ := h4.2 j (rn1 ρ a) (by rw [jQ, List.getElem?_map, hj]; rfl);have hr := hin r (List.mem_of_getElem? hi);rw [allB_eq, List.all_eq_true] at hr;exact ⟨y, h5, bZ N h6 (hr a (List.mem_of_getElem? hj))⟩
 · cases hn : dimB hq b with
   | none => exact absurd hn hd
   | some n => exact H.low _ (by rw [N.dim hn]; simp)
 · obtain ⟨x, q1, q2⟩ := some_of_wr h1;obtain ⟨x', q3, q4⟩ := aBM h2;cases hn : dimB hq b' with
   | none => exact absurd hn h2
   | some n => exact N.apart b b' x x' q1 q2 q3 q4 (H.inj _ _ (N.wr h1) (by rw [N.dim hn]; simp) h3)
 · by_cases hne : x = .dead
   · subst hne; exact fun ts ht => by cases ht
   · exact TyR.less (.inr (by cases x <;> rfl)) (H.ty _ _ (N.blk b x hx hne))
def xY (n0 : Nat) (ρ : List Nat) (s s' : St) : Prop :=
 pI ρ s.h ρ s'.h ∧ mM ρ s'.h [] = true ∧ zC ρ n0 = true ∧ n0 ≤ lenB s'.h ∧ jE (lenB s'.h) s'.h ∧
  ∀ u, AVle (lookT s.t u) (rn3 ρ (lookT s'.t u)) ∧ in3 (lenB s'.h) (lookT s'.t u) = true
theorem SR.leM {I : X} {nt : Nat} {s s' : St} {a : Act} {n0 : Nat} {ρ : List Nat} (R : SR base O0 I nt s μ a w) (h : xY n0 ρ s s') (hI : I.h.length ≤ n0) : ∃ μ', SR base O0 I nt s' μ' a w := by
 obtain ⟨h1, h2, h3, h4, h5, h6⟩ := h;have hl := rT h1;have N : Named ρ s.h s'.h := by
  refine ⟨hl, fun b x hb hx => ?_, (nD h2 hl).2, h5⟩;have := vK h1 hb hx;exact cD this (aDT hx)
 refine ⟨fun b => μ (nth0 ρ b), R.size, R.defers, R.hr.named N, fun u => yR N ((h6 u).1 _ _ (R.tmps u)) (h6 u).2, ?_, R.below⟩;have e := R.ext;rw [eJ] at h4;refine ⟨fun n hn => N.ok (e.o n hn), fun b hb => ?_, by simp only [mkX]; omega, fun b hb n hn => ?_, e.cell, e.shape⟩
 · have := mK h3 b (by omega);show μ (nth0 ρ b) = _;rw [this];exact e.mu b hb
 · have := mK h3 b (by omega);have hd := N.dim hn;rw [this] at hd;exact e.dim b hb n hd
def leM (ρ : List Nat) (k : Nat) (t : List (Nat × AV)) : List (Nat × AV) → Prop
 | [] => True
 | (i, v) :: r => (AVle (lookT t i) (rn3 ρ v) ∧ in3 k v = true) ∧ leM ρ k t r
theorem aCC {ρ : List Nat} {k : Nat} {t : List (Nat × AV)} : ∀ {t' : List (Nat × AV)}, leM ρ k t t' → ∀ u, AVle (lookT t u) (rn3 ρ (lookT t' u)) ∧ in3 k (lookT t' u) = true
 | [], _, u => ⟨AVle.un _, rfl⟩
 | (i, v) :: r, h, u => by
  simp only [lookT];cases hb : Nat.beq i u with
  | true =>
   have := Ad hb;subst this;exact ⟨h.1.1, h.1.2⟩
  | false => exact aCC h.2 u
theorem bV {n0 : Nat} {ρ : List Nat} {t t' : List (Nat × AV)} {h h' : List Blk} (e : pI ρ h ρ h') (a : mM ρ h' [] = true) (i : zC ρ n0 = true) (k : Nat.ble n0 (lenB h') = true) (b : jE (lenB h') h') (l : leM ρ (lenB h') t t') :
 xY n0 ρ ⟨t, h⟩ ⟨t', h'⟩ := ⟨e, a, i, An k, b, aCC l⟩
theorem loopM_real {ι : Type} (hG : GOK P G) (hm : P.follows .mixedOrders = true) {nt : Nat} {lp : Code → St → (Ex → St → Prop) → Prop} (hlp : ∀ b s K, codeOK nt b = true → lp b s K → lpR P nt b s K) {b : Code} (hc : codeOK nt b = true)
 {s : St} {K : Ex → St → Prop} (S : ι → St) (m : ι → Nat) (ok : ι → Prop) (h0 : ∃ i ρ, ok i ∧ xY (lenB s.h) ρ s (S i))
 (hr : ∀ i, ok i → ev (aB P) G lp b (S i) (fun e s2 => match e with
   | .normal => ∃ j ρ, m j < m i ∧ ok j ∧ xY (lenB s.h) ρ s2 (S j)
   | .exit x => K (.exit x) s2
   | .goto x => K (.goto x) s2
   | .ret => K .ret s2)) : lpR P nt (.loop b) s K := by
 intro base O0 I μ a w R;have hI : I.h.length ≤ lenB s.h := by
  have h1 := R.ext.len;rw [eJ]
  simpa only [mkX] using h1
 obtain ⟨i0, ρ0, ho0, hl0⟩ := h0;obtain ⟨μ0, R0⟩ := R.leM hl0 hI;refine wp_loop_ghost (fun n a w => ∃ i μ, m i = n ∧ ok i ∧ SR base O0 I nt (S i) μ a w) (m i0) ⟨i0, μ0, rfl, ho0, R0⟩ ?_;rintro n a w ⟨i, μ, rfl, ho, R⟩;refine wp_mono (mE hG hm hlp b _ (S i) μ a w hc R (hr i ho)) ?_;intro e a w hq;cases e with
 | normal =>
  obtain ⟨s', μ', R', j, ρ, h1, h2, h3⟩ := hq;obtain ⟨μ2, R2⟩ := R'.leM h3 hI;exact ⟨m j, h1, j, μ2, rfl, h2, R2⟩
 | exit i => exact hq
 | goto i => exact hq
 | ret => exact hq
 | panic ch => exact hq.elim
 | outgrown => exact hq.elim
theorem E_loopM {ι : Type} {E : Env} (hE : E = aB P) (hG : GOK P G) (hm : P.follows .mixedOrders = true) {n : Nat} {lp : Code → St → (Ex → St → Prop) → Prop} (hlp : Loops P n lp) {b : Code} {s : St} {K : Ex → St → Prop}
 (S : ι → St) (m : ι → Nat) (ok : ι → Prop) (h0 : ∃ i ρ, ok i ∧ xY (lenB s.h) ρ s (S i))
 (hr : ∀ i, ok i → ev E G lp b (S i) (fun e s2 => match e with
   | .normal => ∃ j ρ, m j < m i ∧ ok j ∧ xY (lenB s.h) ρ s2 (S j)
   | .exit x => K (.exit x) s2
   | .goto x => K (.goto x) s2
   | .ret => K .ret s2)) : lp (.loop b) s K := by
 subst hE;subst hlp;intro hc;exact loopM_real hG hm (lp := fun b s K => codeOK n b = true → lpR P n b s K) (fun b s K hc h => h hc) (b := b) (show codeOK n b = true from hc) S m ok h0 hr
theorem bW {ρ : List Nat} {k : Nat} {t : List (Nat × AV)} : leM ρ k t [] := trivial
theorem bE {ρ : List Nat} {k : Nat} {t : List (Nat × AV)} {i : Nat} {v : AV} {r : List (Nat × AV)} (h : sle2 (lookT t i) (rn3 ρ v)) (h' : in3 k v = true) (q : leM ρ k t r) : leM ρ k t ((i, v) :: r) := ⟨⟨fun x val hv => aFO h hv, h'⟩, q⟩
theorem bN {ρ : List Nat} {k : Nat} {t : List (Nat × AV)} {i : Nat} {v : AV} {r : List (Nat × AV)} (h : AVle (lookT t i) (rn3 ρ v)) (h' : in3 k v = true) (q : leM ρ k t r) : leM ρ k t ((i, v) :: r) := ⟨⟨h, h'⟩, q⟩
theorem dH {b sz : Nat} {row len row' len' : SI} (h1 : row.val = row'.val) (h2 : len.val = len'.val) : AVle (.ms b sz row len) (.ms b sz row' len') := by
 intro x v h;have h := (show LeafR x (.ms b sz row len) v from h)
 show LeafR x (.ms b sz row' len') v;unfold LeafR at h ⊢;dsimp only at h ⊢;rw [← h1, ← h2];exact h
end
end
section
open Go Go.RowKit
variable {P : Program} {G : Nat → TI}
def aUG (n0 : Nat) (ρ : List Nat) (v : AV) (h : List Blk) (r : AV) (h' : List Blk) : Prop :=
 pI ρ h ρ h' ∧ mM ρ h' [] = true ∧ zC ρ n0 = true ∧ n0 ≤ lenB h' ∧ jE (lenB h') h' ∧ AVle v (rn3 ρ r) ∧ in3 (lenB h') r = true
theorem lF {f : FuncId} {args : List AV} {h : List Blk} {K K' : AV → List Blk → Prop} (hC : eE P f args h K')
 (hK : ∀ v h1, K' v h1 → ∃ ρ r h2, aUG (lenB h) ρ v h1 r h2 ∧ K r h2) : eE P f args h K := by
 intro base O0 μ w vals H hl ha;refine (hC base O0 μ w vals H hl ha).mono ?_;rintro e w' ⟨val, v, h1, μ1, rfl, hk, hv, H1, X1, hB⟩;obtain ⟨ρ, r, h2, ⟨q1, q2, q3, q4, q5, q6, q7⟩, hr⟩ := hK v h1 hk;have hlen := rT q1;have N : Named ρ h1 h2 := by
  refine ⟨hlen, fun b x hb hx => ?_, (nD q2 hlen).2, q5⟩;have := vK q1 hb hx;exact cD this (aDT hx)
 refine ⟨val, r, h2, fun b => μ1 (nth0 ρ b), rfl, hr, yR N (q6 _ _ hv) q7, H1.named N, ?_, hB⟩;rw [eJ] at q3;rw [eJ, eJ] at q4;refine ⟨fun n hn => N.ok (X1.o n hn), fun b hb => ?_, by simp only [mkX]; omega, fun b hb n hn => ?_, X1.cell, X1.shape⟩
 · have := mK q3 b (by simpa only [mkX] using hb);show μ1 (nth0 ρ b) = _;rw [this];exact X1.mu b hb
 · have := mK q3 b (by simpa only [mkX] using hb);have hd := N.dim hn;rw [this] at hd;exact X1.dim b hb n hd
theorem aCF {f : FuncId} {args : List AV} {h : List Blk} {K K' : AV → List Blk → Prop} (hC : eE P f args h K') (hK : ∀ v h1, K' v h1 → K v h1) : eE P f args h K := by
 intro base O0 μ w vals H hl ha;refine (hC base O0 μ w vals H hl ha).mono ?_;rintro e w' ⟨val, v, h1, μ1, rfl, hk, hr⟩;exact ⟨val, v, h1, μ1, rfl, hK v h1 hk, hr⟩
theorem gK (hG : GOK P G) (hm : P.follows .mixedOrders = true) {f : FuncId} {fn : Func} (hf : P.funcs[f]? = some fn) {args : List AV} (ho : fnOK fn args.length = true)
 {h : List Blk} {K : AV → List Blk → Prop} (hv : ∀ E, E = aB P → ∀ lp, Loops P fn.ntmps lp → evF E G lp fn args h K) : eE P f args h K :=
 E_in rfl hG hm hf ho (fz := none) (fun lp hl => hv _ rfl lp hl)
theorem gV {E : Env} (hE : E = aB P) {f : FuncId} {args : List AV} {h : List Blk} {K K' : AV → List Blk → Prop} {fz : Option (List AV × List Blk)} (hC : eE P f args h K') (hK : ∀ v h1, K' v h1 → K v h1) : E.call f args h fz K := by
 subst hE; exact aCF hC hK
end
section
open Go Go.Proofs
attribute [local irreducible] Lb
def aTY (E : Env) (d z Q : List Int) (q at_ n : Int) : Int × Int × Int × List Int → St := fun p => ⟨[(0, .ms 2 1 (.l 0) (.s n)), (1, .sli .u32 d), (2, .int .u32 (.s q)), (3, .int .i64 (.s at_)), (9, .int .u32 (.s p.2.2.1)), (10, .int .u64 (.s p.2.1)), (14, .sli .u32 d), (15, .int .i64 (.s (E.len d))), (16, .int .i64 (.s p.1))],
  [.dead, .ints true .u32 z, .ints true .u32 p.2.2.2, .ints true .u32 Q]⟩
set_option maxHeartbeats 2000000 in
theorem aRQ (d z R Q : List Int) (q at_ n : Int) (hd : Lb d) (hR : Lb R) (hq : 0 ≤ q ∧ q < 4294967296) (hlr : R.length < 134217728) (ha : 0 ≤ at_) (hat : at_ + d.length < R.length) (hn : at_ + d.length < n) (hn2 : n ≤ R.length) :
 eE Tryz.prog 225 [.ms 2 1 (.l 0) (.s n), .sli .u32 d, .int .u32 (.s q), .int .i64 (.s at_)] [.dead, .ints true .u32 z, .ints true .u32 R, .ints true .u32 Q]
  (fun v h => ∃ r b, v = .bool (.s b) ∧ h = [.dead, .ints true .u32 z, .ints true .u32 r, .ints true .u32 Q] ∧ zK R d q at_.toNat r b) := by
 obtain ⟨m, em⟩ : ∃ m : Int × Int × Int × List Int → Nat, ∀ p, m p = (d.length - p.1).toNat := ⟨_, fun _ => rfl⟩
 obtain ⟨ok, eok⟩ : ∃ ok : Int × Int × Int × List Int → Prop, ∀ p, ok p ↔ 0 ≤ p.1 ∧ p.1 ≤ d.length ∧ fK R d q at_.toNat p.2.2.2 p.1.toNat p.2.1 p.2.2.1 := ⟨_, fun _ => Bs⟩
 refine gK hG hm Tryz.func225 (by kernel_rfl) ?_;intro E hE lp hl;cbv;repeat' (first
   | (refine E_br hE ?_ ?_ <;> intro h <;> cbv)
   | (refine E_nm hE fun v hv => ?_; cbv)
   | (refine aT hE (fun b hb => ?_); cbv)
   | fail)
 refine E_loop hE hG hm hl (aTY E d z Q q at_ n) m ok ⟨(0, 0, 0, R), (eok _).2 ⟨by show (0 : Int) ≤ 0; omega, by show (0 : Int) ≤ d.length; omega, fK.start d q at_.toNat hR⟩, stLe rfl ?_⟩ ?_
 · (repeat' (first | exact bC | apply aV | exact aN | exact aM | exact aI | exact bI | exact aQ | exact (rfl : sle2 .s0 .s0)))
 rintro ⟨i, carry, borrow, r⟩ hok;have h1 : 0 ≤ i := ((eok _).1 hok).1;have h2 : i ≤ d.length := ((eok _).1 hok).2.1;have inv : fK R d q at_.toNat r i.toNat carry borrow := ((eok _).1 hok).2.2;have lr := inv.lb;have hol := inv.len;have b0 := inv.b0;have b1 := inv.b1;have w1 : ∀ x : Int, 0 ≤ IntKind.u32.wrap x := fun x => by rw [wu32]; omega
 have w2 : ∀ x : Int, IntKind.u32.wrap x < 4294967296 := fun x => by rw [wu32]; omega
 clear hok;cbv;repeat' (first
   | (refine E_br hE ?_ ?_ <;> intro h <;> cbv)
   | (refine E_nm hE fun v hv => ?_; cbv)
   | (refine aT hE (fun b hb => ?_); cbv)
   | (refine E_cx hE (aIM _ _ _ ?_ ?_ ?_ ?_ ?_ ?_) ?_; all_goals (first | (intro t ht; cbv) | (((try simp only [SI.val]); first | omega | (subst hE; first | exact (lr.getD _).1 | exact (lr.getD _).2 | exact w1 _ | exact w2 _)))))
   | fail)
 all_goals (try (rename_i c' ec _ _ _; refine ⟨(E.bin .add .i64 i 1, c', v, E.set r (E.bin .add .i64 at_ _) t.1), ?_, ?_, stLe rfl ?_⟩))
 all_goals (try ((repeat' (first | exact bC | apply aV | exact aN | exact aM | exact aI | exact bI | exact aQ | exact (rfl : sle2 .s0 .s0))); done))
 all_goals (subst hE)
 all_goals (try (first
   | (rw [em, em]; exact (zM hd hq hlr h1 (bF ‹_›) ha hat inv ‹_ = i› ‹_› ‹_› ‹t = _› ‹_› rfl ‹_›).2.2.1)
   | (rw [eok]; have q := zM hd hq hlr h1 (bF ‹_›) ha hat inv ‹_ = i› ‹_› ‹_› ‹t = _› ‹_› rfl ‹_›; exact ⟨q.1, q.2.1, q.2.2.2⟩)
   | exact ⟨_, _, rfl, rfl, aJV hlr h2 (aW ‹_›) ha hat inv ‹t = _› ‹_› rfl⟩))
 all_goals (clear inv eok em w1 w2; simp only [NatCast.natCast, Ac, aB, aE, aH, aG, aF, aK, aL, aA, Ab, Aa, SI.val, SB.val, Num.eta, Iv.eta] at *; (try simp only [wi64] at *); subst_vars; omega)
def aUD (E : Env) (d z Q : List Int) (at_ n : Int) : Int × Int × List Int → St := fun p => ⟨[(0, .ms 2 1 (.l 0) (.s n)), (1, .sli .u32 d), (2, .int .i64 (.s at_)), (6, .int .u32 (.s p.2.1)), (9, .sli .u32 d), (10, .int .i64 (.s (E.len d))), (11, .int .i64 (.s p.1))],
  [.dead, .ints true .u32 z, .ints true .u32 p.2.2, .ints true .u32 Q]⟩
set_option maxHeartbeats 2000000 in
theorem aSG (d z R Q : List Int) (at_ n : Int) (hd : Lb d) (hR : Lb R) (hlr : R.length < 134217728) (ha : 0 ≤ at_) (hat : at_ + d.length < R.length) (hn : at_ + d.length < n) (hn2 : n ≤ R.length) :
 eE Tryz.prog 226 [.ms 2 1 (.l 0) (.s n), .sli .u32 d, .int .i64 (.s at_)] [.dead, .ints true .u32 z, .ints true .u32 R, .ints true .u32 Q]
  (fun v h => ∃ r, v = .tup [] ∧ h = [.dead, .ints true .u32 z, .ints true .u32 r, .ints true .u32 Q] ∧ aLN R d at_.toNat r) := by
 obtain ⟨m, em⟩ : ∃ m : Int × Int × List Int → Nat, ∀ p, m p = (d.length - p.1).toNat := ⟨_, fun _ => rfl⟩
 obtain ⟨ok, eok⟩ : ∃ ok : Int × Int × List Int → Prop, ∀ p, ok p ↔ 0 ≤ p.1 ∧ p.1 ≤ d.length ∧ fQ R d at_.toNat p.2.2 p.1.toNat p.2.1 := ⟨_, fun _ => Bs⟩
 refine gK hG hm Tryz.func226 (by kernel_rfl) ?_;intro E hE lp hl;cbv;repeat' (first
   | (refine E_br hE ?_ ?_ <;> intro h <;> cbv)
   | (refine E_nm hE fun v hv => ?_; cbv)
   | (refine aT hE (fun b hb => ?_); cbv)
   | fail)
 refine E_loop hE hG hm hl (aUD E d z Q at_ n) m ok ⟨(0, 0, R), (eok _).2 ⟨by show (0 : Int) ≤ 0; omega, by show (0 : Int) ≤ d.length; omega, fQ.start d at_.toNat hR⟩, stLe rfl ?_⟩ ?_
 · (repeat' (first | exact bC | apply aV | exact aN | exact aM | exact aI | exact bI | exact aQ | exact (rfl : sle2 .s0 .s0)))
 rintro ⟨i, c, r⟩ hok;have h1 : 0 ≤ i := ((eok _).1 hok).1;have h2 : i ≤ d.length := ((eok _).1 hok).2.1;have inv : fQ R d at_.toNat r i.toNat c := ((eok _).1 hok).2.2;have lr := inv.lb;have hol := inv.len;have c0 := inv.c0;have c1 := inv.c1;have g1 : ∀ v, v = E.get d i → 0 ≤ v := by subst hE; intro v e; rw [e]; exact (hd.getD _).1
 have g2 : ∀ v, v = E.get d i → v < 4294967296 := by subst hE; intro v e; rw [e]; exact (hd.getD _).2
 clear hok;cbv;repeat' (first
   | (refine E_br hE ?_ ?_ <;> intro h <;> cbv)
   | (refine E_nm hE fun v hv => ?_; cbv)
   | (refine aT hE (fun b hb => ?_); cbv)
   | (refine E_cx hE (zZ _ _ _ ?_ ?_ ?_ ?_ ?_ ?_) ?_; all_goals (first | (intro t ht; cbv) | (((try simp only [SI.val]); first | omega | exact g1 _ ‹_› | exact g2 _ ‹_› | (subst hE; first | exact (lr.getD _).1 | exact (lr.getD _).2)))))
   | fail)
 all_goals (try (refine ⟨(E.bin .add .i64 i 1, v, E.set r (E.bin .add .i64 at_ _) t.1), ?_, ?_, stLe rfl ?_⟩))
 all_goals (try ((repeat' (first | exact bC | apply aV | exact aN | exact aM | exact aI | exact bI | exact aQ | exact (rfl : sle2 .s0 .s0))); done))
 all_goals (subst hE)
 all_goals (try (first
   | (rw [em, em]; exact (yV hd hlr h1 (bF ‹_›) ha hat inv ‹_ = i› ‹_› ‹t = _› ‹_› rfl).2.2.1)
   | (rw [eok]; have q := yV hd hlr h1 (bF ‹_›) ha hat inv ‹_ = i› ‹_› ‹t = _› ‹_› rfl; exact ⟨q.1, q.2.1, q.2.2.2⟩)
   | exact ⟨_, rfl, rfl, aJL hlr h2 (aW ‹_›) ha hat inv rfl⟩))
 all_goals (clear inv eok em g1 g2; simp only [NatCast.natCast, Ac, aB, aE, aH, aG, aF, aK, aL, aA, Ab, Aa, SI.val, SB.val, Num.eta, Iv.eta] at *; (try simp only [wi64] at *); subst_vars; omega)
 all_goals trace_state
set_option maxHeartbeats 1000000 in
theorem aTV (L : List Int) (n : Int) (hL : Lb L) (hl : L.length < 268435456) (hn : n = L.length) :
 eE Tryz.prog 188 [.ms 0 1 (.l 0) (.s n)] [.ints true .u32 L] (fun v h => ∃ k : Int, v = .ms 0 1 (.l 0) (.s k) ∧ h = [.ints true .u32 L] ∧ 0 ≤ k ∧ k ≤ L.length ∧ L.take k.toNat = lim (lv L)) := by
 obtain ⟨m, em⟩ : ∃ m : Int → Nat, ∀ p, m p = p.toNat := ⟨_, fun _ => rfl⟩
 obtain ⟨ok, eok⟩ : ∃ ok : Int → Prop, ∀ p, ok p ↔ 0 ≤ p ∧ p ≤ L.length ∧ lv (L.take p.toNat) = lv L := ⟨_, fun _ => Bs⟩
 have s0 : 0 ≤ n ∧ n ≤ L.length ∧ lv (L.take n.toNat) = lv L := ⟨by omega, by omega, by rw [hn, Ak, List.take_length]⟩
 refine gK hG hm Tryz.func188 (by kernel_rfl) ?_;intro E hE lp hl';cbv;refine E_loop hE hG hm hl' (fun p : Int => (⟨[(0, .ms 0 1 (.l 0) (.s p)), (2, .s0)], [.ints true .u32 L]⟩ : St)) m ok ⟨n, (eok _).2 s0, stLe rfl ?_⟩ ?_
 · (repeat' (first | exact bC | apply aV | exact aN | exact aM | exact aI | exact bI | exact aQ | exact (rfl : sle2 .s0 .s0)))
 intro k hok;have h1 : 0 ≤ k := ((eok _).1 hok).1;have h2 : k ≤ L.length := ((eok _).1 hok).2.1;have h3 : lv (L.take k.toNat) = lv L := ((eok _).1 hok).2.2;have next : ∀ j : Int, 0 < k → j = aA .sub .i64 k 1 → L.getD j.toNat 0 = 0 → 0 ≤ j ∧ j ≤ L.length ∧ j.toNat < k.toNat ∧ lv (L.take j.toNat) = lv L := by
  intro j h0 hj hz;have hj' : j = k - 1 := by rw [hj]; exact wi64_id (by omega) (by omega)
  refine ⟨by omega, by omega, by omega, ?_⟩;rw [show j.toNat = k.toNat - 1 by omega] at hz ⊢;rw [lY (by omega) (by omega) hz, h3]
 have fin : (k = 0 ∨ L.getD (aA .sub .i64 k 1).toNat 0 ≠ 0) → L.take k.toNat = lim (lv L) := by
  intro h;refine cut_end hL (by omega) ?_ h3;rcases h with h | h
  · exact .inl (by omega)
  · rcases Bm 0 k with h0 | h0
    · have e : aA .sub .i64 k 1 = k - 1 := wi64_id (by omega) (by omega);rw [e, show (k - 1).toNat = k.toNat - 1 by omega] at h;exact .inr h
    · exact .inl (by omega)
 clear hok;cbv;repeat' (first
   | (refine E_br hE ?_ ?_ <;> intro h <;> cbv)
   | (refine E_nm hE fun v hv => ?_; cbv)
   | (refine aT hE (fun b hb => ?_); cbv)
   | fail)
 all_goals (try (refine ⟨E.bin .sub .i64 k 1, ?_, ?_, stLe rfl ?_⟩))
 all_goals (try ((repeat' (first | exact bC | apply aV | exact aN | exact aM | exact aI | exact bI | exact aQ | exact (rfl : sle2 .s0 .s0))); done))
 all_goals (subst hE)
 all_goals (try (first
   | (rw [em, em]; exact (next _ (cU ‹_›) rfl (cA ‹_›)).2.2.1)
   | (rw [eok]; have q := next _ (cU ‹_›) rfl (cA ‹_›); exact ⟨q.1, q.2.1, q.2.2.2⟩)
   | exact ⟨k, rfl, rfl, h1, h2, fin (.inr (eql_f ‹_›))⟩
   | exact ⟨k, rfl, rfl, h1, h2, fin (.inl (by have := dB ‹_›; omega))⟩))
 all_goals (clear next fin eok em s0; simp only [NatCast.natCast, Ac, aB, aE, aH, aG, aF, aK, aL, aA, Ab, Aa, SI.val, SB.val, Num.eta, Iv.eta] at *; (try simp only [wi64] at *); omega)
theorem aQD (a : List Int) (ha : 0 < a.length) (hl : a.length ≤ 268435456) :
 eE Tryz.prog 189 [.sli .u32 a] [] (fun v h => ∃ L k, v = .ms 0 1 (.l 0) (.s k) ∧ h = [.ints true .u32 L] ∧ k = (a.length : Int) ∧ L = a) := by
 refine lF (gK (K := fun v h => ∃ L k, v = .ms 1 1 (.l 0) (.s k) ∧ h = [.dead, .ints true .u32 L] ∧ k = (a.length : Int) ∧ L = a) hG hm Tryz.func189 (by kernel_rfl) ?_) ?_
 · intro E hE lp hl';cbv;repeat' (first
     | (refine E_br hE ?_ ?_ <;> intro h <;> cbv)
     | (refine E_nm hE fun v hv => ?_; cbv)
     | (refine aT hE (fun b hb => ?_); cbv)
     | fail)
   all_goals (subst hE)
   · exfalso; have := hb h; simp only [aB] at this; omega
   · exact ⟨_, _, rfl, rfl, rfl, rfl⟩
   · have := bQ h; simp only [aB] at this; omega
 · rintro v h ⟨L, k, rfl, rfl, hk, hL⟩;exact ⟨[1], .ms 0 1 (.l 0) (.s k), [.ints true .u32 L], ⟨⟨rfl, trivial⟩, rfl, rfl, Nat.zero_le _, trivial, dH rfl rfl, rfl⟩, L, k, rfl, rfl, hk, hL⟩
set_option maxHeartbeats 1000000 in
theorem aTU (a : List Int) (n : Int) (ha : Lb a) (hla : a.length < 67108864) (ha0 : 0 < lv a) (hn0 : 0 ≤ n) (hn1 : n ≤ 16777216) :
 eE Tryz.prog 136 [.sli .u32 a, .int .i64 (.s n)] [] (fun v h => ∃ L k, v = .ms 0 1 (.l 0) (.s k) ∧ h = [.ints true .u32 L] ∧ 0 ≤ k ∧ k ≤ L.length ∧ L.take k.toNat = lim (lv a * 2 ^ n.toNat) ∧ L.length ≤ 134217728) := by
 generalize hr : lim (lv a * 2 ^ n.toNat) = r;have hlx := aO ha;have hx := lim_lb (lv a);have vx := aJ (lv a);obtain ⟨x, ex⟩ : ∃ x, lim (lv a) = x := ⟨_, rfl⟩
 rw [ex] at hlx hx vx;have hx0 : 0 < x.length := by
  rcases Ao x.length with h | h
  · rw [List.length_eq_zero_iff.1 h] at vx; simp only [lv] at vx; omega
  · exact h
 obtain ⟨m, em⟩ : ∃ m : Int × List Int → Nat, ∀ p, m p = (x.length - p.1).toNat := ⟨_, fun _ => rfl⟩
 obtain ⟨ok, eok⟩ : ∃ ok : Int × List Int → Prop, ∀ p, ok p ↔ 0 ≤ p.1 ∧ p.1 ≤ x.length ∧ gD x p.2 (n / 32).toNat (n % 32).toNat p.1.toNat := ⟨_, fun _ => Bs⟩
 have eN : ∀ l : Int, 1 ≤ n → n ≤ 16777216 → l = aA .quo .i64 n 32 → IntKind.i64.wrap (IntKind.i64.wrap ((x.length : Int) + l) + 1) = x.length + n / 32 + 1 := by
  intro l n1 n2 el;have : l = n / 32 := by rw [el]; exact quo32 (by omega) (by omega)
  rw [this, wi64_id (n := (x.length : Int) + n / 32) (by omega) (by omega), wi64_id (by omega) (by omega)]
 refine gK hG hm Tryz.func136 (by kernel_rfl) ?_;intro E hE lp hl;cbv
 (apply E_callX hE (c_cut a ha (by omega)); (case hf => rfl); (case hc => (cbv <;> trivial)); (case hle => exact ⟨aN, trivial⟩); intro x' hx'; cbv)
 rw [hx'.trans ex];clear hx' x';refine E_br hE (fun h => ?_) (fun h => ?_)
 · have e : x = r := by subst hE; have := bF h; rw [← hr, show n.toNat = 0 by omega, Ct, By, ex]
   cbv;refine gV hE (aQD x hx0 (by omega)) ?_;rintro v h1 ⟨L, k, rfl, rfl, hk, hL⟩;cbv;exact ⟨L, k, rfl, rfl, by rw [hk]; exact Cv _, by rw [hk, hL]; exact Bc _, by rw [hk, hL, Ak, List.take_length]; exact e, by rw [hL]; omega⟩
 have n1 : 1 ≤ n := by subst hE; have := aW h; omega
 cbv;repeat' (first
   | (refine E_br hE ?_ ?_ <;> intro h <;> cbv)
   | (refine E_nm hE fun v hv => ?_; cbv)
   | (refine aT hE (fun b hb => ?_); cbv)
   | fail)
 · exfalso; subst hE; have := cU ‹_›; omega
 · exfalso;have e0 : x.length = 0 := by subst hE; have := cA h; simp only [aB] at this; omega
   omega
 all_goals (have n2 : n ≤ 16777216 := (by subst hE; have := dB ‹(aB Tryz.prog).cmp .gtr n 16777216 = false›; omega))
 all_goals (try (exfalso; have := eN _ n1 n2 (by subst hE; assumption); subst hE; simp only [NatCast.natCast, Ac, aB, aE, aH, aG, aF, aK, aL, aA, Ab, Aa, SI.val, SB.val, Num.eta, Iv.eta] at *; rw [this] at *; omega))
 rename_i l el _ _;replace eN := eN l n1 n2 (by subst hE; exact el);simp only [NatCast.natCast, Ac] at eN;have er := hv;have l1 : l = n / 32 := by subst hE; rw [el]; exact quo32 (by omega) (by omega)
 have r1 : 0 ≤ v := by
  have : v = n % 32 := by subst hE; rw [hv]; exact qW (by omega)
  omega
 clear hv;refine E_loop hE hG hm hl (shlS E x l v) m ok ⟨(0, E.rep (E.bin .add .i64 (E.bin .add .i64 (E.len x) l) 1)), (eok _).2 ?_, stLe rfl ?_⟩ ?_
 · refine ⟨by show (0 : Int) ≤ 0; omega, by show (0 : Int) ≤ x.length; omega, ?_⟩;have := gD.start x (n / 32).toNat (n % 32).toNat;subst hE; simp only [NatCast.natCast, Ac, aB, aE, aH, aG, aF, aK, aL, aA, Ab, Aa, SI.val, SB.val, Num.eta, Iv.eta] at *; rw [eN, show ((x.length : Int) + n / 32 + 1).toNat = x.length + (n / 32).toNat + 1 by omega];exact this
 · (repeat' (first | exact bC | apply aV | exact aN | exact aM | exact aI | exact bI | exact aQ | exact (rfl : sle2 .s0 .s0)))
 rintro ⟨i, out⟩ hok;have h1 : 0 ≤ i := ((eok _).1 hok).1;have h2 : i ≤ x.length := ((eok _).1 hok).2.1;have inv : gD x out (n / 32).toNat (n % 32).toNat i.toNat := ((eok _).1 hok).2.2;have hol := inv.len;have fin : ¬ i < x.length → lim (lv out) = r := by
  intro h;have inv' := inv;rw [show i.toNat = x.length by omega] at inv';rw [inv'.stop, ← hr, vx, show 32 * (n / 32).toNat + (n % 32).toNat = n.toNat by omega]
 have lo := inv.lb;have hol2 : out.length ≤ 134217728 := by omega
 have eNN : E.bin .add .i64 (E.bin .add .i64 (E.len x) l) 1 = (out.length : Int) := by
  subst hE; show IntKind.i64.wrap (IntKind.i64.wrap ((x.length : Int) + l) + 1) = _; rw [eN]; omega
 clear hok hr ex;cbv;repeat' (first
   | (refine E_br hE ?_ ?_ <;> intro h <;> cbv)
   | (refine E_nm hE fun v hv => ?_; cbv)
   | (refine aT hE (fun b hb => ?_); cbv)
   | fail)
 all_goals (try (
   refine gV hE (aTV out (E.bin .add .i64 (E.bin .add .i64 (E.len x) l) 1) lo (by omega) eNN) ?_;rintro v h1 ⟨k, rfl, rfl, k1, k2, k3⟩;cbv;exact ⟨out, k, rfl, rfl, k1, k2, k3.trans (fin (by subst hE; exact aW ‹_›)), hol2⟩))
 all_goals (try refine ⟨(E.bin .add .i64 i 1, _), ?_, ?_, stLe rfl ?_⟩)
 all_goals (try ((repeat' (first | exact bC | apply aV | exact aN | exact aM | exact aI | exact bI | exact aQ | exact (rfl : sle2 .s0 .s0))); done))
 all_goals (subst hE)
 all_goals (try (first | (rw [em, em]; exact (qN hx (by omega) n1 n2 h1 (bF ‹_›) inv ‹_› el er ‹_› ‹_› rfl).2.2.1) | (rw [eok]; have q := qN hx (by omega) n1 n2 h1 (bF ‹_›) inv ‹_› el er ‹_› ‹_› rfl; exact ⟨q.1, q.2.1, q.2.2.2⟩)))
 all_goals (clear inv eok em fin er el; simp only [NatCast.natCast, Ac, aB, aE, aH, aG, aF, aK, aL, aA, Ab, Aa, SI.val, SB.val, Num.eta, Iv.eta] at *; (try rw [eN] at *); clear eN; (try simp only [wi64] at *); omega)
end
section
open Go
theorem nT {n k : Nat} (h : 0 < k) (hk : 4294967296 ^ (k - 1) ≤ n) : k ≤ (lim n).length := by
 have := xG hk;omega
theorem iX {a : List Int} (h : Lb a) (hne : a ≠ []) (h0 : a.getD (a.length - 1) 0 ≠ 0) : 4294967296 ^ (a.length - 1) ≤ lv a := by
 have hl : 0 < a.length := List.length_pos_iff.2 hne;have e := eH (a := a) (i := a.length - 1) (by omega);rw [show a.length - 1 + 1 = a.length by omega, cL] at e;have hg := h.getD (a.length - 1);have : 4294967296 ^ (a.length - 1) * 1 ≤ 4294967296 ^ (a.length - 1) * (a.getD (a.length - 1) 0).toNat := As _ (by omega);omega
theorem vE {y : List Int} {by_ : Int} (h : Lb y) (hne : y ≠ []) (h0 : y.getD (y.length - 1) 0 ≠ 0) (e : by_ = 32 - blen (y.getD (y.length - 1) 0)) :
 0 ≤ by_ ∧ by_ < 32 ∧ (lim (lv y * 2 ^ by_.toNat)).length = y.length := by
 have hl : 0 < y.length := List.length_pos_iff.2 hne;have hg := h.getD (y.length - 1);have b1 := cQ 32 (x := y.getD (y.length - 1) 0) (by omega);obtain ⟨n, q1, q2, q3⟩ := fC (x := y.getD (y.length - 1) 0) (by omega);have hb : 0 ≤ by_ ∧ by_ < 32 := by omega
 refine ⟨hb.1, hb.2, ?_⟩;have hL := vP h hne h0;have hN : blen (lv y : Int) = ((32 * (y.length - 1) + n : Nat) : Int) + 1 := by rw [hL, q1]; omega
 obtain ⟨k1, k2⟩ := (lM _).1 hN;have p : (4294967296 : Nat) ^ y.length = 2 ^ (32 * (y.length - 1) + n + 1) * 2 ^ by_.toNat := by
  rw [← Ap, show (4294967296 : Nat) = 2 ^ 32 by rfl, ← Cj];congr 1;omega
 apply Nat.le_antisymm
 · apply lim_length_le;rw [p];exact Cg k2 (Bf _)
 · apply nT hl;have := iX h hne h0;have h2 : lv y * 1 ≤ lv y * 2 ^ by_.toNat := As _ (Bf _);omega
theorem aKD {x y : List Int} {k : Nat} (hx : Lb x) (hy : Lb y) (hxn : x ≠ []) (hyn : y ≠ []) (hx0 : x.getD (x.length - 1) 0 ≠ 0) (hy0 : y.getD (y.length - 1) 0 ≠ 0) (hle : y.length ≤ x.length) :
 cP (lv x * 2 ^ k) (lv y * 2 ^ k) y.length (lim (lv x * 2 ^ k) ++ [0, 0]) (List.replicate (x.length - y.length + 1) 0) (x.length - y.length + 1) := by
 have hyl : 0 < y.length := List.length_pos_iff.2 hyn;have hxl : 0 < x.length := List.length_pos_iff.2 hxn;have g1 := iX hx hxn hx0;have g2 := iX hy hyn hy0;have g3 := bP hx;have e0 : lv (lim (lv x * 2 ^ k) ++ [0, 0]) = lv x * 2 ^ k := by
  rw [iC, aJ];simp [lv]
 refine ⟨?_, (lim_lb _).append (Lb.cons (by omega) (by omega) (Lb.cons (by omega) (by omega) Lb.nil)), Lb.replicate _, fun j _ => cM _ _, ?_, ?_⟩
 · have : x.length ≤ (lim (lv x * 2 ^ k)).length := by
    apply nT hxl;have : lv x * 1 ≤ lv x * 2 ^ k := As _ (Bf _);omega
   simp only [List.length_replicate, List.length_append, List.length_cons, List.length_nil];omega
 · rw [dD, e0]; omega
 · rw [e0];have e1 : lv y * 2 ^ k * 4294967296 ^ (x.length - y.length + 1) = 2 ^ k * (lv y * 4294967296 ^ (x.length - y.length + 1)) := by grind
   have e2 : 4294967296 ^ (y.length - 1) * 4294967296 ^ (x.length - y.length + 1) = 4294967296 ^ x.length := by
    rw [← Ap]; congr 1; omega
   have e3 : 4294967296 ^ (y.length - 1) * 4294967296 ^ (x.length - y.length + 1) ≤ lv y * 4294967296 ^ (x.length - y.length + 1) := Ai _ g2;rw [e1, Ax (lv x)];exact Nat.mul_lt_mul_of_pos_left (by omega) (Bf _)
section
variable {A : Nat} {d R Q : List Int} {at_ top i i' : Int}
theorem aSJ (hl : Q.length < 134217728) (h1 : 0 ≤ i) (h2 : i < Q.length) (ei : i' = i) (ea : at_ = aA .sub .i64 (aA .sub .i64 Q.length 1) i') : at_ = Q.length - 1 - i := by
 subst ei;rw [ea];show IntKind.i64.wrap (IntKind.i64.wrap ((Q.length : Int) - 1) - i') = _;rw [wi64_id (n := (Q.length : Int) - 1) (by omega) (by omega), wi64_id (by omega) (by omega)]
theorem aKA (hi : cP A (lv d) d.length R Q (at_.toNat + 1)) (hd : Lb d) (hn : 2 ≤ d.length) (h0 : d.getD (d.length - 1) 0 ≠ 0) (hl : R.length < 134217728) (ha : 0 ≤ at_) (hat : at_ < Q.length)
 (et : top = aA .add .i64 at_ d.length) :
 dG (R.getD top.toNat 0) (R.getD (aA .sub .i64 top 1).toNat 0) (R.getD (aA .sub .i64 top 2).toNat 0) (d.getD (aA .sub .i64 d.length 1).toNat 0) (d.getD (aA .sub .i64 d.length 2).toNat 0) ∧
 (eC (R.getD top.toNat 0) (R.getD (aA .sub .i64 top 1).toNat 0) (R.getD (aA .sub .i64 top 2).toNat 0) (d.getD (aA .sub .i64 d.length 1).toNat 0) (d.getD (aA .sub .i64 d.length 2).toNat 0)
   = eC (R.getD (at_.toNat + d.length) 0) (R.getD (at_.toNat + d.length - 1) 0) (R.getD (at_.toNat + d.length - 2) 0) (d.getD (d.length - 1) 0) (d.getD (d.length - 2) 0)) := by
 have hr := hi.lenr;have et' : top = at_ + d.length := by rw [et]; exact wi64_id (by omega) (by omega)
 have e1 : (aA .sub .i64 top 1).toNat = at_.toNat + d.length - 1 := by
  have : aA .sub .i64 top 1 = top - 1 := wi64_id (by omega) (by omega);omega
 have e2 : (aA .sub .i64 top 2).toNat = at_.toNat + d.length - 2 := by
  have : aA .sub .i64 top 2 = top - 2 := wi64_id (by omega) (by omega);omega
 have e3 : (aA .sub .i64 d.length 1).toNat = d.length - 1 := by
  have : aA .sub .i64 (d.length : Int) 1 = d.length - 1 := wi64_id (by omega) (by omega);omega
 have e4 : (aA .sub .i64 d.length 2).toNat = d.length - 2 := by
  have : aA .sub .i64 (d.length : Int) 2 = d.length - 2 := wi64_id (by omega) (by omega);omega
 rw [e1, e2, e3, e4, show top.toNat = at_.toNat + d.length by omega];exact ⟨hi.in_ hd hn rfl (by omega) h0, rfl⟩
theorem aNQ {g : Int} {r : List Int} (hi : cP A (lv d) d.length R Q (at_.toNat + 1)) (hd : Lb d) (hn : 2 ≤ d.length) (h0 : d.getD (d.length - 1) 0 ≠ 0) (ha : 0 ≤ at_) (hat : at_ < Q.length)
 (eg : g = eC (R.getD (at_.toNat + d.length) 0) (R.getD (at_.toNat + d.length - 1) 0) (R.getD (at_.toNat + d.length - 2) 0) (d.getD (d.length - 1) 0) (d.getD (d.length - 2) 0))
 (hr : zK R d g at_.toNat r false) : cP A (lv d) d.length r (Q.set at_.toNat g) at_.toNat := by
 have ok := rP (hi.in_ hd hn rfl (by omega) h0);rw [← eg] at ok;have nr := hi.near hd hn rfl (by omega) h0 ok;have g2 := iX hd (by intro e; rw [e] at hn; simp at hn) h0;have hD : 0 < lv d := Av (Bg (by omega)) g2;have v := hr.val;have q0 := ok.q0;have q1 := ok.q1;exact hi.same (by omega) hD hr.len hr.lb ⟨q0, by omega⟩ nr.1 (by simpa using v)
theorem aMU {g g' : Int} {r1 r : List Int} (hi : cP A (lv d) d.length R Q (at_.toNat + 1)) (hd : Lb d) (hn : 2 ≤ d.length) (h0 : d.getD (d.length - 1) 0 ≠ 0) (ha : 0 ≤ at_) (hat : at_ < Q.length)
 (eg : g = eC (R.getD (at_.toNat + d.length) 0) (R.getD (at_.toNat + d.length - 1) 0) (R.getD (at_.toNat + d.length - 2) 0) (d.getD (d.length - 1) 0) (d.getD (d.length - 2) 0))
 (hr1 : zK R d g at_.toNat r1 true) (hr : aLN r1 d at_.toNat r) (eg' : g' = aA .sub .u32 g 1) : cP A (lv d) d.length r (Q.set at_.toNat g') at_.toNat := by
 have ok := rP (hi.in_ hd hn rfl (by omega) h0);rw [← eg] at ok;have nr := hi.near hd hn rfl (by omega) h0 ok;have g2 := iX hd (by intro e; rw [e] at hn; simp at hn) h0;have hD : 0 < lv d := Av (Bg (by omega)) g2;have v1 := hr1.val;obtain ⟨c, c0, c1, v⟩ := hr.val;have q0 := ok.q0;have q1 := ok.q1;obtain ⟨p1, p2⟩ := hi.less (by omega) hD (bP hd) (hr.len.trans hr1.len) hr1.lb hr.lb ⟨q0, by omega⟩ nr.2 (fun j hj => (hr.same j hj).trans (hr1.same j hj)) hr1.same ⟨c0, c1⟩ (by simpa using v1) v;have e : g' = g - 1 := by rw [eg']; show IntKind.u32.wrap (g - 1) = _; rw [wu32]; omega
 rw [e]; exact p2
end
theorem xH {R : List Int} {n : Nat} (h : n ≤ R.length) (hlt : lv R < 4294967296 ^ n) : lv (R.take n) = lv R := by
 have e := dE R n h;rcases Ao (lv (R.drop n)) with h0 | h0
 · rw [h0] at e; omega
 · have : 4294967296 ^ n * 1 ≤ 4294967296 ^ n * lv (R.drop n) := As _ h0;omega
theorem aNL {x y R Q : List Int} {k m : Nat} (hy : Lb y) (hyn : y ≠ []) (hy0 : 0 < lv y) (hm : y.length + 1 ≤ m) (hmR : m ≤ R.length) (hlen : (lim (lv y * 2 ^ k)).length = y.length)
 (hi : cP (lv x * 2 ^ k) (lv y * 2 ^ k) y.length R Q 0) : lv Q = lv x / lv y ∧ lv (R.take m) / 2 ^ k = lv x % lv y := by
 obtain ⟨s1, s2⟩ := hi.stop;have p : 0 < 2 ^ k := Bf k;have hlt : lv R < 4294967296 ^ m := by
  have h1 : lv y * 2 ^ k < 4294967296 ^ y.length := by
   have := bP (lim_lb (lv y * 2 ^ k));rwa [aJ, hlen] at this
  have h2 : (4294967296 : Nat) ^ y.length ≤ 4294967296 ^ m := Ag (by omega) (by omega);have h3 : lv R < lv y * 2 ^ k := by rw [s2]; exact Cz _ (Dw hy0 p)
  omega
 rw [xH hmR hlt, s1, s2, Nat.mul_div_mul_right _ _ p, Nat.mul_mod_mul_right, Nat.mul_div_cancel _ p];exact ⟨rfl, rfl⟩
end
section
open Go Go.Proofs
attribute [local irreducible] Lb
theorem wA {y : List Int} (h : 1 ≤ y.length) (h' : y.length < 67108864) : aA .sub .i64 (y.length : Int) 1 = y.length - 1 := wi64_id (by omega) (by omega)
def divS (w : Int) (d : List Int) (n1 nq : Int) : Int × List Int × List Int → St := fun p => ⟨[(9, .int .i64 (.s w)), (10, .sli .u32 d), (11, .ms 2 1 (.l 0) (.s n1)), (12, .ms 3 1 (.l 0) (.s nq)), (73, .int .i64 (.s nq)), (74, .int .i64 (.s p.1))],
  [.dead, .ints true .u32 [0, 0], .ints true .u32 p.2.1, .ints true .u32 p.2.2]⟩
structure aGQ (A : Nat) (d : List Int) (qn rn : Nat) (i : Int) (R Q : List Int) : Prop where
 i0 : 0 ≤ i
 i1 : i ≤ qn
 inv : cP A (lv d) d.length R Q ((qn : Int) - i).toNat
 ql : Q.length = qn
 rl : R.length = rn
set_option maxHeartbeats 4000000 in
theorem oZ (a b : List Int) (ha : Lb a) (hb : Lb b) (hla : a.length < 33554432) (hlb : b.length < 33554432) : ∃ t : List Int × List Int × Bool, t = (if lv b = 0 then ([], [], false) else (lim (lv a / lv b), lim (lv a % lv b), true)) ∧
 aC Tryz.prog 191 [.sli .u32 a, .sli .u32 b] (.tup [.sli .u32 t.1, .sli .u32 t.2.1, .bool (.s t.2.2)]) := by
 refine ⟨_, rfl, ?_⟩;generalize hr : (if lv b = 0 then ([], [], false) else (lim (lv a / lv b), lim (lv a % lv b), true)) = r;have hlx := aO ha;have hx := lim_lb (lv a);have vx := aJ (lv a);have lx := (kT (lv a)).last;have hly := aO hb;have hy := lim_lb (lv b);have vy := aJ (lv b);have ly := (kT (lv b)).last;obtain ⟨x, ex⟩ : ∃ x, lim (lv a) = x := ⟨_, rfl⟩
 obtain ⟨y, ey⟩ : ∃ y, lim (lv b) = y := ⟨_, rfl⟩
 rw [ex] at hlx hx vx lx;rw [ey] at hly hy vy ly;have y0 : y.length = 0 ↔ lv b = 0 := by
  rw [← ey, List.length_eq_zero_iff, fH]
 obtain ⟨m, em⟩ : ∃ m : Int × List Int × List Int → Nat, ∀ p, m p = (x.length + 1 - p.1).toNat := ⟨_, fun _ => rfl⟩
 obtain ⟨ok, eok⟩ : ∃ ok : List Int → Int → Nat → Nat → Int × List Int × List Int → Prop, ∀ d w qn rn p, ok d w qn rn p ↔ aGQ (lv x * 2 ^ w.toNat) d qn rn p.1 p.2.1 p.2.2 := ⟨_, fun _ _ _ _ _ => Bs⟩
 refine callsA_o Tryz.func191 fun E hE lp hl => ?_
 cbv
 (apply E_callX hE (c_cut a ha (by omega)); (case hf => rfl); (case hc => (cbv <;> trivial)); (case hle => exact ⟨aN, trivial⟩); intro x' hx'; cbv)
 (apply E_callX hE (c_cut b hb (by omega)); (case hf => rfl); (case hc => (cbv <;> trivial)); (case hle => exact ⟨aN, trivial⟩); intro y' hy'; cbv)
 rw [hx'.trans ex, hy'.trans ey];clear hx' hy' x' y';refine E_br hE (fun h => ?_) (fun h => ?_)
 · have e : lv b = 0 := y0.1 (by subst hE; have := cA h; simp only [aB] at this; omega);cbv;rw [← hr, if_pos e];exact ⟨rfl, rfl, rfl, trivial⟩
 have hb0 : 0 < lv b := by
  rcases Ao (lv b) with e | e
  · exfalso; have := y0.2 e; subst hE; have := eql_f h; simp only [aB] at this; omega
  · exact e
 have ny : y ≠ [] := by intro e; rw [e] at vy; simp only [lv] at vy; omega
 rw [if_neg (by omega)] at hr
 (apply E_callX hE (c_natCmp x y hx hy (by omega) (by omega)); (case hf => rfl); (case hc => (cbv <;> trivial)); (case hle => exact ⟨aN, aN, trivial⟩); intro t ht; cbv)
 rw [vx, vy] at ht;refine E_br hE (fun h => ?_) (fun h => ?_)
 · have hlt : lv a < lv b := by
    subst hE; have := bF h;rw [ht] at this;rcases Ar (lv a) (lv b) with h1 | h1
    · exact h1
    · rw [if_neg (by omega)] at this; split at this <;> omega
   cbv;repeat' (first
     | (refine E_br hE ?_ ?_ <;> intro h <;> cbv)
     | (refine E_nm hE fun v hv => ?_; cbv)
     | (refine aT hE (fun b hb => ?_); cbv)
     | (refine E_cx hE (tU _ ?_) ?_; all_goals (first | (intro t ht; cbv) | (omega)))
     | fail)
   rw [← hr, Ca hlt, Dh hlt, ex];exact ⟨rfl, ‹_›, rfl, trivial⟩
 have hge : lv b ≤ lv a := by
  subst hE; have := aW h;rw [ht] at this;rcases Ar (lv a) (lv b) with h1 | h1
  · rw [if_pos h1] at this; omega
  · exact h1
 refine E_br hE (fun h => ?_) (fun h => ?_)
 · have y1 : y.length = 1 := by subst hE; have := cA h; simp only [aB] at this; omega
   have e0 : y = [y.getD 0 0] := by
    obtain ⟨z, hz⟩ := List.length_eq_one_iff.1 y1;rw [hz]; rfl
   have g0 := hy.getD 0;have v0 : lv b = (y.getD 0 0).toNat := by
    rw [← vy]
    conv => lhs; rw [e0]
    simp only [lv]; omega
   have p0 : 0 < y.getD 0 0 := by omega
   cbv;repeat' (first
     | (refine E_br hE ?_ ?_ <;> intro h <;> cbv)
     | (refine E_nm hE fun v hv => ?_; cbv)
     | (refine aT hE (fun b hb => ?_); cbv)
     | (refine E_cx hE (aPV x _ hx ?_ ?_ ?_) ?_; all_goals (first | (intro t ht; cbv) | ((subst hE; first | omega | exact p0 | exact g0.2))))
     | fail)
   · subst hE;have ht' : t = (lim (lv x / (y.getD 0 0).toNat), lim (lv x % (y.getD 0 0).toNat)) := ht;rw [ht', ← hr, vx, ← v0]; exact ⟨rfl, rfl, rfl, trivial⟩
   · subst hE; have := aW h; simp only [aB] at this; omega
 have y2 : 2 ≤ y.length := by
  have h1 : 0 < y.length := List.length_pos_iff.2 ny;subst hE; have := eql_f h; simp only [aB] at this; omega
 have nx : x ≠ [] := by intro e; rw [e] at vx; simp only [lv] at vx; omega
 have xy : y.length ≤ x.length := by
  rw [← ex, ← ey];rcases Ar (lim (lv a)).length (lim (lv b)).length with h1 | h1
  · have := jD h1; omega
  · exact h1
 have gl := hy.getD (y.length - 1);have g1 : E.get y (E.bin .sub .i64 (E.len y) 1) = y.getD (y.length - 1) 0 := by
  subst hE;show y.getD (aA .sub .i64 (y.length : Int) 1).toNat 0 = _;rw [wA (by omega) (by omega), show ((y.length : Int) - 1).toNat = y.length - 1 by omega]
 cbv;refine E_br hE (fun h => ?_) (fun h => ?_);rotate_left
 · exfalso; subst hE; have := bQ h; change ¬ 0 ≤ aA .sub .i64 (y.length : Int) 1 at this; rw [wA (by omega) (by omega)] at this; omega
 cbv;refine E_br hE (fun h => ?_) (fun h => ?_);rotate_left
 · exfalso; subst hE; have := aW h; change ¬ aA .sub .i64 (y.length : Int) 1 < (y.length : Int) at this; rw [wA (by omega) (by omega)] at this; omega
 cbv
 (apply E_callX hE (aST (E.get y (E.bin .sub .i64 (E.len y) 1)) (by rw [g1]; exact gl.1) (by rw [g1]; exact gl.2)); (case hf => rfl); (case hc => (cbv <;> trivial)); (case hle => exact ⟨aM, trivial⟩); intro t1 ht1; cbv)
 refine E_nm hE fun w hw => ?_
 have ew : w = 32 - blen (y.getD (y.length - 1) 0) := by rw [hw, ht1, g1]
 have w0 := (vE hy ny (ly ny) ew).1;have w1 := (vE hy ny (ly ny) ew).2.1;have dl := (vE hy ny (ly ny) ew).2.2;clear hw ew ht1;cbv
 (apply E_callX hE (jM y w hy (by omega)); (case hf => rfl); (case hc => (cbv <;> trivial)); (case hle => exact ⟨aN, aM, trivial⟩); intro d hd; cbv)
 have ed : d = lim (lv y * 2 ^ w.toNat) := by
  rw [hd];split
  · rw [show w.toNat = 0 by omega, Ct, By]
  · rw [if_neg (by omega)]
 have ld : Lb d := ed ▸ lim_lb _;have vd : lv d = lv y * 2 ^ w.toNat := by rw [ed, aJ]
 have nd : d.length = y.length := by rw [ed]; exact dl
 have d0 : d.getD (d.length - 1) 0 ≠ 0 := by
  rw [ed];refine (kT _).last ?_;intro e; rw [e] at dl; simp only [List.length_nil] at dl; omega
 have ds := aKD (k := w.toNat) hx hy nx ny (lx nx) (ly ny) xy;clear lx ly hd;refine gV hE (aTU x w hx (by omega) (by omega) w0 (by omega)) ?_;intro v h1 hv;obtain ⟨L, k, hv⟩ := hv;rw [hv.1, hv.2.1];have k0 := hv.2.2.1;have k1 := hv.2.2.2.1;have k2 := hv.2.2.2.2.1;have k3 := hv.2.2.2.2.2;clear hv h1 v;have kl : k.toNat = (lim (lv x * 2 ^ w.toNat)).length := by
  have := congrArg List.length k2;rw [List.length_take] at this; omega
 have kx : (x.length : Int) + 1 ≤ k + 2 := by
  have := ds.lenr;simp only [List.length_replicate, List.length_append, List.length_cons, List.length_nil] at this;omega
 have kR : k ≤ 134217728 := by omega
 have kb : (lim (lv x * 2 ^ w.toNat)).length ≤ x.length + 1 := by
  apply lim_length_le;have h1 := bP hx;have h2 : 2 ^ w.toNat ≤ 4294967296 := kW (by omega);rw [Aq];have h3 : lv x * 2 ^ w.toNat ≤ lv x * 4294967296 := As _ h2;omega
 rw [← vd, ← nd] at ds;obtain ⟨qn, hqn⟩ : ∃ qn, qn = x.length - d.length + 1 := ⟨_, rfl⟩
 obtain ⟨rn, hrn⟩ : ∃ rn, rn = k.toNat + 2 := ⟨_, rfl⟩
 have start : aGQ (lv x * 2 ^ w.toNat) d qn rn 0 (((L.drop (0 : Int).toNat).take k.toNat) ++ [0, 0]) (List.replicate qn 0) := by
  refine ⟨Bc _, by omega, ?_, by simp, ?_⟩
  · rw [← hqn] at ds;rw [show (0 : Int).toNat = 0 by rfl, List.drop_zero, k2, show ((qn : Int) - 0).toNat = qn by omega];exact ds
  · rw [show (0 : Int).toNat = 0 by rfl, List.drop_zero, k2, List.length_append, ← kl];rw [hrn]; rfl
 have rn1 : x.length + 1 ≤ rn := by omega
 have rn2 : rn < 67108870 := by omega
 have fin : ∀ i R Q, aGQ (lv x * 2 ^ w.toNat) d qn rn i R Q → ¬ i < qn → Lb Q ∧ Q.length = qn ∧ Lb (R.take (x.length + 1)) ∧ (R.take (x.length + 1)).length = x.length + 1 ∧ (lim (lv Q), lim (lv (R.take (x.length + 1)) / 2 ^ w.toNat), true) = r := by
  intro i R Q o hi;have hi' : ((qn : Int) - i).toNat = 0 := by have := o.i1; omega
  have inv := o.inv;rw [hi', vd, nd] at inv;have rl := o.rl;obtain ⟨f1, f2⟩ := aNL hy ny (by omega) (m := x.length + 1) (by omega) (by omega) dl inv;refine ⟨inv.lbq, o.ql, inv.lbr.take _, by rw [List.length_take]; omega, ?_⟩;rw [f1, f2, vx, vy, hr]
 have nqv : aA .add .i64 (aA .sub .i64 (x.length : Int) y.length) 1 = qn := by
  have e : aA .sub .i64 (x.length : Int) y.length = x.length - y.length := wi64_id (by omega) (by omega);have e2 : aA .add .i64 ((x.length : Int) - y.length) 1 = x.length - y.length + 1 := wi64_id (by omega) (by omega);rw [e, e2, hqn]; omega
 have n1v : aA .add .i64 (x.length : Int) 1 = (x.length + 1 : Nat) := by
  have e2 : aA .add .i64 (x.length : Int) 1 = x.length + 1 := wi64_id (by omega) (by omega);rw [e2]; rfl
 have qn1 : qn < 67108864 := by omega
 have d2 : 2 ≤ d.length := by omega
 have dx : d.length ≤ x.length := by omega
 have xyI : (y.length : Int) ≤ x.length := by omega
 have y2I : (2 : Int) ≤ y.length := by omega
 have xI : (x.length : Int) < 33554432 := by omega
 cbv;repeat' (first
   | (refine E_br hE ?_ ?_ <;> intro h <;> cbv)
   | (refine E_nm hE fun v hv => ?_; cbv)
   | (refine aT hE (fun b hb => ?_); cbv)
   | fail)
 all_goals (try (exfalso; clear start ds dl d0 kl k2 ed vd fin nqv n1v; subst hE; simp only [NatCast.natCast, Ac, aB, aE, aH, aG, aF, aK, aL, aA, Ab, Aa, SI.val, SB.val, Num.eta, Iv.eta] at *; (try simp only [wi64] at *); omega))
 clear ds dl kl k2 ed vd g1 gl k0 k1 k3 kx kR kb;refine E_loop hE hG hm hl (divS w d (E.bin .add .i64 (E.len x) 1) (E.bin .add .i64 (E.bin .sub .i64 (E.len x) (E.len y)) 1)) m (ok d w qn rn)
  ⟨(0, E.app (E.sub L 0 k) (E.sub [0, 0] 0 (Int.ofNat 2)), E.rep (E.bin .add .i64 (E.bin .sub .i64 (E.len x) (E.len y)) 1)), (eok _ _ _ _ _).2 ?_, stLe rfl ?_⟩ ?_
 · subst hE;have e : (aB Tryz.prog).bin .add .i64 ((aB Tryz.prog).bin .sub .i64 ((aB Tryz.prog).len x) ((aB Tryz.prog).len y)) 1 = (qn : Int) := nqv;rw [e];exact start
 · (repeat' (first | exact bC | apply aV | exact aN | exact aM | exact aI | exact bI | exact aQ | exact (rfl : sle2 .s0 .s0)))
 clear start;rintro ⟨i, R, Q⟩ hok;have o : aGQ (lv x * 2 ^ w.toNat) d qn rn i R Q := (eok _ _ _ _ _).1 hok;have fin' := fin i R Q o;have i0 := o.i0;have i1 := o.i1;clear hok fin ht;cbv;repeat' (first
   | (refine E_br hE ?_ ?_ <;> intro h <;> cbv)
   | (refine E_nm hE fun v hv => ?_; cbv)
   | (refine aT hE (fun b hb => ?_); cbv)
   | fail)
 all_goals (try (exfalso; clear fin' em eok o nqv n1v; subst hE; simp only [NatCast.natCast, Ac, aB, aE, aH, aG, aF, aK, aL, aA, Ab, Aa, SI.val, SB.val, Num.eta, Iv.eta] at *; (try simp only [wi64] at *); omega))
 rotate_left
 · simp only [NatCast.natCast, Ac] at nqv n1v;have hge : ¬ i < (qn : Int) := by
    subst hE;have q : ¬ i < aA .add .i64 (aA .sub .i64 (x.length : Int) y.length) 1 := aW h;rw [nqv] at q;exact q
   have f1 := (fin' hge).1;have f2 := (fin' hge).2.1;have f3 := (fin' hge).2.2.1;have f4 := (fin' hge).2.2.2.1;have f5 := (fin' hge).2.2.2.2;have e1 : E.sub Q 0 (E.bin .add .i64 (E.bin .sub .i64 (E.len x) (E.len y)) 1) = Q := by
    subst hE;show (Q.drop (0 : Int).toNat).take (aA .add .i64 (aA .sub .i64 (x.length : Int) y.length) 1).toNat = Q;rw [nqv];exact eG (by rw [f2])
   have e2 : E.sub R 0 (E.bin .add .i64 (E.len x) 1) = R.take (x.length + 1) := by
    subst hE;show (R.drop (0 : Int).toNat).take (aA .add .i64 (x.length : Int) 1).toNat = _;rw [n1v, Ak]; rfl
   clear fin' o em eok
   (apply E_callX hE (c_cut (E.sub Q 0 (E.bin .add .i64 (E.bin .sub .i64 (E.len x) (E.len y)) 1)) (by rw [e1]; exact f1) (by rw [e1, f2]; omega)); (case hf => rfl); (case hc => (cbv <;> trivial)); (case hle => exact ⟨aN, trivial⟩); intro q hq; cbv)
   (apply E_callX hE (c_natShr (E.sub R 0 (E.bin .add .i64 (E.len x) 1)) w (by rw [e2]; exact f3) (by rw [e2, f4]; omega)); (case hf => rfl); (case hc => (cbv <;> trivial)); (case hle => exact ⟨aN, aM, trivial⟩); intro q2 hq2; cbv)
   rw [← f5];rw [e1] at hq;rw [e2] at hq2;exact ⟨hq, hq2, rfl, trivial⟩
 rename_i i' ei at_ eat _ _ _ _ _ _ _ _ _;simp only [NatCast.natCast, Ac] at nqv n1v xyI y2I xI;have hi : i < (qn : Int) := by
  subst hE;have q : i < aA .add .i64 (aA .sub .i64 (x.length : Int) y.length) 1 := bF ‹(aB Tryz.prog).cmp .lss i _ = true›;rw [nqv] at q;exact q
 have nqE : E.bin .add .i64 (E.bin .sub .i64 (E.len x) (E.len y)) 1 = qn := by subst hE; exact nqv
 have n1E : E.bin .add .i64 (E.len x) 1 = (x.length + 1 : Nat) := by subst hE; exact n1v
 have hat : at_ = qn - 1 - i := by
  rw [nqE] at eat;subst hE;rw [← o.ql] at eat ⊢;exact aSJ (by rw [o.ql]; omega) o.i0 (by rw [o.ql]; exact hi) ei eat
 have i0 := o.i0;have a0 : 0 ≤ at_ := by omega
 have a1 : at_ < Q.length := by rw [o.ql]; omega
 have a2 : at_ + d.length < ((x.length + 1 : Nat) : Int) := by omega
 have a3 : ((x.length + 1 : Nat) : Int) ≤ R.length := by rw [o.rl]; omega
 have a4 : R.length < 134217728 := by rw [o.rl]; omega
 have inv : cP (lv x * 2 ^ w.toNat) (lv d) d.length R Q (at_.toNat + 1) := by
  have := o.inv;rwa [show ((qn : Int) - i).toNat = at_.toNat + 1 by omega] at this
 have etop := hv;have dg : dG (E.get R v) (E.get R (E.bin .sub .i64 v 1)) (E.get R (E.bin .sub .i64 v 2)) (E.get d (E.bin .sub .i64 (E.len d) 1)) (E.get d (E.bin .sub .i64 (E.len d) 2)) ∧
  eC (E.get R v) (E.get R (E.bin .sub .i64 v 1)) (E.get R (E.bin .sub .i64 v 2)) (E.get d (E.bin .sub .i64 (E.len d) 1)) (E.get d (E.bin .sub .i64 (E.len d) 2)) =
   eC (R.getD (at_.toNat + d.length) 0) (R.getD (at_.toNat + d.length - 1) 0) (R.getD (at_.toNat + d.length - 2) 0) (d.getD (d.length - 1) 0) (d.getD (d.length - 2) 0) := by
  subst hE;exact aKA inv ld d2 d0 a4 a0 a1 etop
 have gq := rP dg.1
 (apply E_pcallX hE (aPW _ _ _ _ _ dg.1); (case hm => rfl); (case hle => exact ⟨aM, aM, aM, aM, aM, trivial⟩); intro g hg)
 have g0 : 0 ≤ g ∧ g < 4294967296 := by rw [hg]; exact ⟨gq.q0, by have := gq.q1; omega⟩
 have eg := hg.trans dg.2;clear dg gq hg;have j1 : ∀ j, j = aA .add .i64 i 1 → j = i + 1 := fun j e => e.trans (wi64_id (by omega) (by omega))
 have lbR := inv.lbr;have next : ∀ (j : Int) (r' : List Int) (g' : Int), j = aA .add .i64 i 1 → r'.length = R.length → cP (lv x * 2 ^ w.toNat) (lv d) d.length r' (Q.set at_.toNat g') at_.toNat →
  m (j, r', Q.set at_.toNat g') < m (i, R, Q) ∧ ok d w qn rn (j, r', Q.set at_.toNat g') := by
  intro j r' g' ej hl hi';have ej := j1 j ej;refine ⟨by rw [em, em]; show ((x.length : Int) + 1 - j).toNat < ((x.length : Int) + 1 - i).toNat; omega, (eok _ _ _ _ _).2 ⟨by show 0 ≤ j; omega, by show j ≤ (qn : Int); omega, ?_, by rw [List.length_set]; exact o.ql, hl.trans o.rl⟩⟩;show cP _ _ _ _ _ ((qn : Int) - j).toNat;rw [show ((qn : Int) - j).toNat = at_.toNat by omega];exact hi'
 have n1a : at_ + d.length < E.bin .add .i64 (E.len x) 1 := by rw [n1E]; exact a2
 have n1b : E.bin .add .i64 (E.len x) 1 ≤ R.length := by rw [n1E]; exact a3
 have a5 : at_ + d.length < R.length := by omega
 have aq : at_ < E.bin .add .i64 (E.bin .sub .i64 (E.len x) (E.len y)) 1 := by rw [nqE]; omega
 cbv;refine E_nm hE (fun g' hg' => ?_);rw [hg'];clear hg' g';cbv;refine gV hE (aRQ d [0, 0] R Q g at_ (E.bin .add .i64 (E.len x) 1) ld lbR g0 a4 a0 a5 n1a n1b) ?_;intro v1 h1 hv1;obtain ⟨r1, bb, hv1⟩ := hv1;have lr := hv1.2.2;rw [hv1.1, hv1.2.1];clear hv1 v1 h1;refine E_br hE (fun hb1 => ?_) (fun hb1 => ?_)
 · have lr1 : zK R d g at_.toNat r1 true := hb1 ▸ lr;have l1 := lr1.len;cbv;refine E_nm hE (fun g' hg' => ?_);cbv;refine gV hE (aSG d [0, 0] r1 Q at_ (E.bin .add .i64 (E.len x) 1) ld lr1.lb (by rw [l1]; exact a4) a0 (by rw [l1]; exact a5) n1a (by rw [l1]; exact n1b)) ?_;intro v1 h1 hv1;obtain ⟨r2, hv1⟩ := hv1;have mr := hv1.2.2;rw [hv1.1, hv1.2.1];clear hv1 v1 h1;have dn := fun e => aMU inv ld d2 d0 a0 a1 eg lr1 mr (g' := g') e
   have l2 := mr.len.trans l1;cbv;repeat' (first
     | (refine E_br hE ?_ ?_ <;> intro h <;> cbv)
     | (refine E_nm hE fun v hv => ?_; cbv)
     | (refine aT hE (fun b hb => ?_); cbv)
     | fail)
   all_goals (try refine ⟨(E.bin .add .i64 i 1, r2, E.set Q at_ g'), ?_, ?_, stLe rfl ?_⟩)
   all_goals (try ((repeat' (first | exact bC | apply aV | exact aN | exact aM | exact aI | exact bI | exact aQ | exact (rfl : sle2 .s0 .s0))); done))
   all_goals (subst hE)
   · exact (next _ r2 g' rfl l2 (dn hg')).1
   · exact (next _ r2 g' rfl l2 (dn hg')).2
   all_goals (first | exact absurd a0 (bQ h) | exact absurd aq (aW h))
 · have lr1 : zK R d g at_.toNat r1 false := hb1 ▸ lr;have dn := aNQ inv ld d2 d0 a0 a1 eg lr1;have l1 := lr1.len;cbv;repeat' (first
     | (refine E_br hE ?_ ?_ <;> intro h <;> cbv)
     | (refine E_nm hE fun v hv => ?_; cbv)
     | (refine aT hE (fun b hb => ?_); cbv)
     | fail)
   all_goals (try refine ⟨(E.bin .add .i64 i 1, r1, E.set Q at_ g), ?_, ?_, stLe rfl ?_⟩)
   all_goals (try ((repeat' (first | exact bC | apply aV | exact aN | exact aM | exact aI | exact bI | exact aQ | exact (rfl : sle2 .s0 .s0))); done))
   all_goals (subst hE)
   · exact (next _ r1 g rfl l1 dn).1
   · exact (next _ r1 g rfl l1 dn).2
   all_goals (first | exact absurd a0 (bQ h) | exact absurd aq (aW h))
 all_goals trace_state
end
section
open Go
theorem aCZ {m n k : Nat} (hm : (lim m).length ≤ k) (hn : (lim n).length ≤ k) : (lim (m + n)).length ≤ k + 1 := by
 have h1 := bP (lim_lb m);have h2 := bP (lim_lb n);rw [aJ] at h1 h2;have h3 : (4294967296 : Nat) ^ (lim m).length ≤ 4294967296 ^ k := Ag (by omega) hm;have h4 : (4294967296 : Nat) ^ (lim n).length ≤ 4294967296 ^ k := Ag (by omega) hn;apply lim_length_le;rw [Aq];omega
theorem dC {m n : Nat} (h : m ≤ n) : (lim m).length ≤ (lim n).length := by
 have h1 := bP (lim_lb n);rw [aJ] at h1;exact lim_length_le (by omega)
end
section
open Go Go.Proofs
theorem c_Of (n : Int) (h0 : -9223372036854775808 ≤ n) (h1 : n < 9223372036854775808) : ∃ t : Num, t = Num.ofInt n ∧ aC Tryz.prog 30 [.int .i64 (.s n)] (t.av) := by
 refine ⟨_, rfl, ?_⟩;generalize hr : Num.ofInt n = r;refine callsA_o Tryz.func30 fun E hE lp hl => ?_
 cbv;repeat' (first
   | (refine E_br hE ?_ ?_ <;> intro h <;> cbv)
   | (refine E_nm hE fun v hv => ?_; cbv)
   | (apply E_callX hE (aMD _ ?_ ?_); (case hf => rfl); (case hc => (cbv <;> trivial)); (case hle => exact u_up); all_goals (first | (intro t ht; cbv) | (subst hE; (try simp only [aB, aE, aH, aG, aF, aK, aL, aA, Ab, Aa, SI.val, SB.val, Num.eta, Iv.eta] at *); (subst_vars; simp only [wu64]; omega))))
   | fail)
 all_goals (subst hE; subst hr)
 all_goals (try simp only [aB, aE, aH, aG, aF, aK, aL, aA, Ab, Aa, SI.val, SB.val, Num.eta, Iv.eta] at *)
 all_goals (try subst_vars)
 all_goals (first | rw [aLH h0 ‹n < 0›] at * | rw [aNK (show 0 ≤ n by omega) h1] at *)
 all_goals (try (exfalso; have := cQ 64 (x := (n.natAbs : Int)) (by omega); omega))
 case refine_2.hK.refine_1 =>
  have e : n = 0 := by omega
  subst e;exact ⟨rfl, rfl, rfl, rfl, trivial⟩
 all_goals (unfold Num.ofInt; rw [if_neg (by omega)]; exact ⟨rfl, rfl, rfl, rfl, trivial⟩)
end
section
open Go Go.Proofs
attribute [local irreducible] Lb
theorem zH {a : List Int} {i n : Int} (ha : Lb a) (hl : a.length ≤ 2) (h1 : 0 ≤ i) (h2 : i < a.length) (hn : n = lv (a.take i.toNat)) {i' x v j : Int} (ei : i' = i) (ex : x = a.getD i.toNat 0)
 (ev : v = aA .or .u64 n (aA .shl .u64 (IntKind.u64.wrap x) (aA .mul .i64 32 i'))) (ej : j = aA .add .i64 i 1) :
 0 ≤ j ∧ j ≤ a.length ∧ ((a.length : Int) - j).toNat < ((a.length : Int) - i).toNat ∧ v = lv (a.take j.toNat) := by
 subst ei;have hx := ha.getD i'.toNat;have ej' : j = i' + 1 := by rw [ej]; show IntKind.i64.wrap (i' + 1) = _; rw [wi64_id (by omega) (by omega)]
 refine ⟨by omega, by omega, by omega, ?_⟩;rw [ej', show (i' + 1).toNat = i'.toNat + 1 by omega, eH (by omega), ← ex];rw [← ex] at hx;rw [cG hx.1 (by omega)] at ev;rcases (show i' = 0 ∨ i' = 1 by omega) with rfl | rfl
 · have e0 : n = 0 := by rw [hn]; rfl
   have e1 : aA .shl .u64 x (aA .mul .i64 32 0) = x := by
    show IntKind.u64.wrap (x * 2 ^ min (IntKind.i64.wrap (32 * 0)).toNat IntKind.u64.bits) = _;rw [show min (IntKind.i64.wrap (32 * 0)).toNat IntKind.u64.bits = 0 by decide, wu64];simp only [Int.pow_zero, Int.mul_one];omega
   rw [e1, e0] at ev;have e2 : aA .or .u64 0 x = 0 + 2 ^ 0 * x := by
    have := or64 (l := x) (m := 0) hx.1 hx.2 (by omega) (by omega);show IntKind.u64.wrap ((BitVec.ofInt 64 0 ||| BitVec.ofInt 64 x).toNat : Int) = _;rw [BitVec.or_comm];simp only [Int.zero_mul] at this;rw [this]; omega
   rw [ev, e2, show (Int.toNat 0) = 0 by rfl, List.take_zero];simp only [lv, Ct];omega
 · have hn0 : 0 ≤ n ∧ n < 4294967296 := by
    have := jB ha 1 (by omega);rw [show (1 : Int).toNat = 1 by rfl] at hn;omega
   have e1 : aA .shl .u64 x (aA .mul .i64 32 1) = x * 4294967296 := by
    show IntKind.u64.wrap (x * 2 ^ min (IntKind.i64.wrap (32 * 1)).toNat IntKind.u64.bits) = _;rw [show min (IntKind.i64.wrap (32 * 1)).toNat IntKind.u64.bits = 32 by decide, wu64];have : (2 : Int) ^ 32 = 4294967296 := by decide
    rw [this]; omega
   rw [e1] at ev;have e2 : aA .or .u64 n (x * 4294967296) = n + x * 4294967296 := or64 hn0.1 hn0.2 hx.1 hx.2;rw [ev, e2, show (Int.toNat 1) = 1 by rfl];rw [show (1 : Int).toNat = 1 by rfl] at hn;rw [hn];omega
def aTK (E : Env) (a : List Int) : Int × Int → St := fun p => ⟨[(3, .int .u64 (.s p.2)), (6, .sli .u32 a), (7, .int .i64 (.s (E.len a))), (8, .int .i64 (.s p.1))], []⟩
theorem aLT (a : List Int) (ha : Lb a) (hl : a.length ≤ 2) : ∃ t : Int, t = lv a ∧ aC Tryz.prog 232 [.sli .u32 a] (.int .u64 (.s t)) := by
 refine ⟨_, rfl, ?_⟩;generalize hr : (lv a : Int) = r;obtain ⟨m, em⟩ : ∃ m : Int × Int → Nat, ∀ p, m p = (a.length - p.1).toNat := ⟨_, fun _ => rfl⟩
 obtain ⟨ok, eok⟩ : ∃ ok : Int × Int → Prop, ∀ p, ok p ↔ 0 ≤ p.1 ∧ p.1 ≤ a.length ∧ p.2 = lv (a.take p.1.toNat) := ⟨_, fun _ => Bs⟩
 refine callsA_o Tryz.func232 fun E hE lp hl' => ?_
 cbv;repeat' (first
   | (refine E_br hE ?_ ?_ <;> intro h <;> cbv)
   | (refine E_nm hE fun v hv => ?_; cbv)
   | (refine aT hE (fun b hb => ?_); cbv)
   | fail)
 refine E_loop hE hG hm hl' (aTK E a) m ok ⟨(0, 0), (eok _).2 ⟨by show (0 : Int) ≤ 0; omega, by show (0 : Int) ≤ a.length; omega, rfl⟩, stLe rfl ?_⟩ ?_
 · (repeat' (first | exact bC | apply aV | exact aN | exact aM | exact aI | exact bI | exact aQ | exact (rfl : sle2 .s0 .s0)))
 rintro ⟨i, n⟩ hok;have h1 : 0 ≤ i := ((eok _).1 hok).1;have h2 : i ≤ a.length := ((eok _).1 hok).2.1;have hn : n = lv (a.take i.toNat) := ((eok _).1 hok).2.2;have fin : ¬ i < a.length → n = r := by
  intro h;rw [hn, show i.toNat = a.length by omega, List.take_length]; exact hr
 clear hok;cbv;repeat' (first
   | (refine E_br hE ?_ ?_ <;> intro h <;> cbv)
   | (refine E_nm hE fun v hv => ?_; cbv)
   | (refine aT hE (fun b hb => ?_); cbv)
   | fail)
 all_goals (try refine ⟨(E.bin .add .i64 i 1, v), ?_, ?_, stLe rfl ?_⟩)
 all_goals (try ((repeat' (first | exact bC | apply aV | exact aN | exact aM | exact aI | exact bI | exact aQ | exact (rfl : sle2 .s0 .s0))); done))
 all_goals (subst hE)
 all_goals (try (first
   | (rw [em, em]; exact (zH ha hl h1 (bF ‹_›) hn ‹_ = i› ‹_› ‹_› rfl).2.2.1)
   | (rw [eok]; have q := zH ha hl h1 (bF ‹_›) hn ‹_ = i› ‹_› ‹_› rfl; exact ⟨q.1, q.2.1, q.2.2.2⟩)
   | exact fin (aW ‹_›)
   | exact ‹_ = n›.trans (fin (aW ‹_›))))
 all_goals (clear fin eok em hn; simp only [NatCast.natCast, Ac, aB, aE, aH, aG, aF, aK, aL, aA, Ab, Aa, SI.val, SB.val, Num.eta, Iv.eta] at *; (try simp only [wi64] at *); omega)
theorem aDF {m : Int} (h0 : 0 ≤ m) (h1 : m < 18446744073709551616) : Lb [m % 4294967296, m / 4294967296] :=
 Lb.cons (by omega) (by omega) (Lb.cons (by omega) (by omega) Lb.nil)
theorem aCV {m : Int} (h0 : 0 ≤ m) : lv [m % 4294967296, m / 4294967296] = m.toNat := by
 simp only [lv]; omega
theorem c_wFrom (n : Int) (h1 : -9223372036854775808 ≤ n) (h2 : n < 9223372036854775808) : ∃ t : Bool × List Int, t = (decide (n < 0), lim n.natAbs) ∧ aC Tryz.prog 66 [.int .i64 (.s n)] (.agg [.bool (.s t.1), .sli .u32 t.2]) := by
 refine ⟨_, rfl, ?_⟩;generalize hr : ((decide (n < 0), lim n.natAbs) : Bool × List Int) = r;have lb := aDF (m := (n.natAbs : Int)) (by omega) (by omega);obtain ⟨m, em⟩ : ∃ m, m = [(n.natAbs : Int) % 4294967296, (n.natAbs : Int) / 4294967296] := ⟨_, rfl⟩
 rw [← em] at lb;have ll : m.length ≤ 268435456 := by rw [em]; show (2 : Nat) ≤ _; decide
 have fin : ∀ (c : Bool) (l : List Int) (t : Bool × List Int), c = decide (n < 0) → l = m → t = (c && decide (lv l ≠ 0), lim (lv l)) → t = r := by
  intro c l t hc hl ht;rw [ht, hl, em, aCV (by omega), ← hr, hc, show ((n.natAbs : Nat) : Int).toNat = n.natAbs from rfl];by_cases h : n < 0
  · rw [Au (p := n.natAbs ≠ 0) (by omega), Dm]
  · rw [Az h, Bool.false_and]
 have wn : ∀ x : Int, x = (n.natAbs : Int) → [IntKind.u32.wrap x, IntKind.u32.wrap (aA .shr .u64 x 32)] = m := by
  intro x hx;have e1 : aA .shr .u64 x 32 = x / 4294967296 := zB x;rw [em, e1, hx, wu32, wu32, Bi (a := (n.natAbs : Int) / 4294967296) (by omega) (by omega)]
 clear hr em;refine callsA_o Tryz.func66 fun E hE lp hl' => ?_
 cbv;refine E_nm hE fun u hu => ?_; cbv
 refine E_br hE ?_ ?_ <;> intro g <;> cbv
 · have hn : n < 0 := by subst hE; exact bF g
   refine E_nm hE fun v hv => ?_; cbv
   have k : E.sub [E.conv .u32 v, E.conv .u32 (E.bin .shr .u64 v 32)] 0 2 = m := by
    subst hE;exact wn v (by have a : u = IntKind.u64.wrap n := hu; have b : v = IntKind.u64.wrap (0 - u) := hv; have c : (n.natAbs : Int) = -n := Int.ofNat_natAbs_of_nonpos (by omega); simp only [wu64] at a b; exact (show v = -n by omega).trans c.symm)
   (refine E_cx hE (c_wMake _ _ ?_ ?_) ?_; all_goals (first | (intro t ht; cbv) | (first | exact k ▸ lb | exact k ▸ ll)))
   rw [← fin _ _ t (by subst hE; rfl) k ht]; exact ⟨rfl, rfl, trivial⟩
 · have hn : ¬ n < 0 := by subst hE; exact aW g
   have k : E.sub [E.conv .u32 u, E.conv .u32 (E.bin .shr .u64 u 32)] 0 2 = m := by
    subst hE;exact wn u (by have a : u = IntKind.u64.wrap n := hu; have c : (n.natAbs : Int) = n := Int.natAbs_of_nonneg (by omega); simp only [wu64] at a; exact (show u = n by omega).trans c.symm)
   (refine E_cx hE (c_wMake _ _ ?_ ?_) ?_; all_goals (first | (intro t ht; cbv) | (first | exact k ▸ lb | exact k ▸ ll)))
   rw [← fin _ _ t (by subst hE; rfl) k ht]; exact ⟨rfl, rfl, trivial⟩
theorem c_wSign (na : Bool) (a : List Int) (ha : Lb a) (hla : a.length < 67108864) : ∃ t : Int, t = (if lv a = 0 then 0 else if na then -1 else 1) ∧ aC Tryz.prog 139 [.agg [.bool (.s na), .sli .u32 a]] (.int .i64 (.s t)) := by
 refine ⟨_, rfl, ?_⟩;generalize hr : (if lv a = 0 then 0 else if na then -1 else 1 : Int) = r;have z : lv a = 0 → 0 = r := fun h => by rw [← hr, if_pos h]
 have o : lv a ≠ 0 → na = true → -1 = r := fun h k => by rw [← hr, if_neg h, if_pos k]
 have p : lv a ≠ 0 → na = false → 1 = r := fun h k => by rw [← hr, if_neg h, k]; rfl
 have bz : blen (lv a : Int) = 0 ↔ lv a = 0 := by
  constructor
  · intro h;rcases Ao (lv a) with k | k
    · exact k
    · obtain ⟨n, hn, _⟩ := fC (x := (lv a : Int)) (by omega); omega
  · intro h; rw [h]; rfl
 clear hr;refine callsA_o Tryz.func139 fun E hE lp hl' => ?_
 cbv
 (refine E_cx hE (pR a ha hla) ?_; intro t ht; cbv)
 have ht : t = blen (lv a : Int) := ht;refine E_br hE ?_ ?_ <;> intro g <;> cbv
 · rw [← z (bz.1 (ht ▸ (by subst hE; exact cA g)))]
 have nz : lv a ≠ 0 := fun h => (show ¬ t = 0 by subst hE; exact eql_f g) (ht.trans (bz.2 h))
 refine E_br hE ?_ ?_ <;> intro g <;> cbv
 · rw [← o nz g]
 · rw [← p nz g]
def subI (E : Env) (x y : List Int) : Int × Int × List Int → St := fun p => ⟨[(0, .sli .u32 x), (1, .sli .u32 y), (6, .ms 0 1 (.l 0) (.s (E.len x))), (7, .int .u32 (.s p.2.1)), (22, .int .i64 (.s (E.len x))), (23, .int .i64 (.s p.1))], [.ints true .u32 p.2.2]⟩
theorem c_natSub (a b : List Int) (ha : Lb a) (hb : Lb b) (hla : a.length < 134217728) (hlb : b.length < 134217728) : ∃ t : List Int × Bool, t = (if lv a < lv b then ([], false) else (lim (lv a - lv b), true)) ∧ aC Tryz.prog 143 [.sli .u32 a, .sli .u32 b] (.tup [.sli .u32 t.1, .bool (.s t.2)]) := by
 refine ⟨_, rfl, ?_⟩;generalize hr : (if lv a < lv b then ([], false) else (lim (lv a - lv b), true) : List Int × Bool) = r;have hlx := aO ha;have hly := aO hb;have hx := lim_lb (lv a);have hy := lim_lb (lv b);have vx := aJ (lv a);have vy := aJ (lv b);have hlen : lv b ≤ lv a → (lim (lv b)).length ≤ (lim (lv a)).length := dC;obtain ⟨x, ex⟩ : ∃ x, lim (lv a) = x := ⟨_, rfl⟩
 obtain ⟨y, ey⟩ : ∃ y, lim (lv b) = y := ⟨_, rfl⟩
 rw [ex] at hlx hx vx hlen;rw [ey] at hly hy vy hlen;rw [← vx, ← vy] at hr hlen;have lx : x.length < 134217728 := by omega
 have ly : y.length < 134217728 := by omega
 have cx : x.length ≤ 268435456 := by omega
 have cy : y.length ≤ 268435456 := by omega
 have ca : a.length < 9223372036854775808 := by omega
 have cb : b.length < 9223372036854775808 := by omega
 refine callsA_o Tryz.func143 fun E hE lp hl => ?_
 cbv
 (refine E_cx hE (c_cut a ha ca) ?_; intro x' hx'; cbv)
 have hx2 : x' = x := Eq.trans hx' ex;rw [hx2];clear hx' hx2
 (refine E_cx hE (c_cut b hb cb) ?_; intro y' hy'; cbv)
 have hy2 : y' = y := Eq.trans hy' ey;rw [hy2];clear hy' hy2
 (refine E_cx hE (c_natCmp x y hx hy cx cy) ?_; intro q hq; cbv)
 have hq : q = (if lv x < lv y then -1 else if lv y < lv x then 1 else 0 : Int) := hq;refine E_br hE (fun g => ?_) (fun g => ?_)
 · have g : q < 0 := by subst hE; exact bF g
   have k : lv x < lv y := by
    by_cases k : lv x < lv y
    · exact k
    · rw [hq, if_neg k] at g; split at g <;> omega
   rw [if_pos k] at hr;cbv;rw [← hr];exact ⟨rfl, rfl, trivial⟩
 have hle : lv y ≤ lv x := by
  have g : ¬ q < 0 := by subst hE; exact aW g
  by_cases k : lv x < lv y
  · rw [hq, if_pos k] at g; exact absurd (by decide) g
  · omega
 rw [if_neg (by omega)] at hr;have hxy := hlen hle;clear hq g hlen;cbv;repeat' (first
   | (refine E_br hE ?_ ?_ <;> intro h <;> cbv)
   | (refine E_nm hE fun v hv => ?_; cbv)
   | (refine aT hE (fun b hb => ?_); cbv)
   | fail)
 all_goals (try (exfalso; subst hE; simp only [NatCast.natCast, Ac, aB, aE, aH, aG, aF, aK, aL, aA, Ab, Aa, SI.val, SB.val, Num.eta, Iv.eta] at *; omega))
 obtain ⟨m, em⟩ : ∃ m : Int × Int × List Int → Nat, ∀ p, m p = (x.length - p.1).toNat := ⟨_, fun _ => rfl⟩
 obtain ⟨ok, eok⟩ : ∃ ok : Int × Int × List Int → Prop, ∀ p, ok p ↔ 0 ≤ p.1 ∧ p.1 ≤ x.length ∧ jW x y p.2.2 p.1.toNat p.2.1 := ⟨_, fun _ => Bs⟩
 refine E_loop hE hG hm hl (subI E x y) m ok ⟨(0, 0, E.rep (E.len x)), (eok _).2 ?_, stLe rfl ?_⟩ ?_
 · refine ⟨by show (0 : Int) ≤ 0; omega, by show (0 : Int) ≤ x.length; omega, ?_⟩;have := jW.start x y;subst hE; simp only [NatCast.natCast, Ac, aB, aE, aH, aG, aF, aK, aL, aA, Ab, Aa, SI.val, SB.val, Num.eta, Iv.eta] at *
   exact this
 · (repeat' (first | exact bC | apply aV | exact aN | exact aM | exact aI | exact bI | exact aQ | exact (rfl : sle2 .s0 .s0)))
 rintro ⟨i, c, out⟩ hok;obtain ⟨h1, h2, inv⟩ := (eok _).1 hok;dsimp only at h1 h2 inv;have hgx := hx.getD i.toNat;have hgy := hy.getD i.toNat;have hc0 := inv.c0;have hc1 := inv.c1;have hol := inv.len;have next : ∀ (j k c' z : Int) (v : Int × Int), i < x.length → k = i → j = IntKind.i64.wrap (i + 1) → (z = y.getD k.toNat 0 ∨ (¬ k < y.length ∧ z = 0)) →
  v = ((x.getD k.toNat 0 - z - c) % 4294967296, (if x.getD k.toNat 0 < z + c then 1 else 0 : Int)) → c' = v.2 →
  m (j, c', out.set k.toNat v.1) < m (i, c, out) ∧ ok (j, c', out.set k.toNat v.1) := by
  intro j k c' z v h hk hj hz hv hc;subst hk;have hz : z = y.getD k.toNat 0 := by
   rcases hz with hz | ⟨hz, h0⟩
   · exact hz
   · rw [h0, getD_past (by omega)]
  have hj : j = k + 1 := by rw [hj, wi64_id (by omega) (by omega)]
  refine ⟨by rw [em, em]; show ((x.length : Int) - j).toNat < ((x.length : Int) - k).toNat; omega, (eok _).2 ⟨by show 0 ≤ j; omega, by show j ≤ (x.length : Int); omega, ?_⟩⟩;have := inv.step hx hy (by omega);rw [← hz] at this;rw [hc, hv, hj];show jW x y (out.set k.toNat ((x.getD k.toNat 0 - z - c) % 4294967296)) (k + 1).toNat (if x.getD k.toNat 0 < z + c then 1 else 0);rw [show (k + 1).toNat = k.toNat + 1 by omega];exact this
 have fin : ¬ i < x.length → Lb out ∧ (lim (lv out), true) = r := by
  intro h;rw [show i.toNat = x.length by omega] at inv;exact ⟨inv.lb, by rw [inv.stop hx hle hxy]; exact hr⟩
 clear inv hok hr;cbv;repeat' (first
   | (refine E_br hE ?_ ?_ <;> intro h <;> cbv)
   | (refine E_nm hE fun v hv => ?_; cbv)
   | (refine aT hE (fun b hb => ?_); cbv)
   | (refine E_cx hE (aIM _ _ _ ?_ ?_ ?_ ?_ ?_ ?_) ?_; all_goals (first | (intro t ht; cbv) | (subst hE; (try simp only [NatCast.natCast, Ac, aB, aE, aH, aG, aF, aK, aL, aA, Ab, Aa, SI.val, SB.val, Num.eta, Iv.eta] at *); subst_vars; (first | assumption | omega))))
   | (refine E_cx hE (c_cut _ ?_ ?_) ?_; all_goals (first | (intro t ht; cbv) | ((subst hE; simp only [NatCast.natCast, Ac, aB, aE, aH, aG, aF, aK, aL, aA, Ab, Aa, SI.val, SB.val, Num.eta, Iv.eta] at *; rw [eG (by omega)]; first | exact (fin ‹_›).1 | omega))))
   | fail)
 all_goals (try refine ⟨(E.bin .add .i64 i 1, v, E.set out _ t.1), ?_, ?_, stLe rfl ?_⟩)
 all_goals (try ((repeat' (first | exact bC | apply aV | exact aN | exact aM | exact aI | exact bI | exact aQ | exact (rfl : sle2 .s0 .s0))); done))
 all_goals (subst hE; simp only [NatCast.natCast, Ac, aB, aE, aH, aG, aF, aK, aL, aA, Ab, Aa, SI.val, SB.val, Num.eta, Iv.eta] at *)
 all_goals (first | exact (next _ _ _ _ _ ‹_› ‹_› rfl (by first | exact .inl ‹_› | exact .inr ⟨‹_›, rfl⟩) ‹t = _› ‹_›).1 | exact (next _ _ _ _ _ ‹_› ‹_› rfl (by first | exact .inl ‹_› | exact .inr ⟨‹_›, rfl⟩) ‹t = _› ‹_›).2 | (exfalso; clear next fin; omega) | skip)
 have k := fin ‹_›;rw [← k.2];refine ⟨?_, rfl, trivial⟩;rw [‹t = _›, eG (by omega)]
def wv (na : Bool) (a : List Int) : Int := if na then -(lv a : Int) else lv a
def whN (z : Int) : Bool × List Int := (decide (z < 0), lim z.natAbs)
theorem cS (na : Bool) (n : Nat) : (na && decide (n ≠ 0), lim n) = whN (if na then -(n : Int) else n) := by
 unfold whN;cases na
 · simp only [Bool.false_and, Br, if_false];rw [Az (by omega), Ck]
 · simp only [Bool.true_and, if_true];rw [Int.natAbs_neg, Ck];congr 1;apply Bk.2; omega
theorem dZ (z : Int) : wv (whN z).1 (whN z).2 = z := by
 unfold wv whN;simp only [aJ, Ab];split <;> omega
theorem whN_lb (z : Int) : Lb (whN z).2 := lim_lb _
theorem fR {z : Int} {k : Nat} (h : z.natAbs < 4294967296 ^ k) : (whN z).2.length ≤ k := lim_length_le h
theorem c_wAdd (na : Bool) (a : List Int) (nb : Bool) (b : List Int) (ha : Lb a) (hb : Lb b) (hla : a.length < 134217728) (hlb : b.length < 134217728) :
 ∃ t : Bool × List Int, t = whN (wv na a + wv nb b) ∧ aC Tryz.prog 70 [.agg [.bool (.s na), .sli .u32 a], .agg [.bool (.s nb), .sli .u32 b]] (.agg [.bool (.s t.1), .sli .u32 t.2]) := by
 refine ⟨_, rfl, ?_⟩;generalize hr : whN (wv na a + wv nb b) = r;have la : a.length < 268435456 := by omega
 have lb : b.length < 268435456 := by omega
 have one : na = nb → (na && decide (lv a + lv b ≠ 0), lim (lv a + lv b)) = r := by
  intro e; subst e;rw [← hr, cS]; unfold wv; congr 1; cases na <;> simp; omega
 have two : na ≠ nb → ¬ lv a < lv b → (na && decide (lv a - lv b ≠ 0), lim (lv a - lv b)) = r := by
  intro e h;rw [← hr, cS]; unfold wv; congr 1; cases na <;> cases nb <;> simp at e ⊢ <;> omega
 have three : na ≠ nb → lv a < lv b → (nb && decide (lv b - lv a ≠ 0), lim (lv b - lv a)) = r := by
  intro e h;rw [← hr, cS]; unfold wv; congr 1; cases na <;> cases nb <;> simp at e ⊢ <;> omega
 have lim1 : (lim (lv a + lv b)).length ≤ 268435456 := by have h := aCZ (m := lv a) (n := lv b) (k := 134217728) (by have := aO ha; omega) (by have := aO hb; omega); omega
 have lim2 : (lim (lv a - lv b)).length ≤ 268435456 := by have := dC (Nat.sub_le (lv a) (lv b)); have := aO ha; omega
 have lim3 : (lim (lv b - lv a)).length ≤ 268435456 := by have := dC (Nat.sub_le (lv b) (lv a)); have := aO hb; omega
 clear hr;refine callsA_o Tryz.func70 fun E hE lp hl' => ?_
 cbv;refine E_br hE ?_ ?_ <;> intro g <;> cbv
 · have g : na = nb := by subst hE; exact eq_of_beq g
   (refine E_px hE (aEK a b ha hb la lb) ?_; intro u hu; cbv)
   have hu : u = lim (lv a + lv b) := hu;have ub : Lb u := by rw [hu]; exact lim_lb _
   have ul : u.length ≤ 268435456 := by rw [hu]; exact lim1
   (refine E_px hE (c_wMake na u ub ul) ?_; intro t ht; cbv)
   have k : t = r := by
    have k : t = (na && decide (lv u ≠ 0), lim (lv u)) := ht;rw [k, hu, aJ]; exact one g
   rw [← k]; exact ⟨rfl, rfl, trivial⟩
 · have g : na ≠ nb := by subst hE; intro e; rw [e] at g; exact absurd ((beq_self_eq_true nb).symm.trans g) (by decide)
   (refine E_cx hE (c_natSub a b ha hb hla hlb) ?_; intro u hu; cbv)
   have hu : u = (if lv a < lv b then ([], false) else (lim (lv a - lv b), true)) := hu;refine E_br hE ?_ ?_ <;> intro q <;> cbv
   · have n : ¬ lv a < lv b := by intro h; rw [hu, if_pos h] at q; cases q
     have u1 : u.1 = lim (lv a - lv b) := by rw [hu, if_neg n]
     have ub : Lb u.1 := by rw [u1]; exact lim_lb _
     have ul : u.1.length ≤ 268435456 := by rw [u1]; exact lim2
     (refine E_cx hE (c_wMake na u.1 ub ul) ?_; intro t ht; cbv)
     have k : t = r := by
      have k : t = (na && decide (lv u.1 ≠ 0), lim (lv u.1)) := ht;rw [k, u1, aJ]; exact two g n
     rw [← k]; exact ⟨rfl, rfl, trivial⟩
   · have n : lv a < lv b := by
      by_cases h : lv a < lv b
      · exact h
      · rw [hu, if_neg h] at q; cases q
     (refine E_cx hE (c_natSub b a hb ha hlb hla) ?_; intro u2 hu2; cbv)
     have hu2 : u2 = (if lv b < lv a then ([], false) else (lim (lv b - lv a), true)) := hu2;have u1 : u2.1 = lim (lv b - lv a) := by rw [hu2, if_neg (by omega)]
     have ub : Lb u2.1 := by rw [u1]; exact lim_lb _
     have ul : u2.1.length ≤ 268435456 := by rw [u1]; exact lim3
     (refine E_cx hE (c_wMake nb u2.1 ub ul) ?_; intro t ht; cbv)
     have k : t = r := by
      have k : t = (nb && decide (lv u2.1 ≠ 0), lim (lv u2.1)) := ht;rw [k, u1, aJ]; exact three g n
     rw [← k]; exact ⟨rfl, rfl, trivial⟩
theorem aFK (na : Bool) (a : List Int) (nb : Bool) (b : List Int) (ha : Lb a) (hb : Lb b) (hla : a.length < 134217728) (hlb : b.length < 134217728) :
 ∃ t : Bool × List Int, t = whN (wv na a - wv nb b) ∧ aC Tryz.prog 163 [.agg [.bool (.s na), .sli .u32 a], .agg [.bool (.s nb), .sli .u32 b]] (.agg [.bool (.s t.1), .sli .u32 t.2]) := by
 refine ⟨_, rfl, ?_⟩;generalize hr : whN (wv na a - wv nb b) = r;have lb : b.length ≤ 268435456 := by omega
 have lim1 := aO hb;have vn : wv (!nb && decide (lv b ≠ 0)) (lim (lv b)) = - wv nb b := by
  unfold wv; rw [aJ]; by_cases h : lv b = 0 <;> cases nb <;> simp [h]
 refine callsA_o Tryz.func163 fun E hE lp hl' => ?_
 cbv
 (refine E_px hE (aAR nb b hb lb) ?_; intro u hu; cbv)
 have hu : u = (!nb && decide (lv b ≠ 0), lim (lv b)) := hu;have vu : wv u.1 u.2 = - wv nb b := by rw [hu]; exact vn
 have ub : Lb u.2 := by rw [hu]; exact lim_lb _
 have ul : u.2.length < 134217728 := by rw [hu]; show (lim (lv b)).length < _; omega
 (refine E_px hE (c_wAdd na a u.1 u.2 ha ub hla ul) ?_; intro t ht; cbv)
 have k : t = r := by
  have k : t = whN (wv na a + wv u.1 u.2) := ht;rw [k, vu, ← hr]; rfl
 rw [← k]; exact ⟨rfl, rfl, trivial⟩
theorem aSL (na : Bool) (a : List Int) (nb : Bool) (b : List Int) (ha : Lb a) (hb : Lb b) (hla : a.length < 67108864) (hlb : b.length < 67108864) :
 ∃ t : Int, t = (if wv na a < wv nb b then -1 else if wv nb b < wv na a then 1 else 0) ∧ aC Tryz.prog 67 [.agg [.bool (.s na), .sli .u32 a], .agg [.bool (.s nb), .sli .u32 b]] (.int .i64 (.s t)) := by
 refine ⟨_, rfl, ?_⟩;generalize hr : (if wv na a < wv nb b then -1 else if wv nb b < wv na a then 1 else 0 : Int) = r;have la : a.length ≤ 268435456 := by omega
 have lb : b.length ≤ 268435456 := by omega
 have one : ∀ x y : Int, x = (if lv a = 0 then 0 else if na then -1 else 1) → y = (if lv b = 0 then 0 else if nb then -1 else 1) → x < y → -1 = r := by
  intro x y hx hy h; rw [← hr]; unfold wv; subst hx hy;cases na <;> cases nb <;> simp at h ⊢ <;> repeat' (first | omega | split at h | split)
 have two : ∀ x y : Int, x = (if lv a = 0 then 0 else if na then -1 else 1) → y = (if lv b = 0 then 0 else if nb then -1 else 1) → y < x → 1 = r := by
  intro x y hx hy h; rw [← hr]; unfold wv; subst hx hy;cases na <;> cases nb <;> simp at h ⊢ <;> repeat' (first | omega | split at h | split)
 have three : ∀ x y c : Int, x = (if lv a = 0 then 0 else if na then -1 else 1) → y = (if lv b = 0 then 0 else if nb then -1 else 1) → ¬ x < y → ¬ y < x → c = (if lv a < lv b then -1 else if lv b < lv a then 1 else 0) → IntKind.i64.wrap (x * c) = r := by
  intro x y c hx hy h h' hc;have e : x * c = r := by
   rw [← hr]; unfold wv; subst hx hy hc;cases na <;> cases nb <;> simp at h h' ⊢ <;> repeat' (first | omega | split at h | split at h' | split)
  rw [e];rw [← hr]; split
  · rfl
  · split <;> rfl
 clear hr;refine callsA_o Tryz.func67 fun E hE lp hl' => ?_
 cbv
 (refine E_px hE (c_wSign na a ha hla) ?_; intro x hx; cbv)
 (refine E_px hE (c_wSign nb b hb hlb) ?_; intro y hy; cbv)
 have hx : x = (if lv a = 0 then 0 else if na then -1 else 1) := hx;have hy : y = (if lv b = 0 then 0 else if nb then -1 else 1) := hy
 (try (refine E_nm hE fun x1 e1 => ?_; cbv))
 (try (refine E_nm hE fun y1 e2 => ?_; cbv))
 have hx1 : x1 = (if lv a = 0 then 0 else if na then -1 else 1) := e1.trans hx;have hy1 : y1 = (if lv b = 0 then 0 else if nb then -1 else 1) := e2.trans hy;refine E_br hE ?_ ?_ <;> intro g <;> cbv
 · rw [← one x1 y1 hx1 hy1 (by subst hE; exact bF g)]
 have g1 : ¬ x1 < y1 := by subst hE; exact aW g
 refine E_br hE ?_ ?_ <;> intro g <;> cbv
 · rw [← two x1 y1 hx1 hy1 (by subst hE; exact cU g)]
 have g2 : ¬ y1 < x1 := by subst hE; exact dB g
 (refine E_cx hE (c_natCmp a b ha hb la lb) ?_; intro c hc; cbv)
 (try (refine E_nm hE fun z ez => ?_; cbv))
 refine ez.trans ?_;have k := three x1 y1 c hx1 hy1 g1 g2 hc;rw [← k]; subst hE; rfl
def piOne : Nat := 2 ^ 192
theorem iW : ∃ t : Bool × List Int, t = whN (piOne : Int) ∧ aC Tryz.prog 63 [] (.agg [.bool (.s t.1), .sli .u32 t.2]) := by
 refine ⟨_, rfl, ?_⟩;generalize hr : whN (piOne : Int) = r;have l1 : Lb [(1 : Int)] := Lb.cons (by decide) (by decide) Lb.nil;have v1 : lv [(1 : Int)] = 1 := rfl;have fin : (false && decide (2 ^ 192 ≠ 0), lim (2 ^ 192)) = r := by rw [← hr, show piOne = 2 ^ 192 from rfl, cS]; rfl
 have len : (lim (2 ^ 192)).length ≤ 268435456 := Ae (lim_length_le (k := 7) (by decide +kernel)) (by decide);clear hr;refine callsA_o Tryz.func63 fun E hE lp hl' => ?_
 have es : E.sub [1] 0 1 = [1] := by subst hE; rfl
 cbv
 (refine E_cx hE (jM _ 192 ?_ ?_) ?_; all_goals (first | (intro u hu; cbv) | (first | (show Lb (E.sub [1] 0 1); rw [es]; exact l1) | (show (E.sub [1] 0 1).length < 67108864; rw [es]; decide))))
 have hu : u = lim (2 ^ 192) := by
  have k : u = (if (192 : Int) < 1 then lim (lv (E.sub [1] 0 1)) else if 16777216 < (192 : Int) then [] else lim (lv (E.sub [1] 0 1) * 2 ^ (192 : Int).toNat)) := hu;rw [k, es, v1, if_neg (by decide), if_neg (by decide), Dv]; rfl
 have ub : Lb u := by rw [hu]; exact lim_lb _
 have ul : u.length ≤ 268435456 := by rw [hu]; exact len
 (refine E_cx hE (c_wMake false u ub ul) ?_; intro t ht; cbv)
 have k : t = r := by
  have k : t = (false && decide (lv u ≠ 0), lim (lv u)) := ht;rw [k, hu, aJ]; exact fin
 rw [← k]; exact ⟨rfl, rfl, trivial⟩
theorem mulN (na : Bool) (a : List Int) (nb : Bool) (b : List Int) : ((na != nb) && decide (lv a * lv b ≠ 0), lim (lv a * lv b)) = whN (wv na a * wv nb b) := by
 rw [cS]; unfold wv; congr 1;cases na <;> cases nb <;> simp [Cd, Int.mul_neg, Int.neg_neg]
theorem gF (na : Bool) (a : List Int) (n : Int) (ha : Lb a) (hla : a.length < 60000000) (h1 : -9223372036854775808 ≤ n) (h2 : n < 9223372036854775808) :
 ∃ t : Bool × List Int, t = whN (wv na a * n) ∧ aC Tryz.prog 181 [.agg [.bool (.s na), .sli .u32 a], .int .i64 (.s n)] (.agg [.bool (.s t.1), .sli .u32 t.2]) := by
 refine ⟨_, rfl, ?_⟩;generalize hr : whN (wv na a * n) = r;have len : (lim n.natAbs).length < 60000000 := Ah (lim_length_le (k := 2) (by rw [show (4294967296 : Nat) ^ 2 = 18446744073709551616 by decide +kernel]; omega)) (by decide);have fin : ∀ (u t : Bool × List Int), u = (decide (n < 0), lim n.natAbs) → t = ((na != u.1) && decide (lv a * lv u.2 ≠ 0), lim (lv a * lv u.2)) → t = r := by
  intro u t hu ht;rw [ht, mulN, ← hr, show u = whN n from hu, dZ]
 clear hr;refine callsA_o Tryz.func181 fun E hE lp hl' => ?_
 cbv
 (refine E_px hE (c_wFrom n h1 h2) ?_; intro u hu; cbv)
 have ub : Lb u.2 := by rw [show u = (decide (n < 0), lim n.natAbs) from hu]; exact lim_lb _
 have ul : u.2.length < 60000000 := by rw [show u = (decide (n < 0), lim n.natAbs) from hu]; exact len
 apply E_pcallX hE (aIE na a u.1 u.2 ha ub hla ul)
 case hm => rfl
 case hle => exact ⟨bK, trivial⟩
 intro t ht;cbv;have k : t = r := fin u t hu ht;rw [← k]; exact ⟨rfl, rfl, trivial⟩
theorem aIL (a b : List Int) (ha : Lb a) (hb : Lb b) (hla : a.length < 33554432) (hlb : b.length < 33554432) (hb0 : lv b ≠ 0) :
 ∃ t : (Bool × List Int) × (Bool × List Int), t = (whN ((lv a / lv b : Nat) : Int), whN ((lv a % lv b : Nat) : Int)) ∧
  aC Tryz.prog 141 [.agg [.bool (.s false), .sli .u32 a], .agg [.bool (.s false), .sli .u32 b]] (.tup [.agg [.bool (.s t.1.1), .sli .u32 t.1.2], .agg [.bool (.s t.2.1), .sli .u32 t.2.2], .bool (.s true)]) := by
 refine ⟨_, rfl, ?_⟩;generalize hr : (whN ((lv a / lv b : Nat) : Int), whN ((lv a % lv b : Nat) : Int)) = r;have qn : ∀ (t : Bool × List Int), t = (false && decide (lv a / lv b ≠ 0), lim (lv a / lv b)) → t = r.1 := by
  intro t h; rw [h, ← hr, cS]; rfl
 have rn : ∀ (t : Bool × List Int), t = (false && decide (lv a % lv b ≠ 0), lim (lv a % lv b)) → t = r.2 := by
  intro t h; rw [h, ← hr, cS]; rfl
 have b1 : b.length < 67108864 := by omega
 have l1 : (lim (lv a / lv b)).length ≤ 268435456 := by have := dC (Bo (lv a) (lv b)); have := aO ha; omega
 have l2 : (lim (lv a % lv b)).length < 67108864 := by have := dC (Nat.mod_le (lv a) (lv b)); have := aO ha; omega
 have l3 : (lim (lv a % lv b)).length ≤ 268435456 := by omega
 clear hr;refine callsA_o Tryz.func141 fun E hE lp hl' => ?_
 cbv
 (refine E_cx hE (oZ a b ha hb hla hlb) ?_; intro d hd; cbv)
 have hd : d = (lim (lv a / lv b), lim (lv a % lv b), true) := by
  have k : d = (if lv b = 0 then ([], [], false) else (lim (lv a / lv b), lim (lv a % lv b), true)) := hd;rw [k, if_neg hb0]
 have d1 : d.1 = lim (lv a / lv b) := by rw [hd]
 have d2 : d.2.1 = lim (lv a % lv b) := by rw [hd]
 have d3 : d.2.2 = true := by rw [hd]
 have db : Lb d.1 := by rw [d1]; exact lim_lb _
 have dc : Lb d.2.1 := by rw [d2]; exact lim_lb _
 have dl : d.1.length ≤ 268435456 := by rw [d1]; exact l1
 have dm : d.2.1.length ≤ 268435456 := by rw [d2]; exact l3
 refine E_br hE (fun g => ?_) (fun g => ?_)
 · exfalso;have k : E.bnot d.2.2 = true := g;rw [d3] at k; subst hE; cases k
 cbv
 (refine E_px hE (c_wMake _ d.1 db dl) ?_; intro x hx; cbv)
 (refine E_px hE (c_wMake _ d.2.1 dc dm) ?_; intro y hy; cbv)
 have ex : x = r.1 := qn x (by have k : x = ((E.bnot (E.beq false false)) && decide (lv d.1 ≠ 0), lim (lv d.1)) := hx; rw [k, d1, aJ]; subst hE; rfl);have ey : y = r.2 := rn y (by have k : y = (false && decide (lv d.2.1 ≠ 0), lim (lv d.2.1)) := hy; rw [k, d2, aJ]);have y0 : y = (false, lim (lv a % lv b)) := by have k : y = (false && decide (lv d.2.1 ≠ 0), lim (lv d.2.1)) := hy; rw [k, d2, aJ]; rfl
 have yb : Lb y.2 := by rw [y0]; exact lim_lb _
 have yl : y.2.length < 67108864 := by rw [y0]; exact l2
 (refine E_px hE (c_wSign y.1 y.2 yb yl) ?_; intro s hs; cbv)
 (refine E_px hE (c_wSign false b hb b1) ?_; intro z hz; cbv)
 have hs : s = 0 ∨ s = 1 := by
  have k : s = (if lv y.2 = 0 then 0 else if y.1 then -1 else 1) := hs;rw [k, y0]; split
  · exact .inl rfl
  · exact .inr rfl
 have hz : z = 1 := by
  have k : z = (if lv b = 0 then 0 else if false then -1 else 1) := hz;rw [k, if_neg hb0]; rfl
 refine E_br hE (fun g => ?_) (fun g => ?_)
 · exfalso;have k : E.bin .mul .i64 s z < 0 := by subst hE; exact bF g
   rw [hz] at k;subst hE;rcases hs with h | h <;> (rw [h] at k; exact absurd k (by decide))
 cbv;exact ⟨⟨congrArg Prod.fst ex, congrArg Prod.snd ex, trivial⟩, ⟨congrArg Prod.fst ey, congrArg Prod.snd ey, trivial⟩, trivial⟩
theorem c_rTrim (a : List Int) (ha : Lb a) (hb : a.length ≤ 268435456) : ∃ t : List Int, t = lim (lv a) ∧ aC Tryz.prog 144 [.sli .u32 a] (.sli .u32 t) := by
 refine ⟨_, rfl, ?_⟩;generalize hr : lim (lv a) = r;refine callsA_o Tryz.func144 fun E hE lp hl => ?_
 cbv;refine E_nm hE fun n0 hn0 => ?_
 cbv;obtain ⟨m, em⟩ : ∃ m : Int → Nat, ∀ i, m i = i.toNat := ⟨_, fun _ => rfl⟩
 obtain ⟨ok, eok⟩ : ∃ ok : Int → Prop, ∀ i, ok i ↔ 0 ≤ i ∧ i ≤ a.length ∧ lv (a.take i.toNat) = lv a := ⟨_, fun _ => Bs⟩
 refine E_loop hE hG hm hl (fun i : Int => (⟨[(0, .sli .u32 a), (2, .s0), (3, .int .i64 (.s i))], []⟩ : St)) m ok ⟨n0, ?_, stLe rfl ?_⟩ ?_
 · subst hE; replace hn0 : n0 = (a.length : Int) := hn0; subst hn0; exact (eok _).2 ⟨by show (0 : Int) ≤ (a.length : Int); omega, by show (a.length : Int) ≤ a.length; omega, by show lv (a.take ((a.length : Int)).toNat) = _; rw [Ak, List.take_length]⟩
 · (repeat' (first | exact bC | apply aV | exact aN | exact aM | exact aI | exact bI | exact aQ | exact (rfl : sle2 .s0 .s0)))
 intro i hok;have h1 := ((eok i).1 hok).1;have h2 := ((eok i).1 hok).2.1;have h3 := ((eok i).1 hok).2.2;have next : 0 < i → a.getD (i - 1).toNat 0 = 0 → m (i - 1) < m i ∧ ok (i - 1) := by
  intro p z;refine ⟨by rw [em, em]; omega, (eok _).2 ⟨by omega, by omega, ?_⟩⟩;rw [show (i - 1).toNat = i.toNat - 1 by omega, lY (by omega) (by omega) (by rw [← show (i - 1).toNat = i.toNat - 1 by omega]; exact z)];exact h3
 have stop : (i ≤ 0 ∨ a.getD (i - 1).toNat 0 ≠ 0) → a.take i.toNat = r := by
  intro z;rw [← hr];refine cut_end ha (by omega) ?_ h3;rcases z with z | z
  · exact .inl (by omega)
  · rcases Bm 0 i with p | p
    · exact .inr (by rw [← show (i - 1).toNat = i.toNat - 1 by omega]; exact z)
    · exact .inl (by omega)
 have wp : 0 < i → IntKind.i64.wrap (i - 1) = i - 1 := fun p => rR p (by omega)
 clear hok h3;cbv;repeat' (first
   | (refine E_br hE ?_ ?_ <;> intro h <;> cbv)
   | (refine E_nm hE fun v hv => ?_; cbv)
   | (refine aT hE (fun b hb => ?_); cbv)
   | fail)
 all_goals (try refine ⟨v, ?_, ?_, stLe rfl ?_⟩)
 all_goals (try ((repeat' (first | exact bC | apply aV | exact aN | exact aM | exact aI | exact bI | exact aQ | exact (rfl : sle2 .s0 .s0))); done))
 all_goals (subst hE; simp only [NatCast.natCast, Ac, aB, aE, aH, aG, aF, aK, aL, aA, Ab, Aa, SI.val, SB.val, Num.eta, Iv.eta] at *)
 all_goals (try (
   have pz : 0 < i := by assumption
   rw [wp pz] at *))
 all_goals (first
   | (exfalso; (try simp only [List.length_take, List.length_drop] at *); omega)
   | (rw [‹v = i - 1›]; first | exact (next ‹_› ‹_›).1 | exact (next ‹_› ‹_›).2)
   | (
      have st := stop (by first | exact .inl (by omega) | exact .inr ‹_›);have dr : (a.drop (Int.toNat 0)).take i.toNat = a.take i.toNat := by simp
      first
        | (
           have z : (a.take i.toNat).length = 0 := by (rw [← dr]; omega)
           rw [List.length_eq_zero_iff.1 z] at st; exact st.symm)
        | (rw [dr, Ak]; show ((a.take i.toNat).drop 0).take (a.take i.toNat).length = r; rw [List.drop_zero, List.take_length]; exact st)))
theorem qU (a : List Int) (i : Int) (ha : Lb a) (h0 : 0 ≤ i) (h1 : i < 9223372036854775808) : ∃ t : Int, t = a.getD i.toNat 0 ∧ aC Tryz.prog 196 [.sli .u32 a, .int .i64 (.s i)] (.int .u64 (.s t)) := by
 refine ⟨_, rfl, ?_⟩;generalize hr : a.getD i.toNat 0 = r;have hx := ha.getD i.toNat;have hp : a.length ≤ i.toNat → a.getD i.toNat 0 = 0 := fun k => getD_past k
 refine callsA_o Tryz.func196 fun E hE lp hl => ?_
 cbv;repeat' (first
   | (refine E_br hE ?_ ?_ <;> intro h <;> cbv)
   | (refine E_nm hE fun v hv => ?_; cbv)
   | (refine aT hE (fun b hb => ?_); cbv)
   | fail)
 all_goals (subst hE; simp only [NatCast.natCast, Ac, aB, aE, aH, aG, aF, aK, aL, aA, Ab, Aa, SI.val, SB.val, Num.eta, Iv.eta] at *)
 all_goals (try omega)
 all_goals (rw [← hr, ‹v = _›]; exact cG (by omega) (by omega))
theorem fV {l : List Int} {n : Int} (h : n = l.length) : (l.drop (0 : Int).toNat).take n.toNat = l := by subst h; simp
def aTL (a b : List Int) : Int × Int × Option (List Int × Int) → St
 | (i, c, none) => ⟨[(0, .sli .u32 a), (1, .sli .u32 b), (4, .s0), (5, .s0), (6, .int .u64 (.s c)), (7, .int .i64 (.s i))], []⟩
 | (i, c, some (l, n)) => ⟨[(0, .sli .u32 a), (1, .sli .u32 b), (4, .s0), (5, .ms 0 1 (.l 0) (.s n)), (6, .int .u64 (.s c)), (7, .int .i64 (.s i))], [.ints true .u32 l]⟩
def eD : Option (List Int × Int) → List Int
 | none => []
 | some (l, _) => l
def fE : Option (List Int × Int) → Int
 | none => 0
 | some (_, n) => n
theorem aJW {x y c v : Int} (hx : 0 ≤ x ∧ x < 4294967296) (hy : 0 ≤ y ∧ y < 4294967296) (c0 : 0 ≤ c) (c1 : c ≤ 1) (hv : v = IntKind.u64.wrap (IntKind.u64.wrap (x + y) + c)) :
 IntKind.u32.wrap (aA .rem .u64 v 4294967296) = (x + y + c) % 4294967296 ∧ aA .quo .u64 v 4294967296 = (x + y + c) / 4294967296 := by
 have e : v = x + y + c := by rw [hv, wu64, wu64]; omega
 subst e;rw [uC (by omega), tT (by omega) (by omega), wu32];exact ⟨by omega, rfl⟩
theorem oD (a b : List Int) (ha : Lb a) (hb : Lb b) (hla : a.length < 268435456) (hlb : b.length < 268435456) : ∃ t : List Int, t = lim (lv a + lv b) ∧ aC Tryz.prog 150 [.sli .u32 a, .sli .u32 b] (.sli .u32 t) := by
 refine ⟨_, rfl, ?_⟩;generalize hr : lim (lv a + lv b) = r;refine callsA_o Tryz.func150 fun E hE lp hl => ?_
 cbv;obtain ⟨m, em⟩ : ∃ m : Int × Int × Option (List Int × Int) → Nat, ∀ p, m p = 2 * (max (a.length : Int) b.length - p.1).toNat + p.2.1.toNat := ⟨_, fun _ => rfl⟩
 obtain ⟨ok, eok⟩ : ∃ ok : Int × Int × Option (List Int × Int) → Prop, ∀ p, ok p ↔ (0 ≤ p.1 ∧ p.1 ≤ max (a.length : Int) b.length + 1 ∧ RAdd a b (eD p.2.2) p.1.toNat p.2.1 ∧ fE p.2.2 = (eD p.2.2).length) := ⟨_, fun _ => Bs⟩
 refine E_loopM hE hG hm hl (aTL a b) m ok ⟨(0, 0, none), [], (eok _).2 ⟨Bc _, by show (0 : Int) ≤ _; omega, RAdd.start a b, rfl⟩, bV trivial rfl rfl rfl trivial ?_⟩ ?_
 · (repeat' (first | exact bW | refine bN (dH rfl rfl) rfl ?_ | refine bE ?_ rfl ?_ | exact aM | exact aI | exact aN | exact (rfl : sle2 .s0 .s0)))
 have next : ∀ i c o (v x y : Int), ok (i, c, o) → (i < a.length ∨ i < b.length ∨ 0 < c) → x = a.getD i.toNat 0 → y = b.getD i.toNat 0 → v = IntKind.u64.wrap (IntKind.u64.wrap (x + y) + c) →
  m (IntKind.i64.wrap (i + 1), aA .quo .u64 v 4294967296, some (eD o ++ [IntKind.u32.wrap (aA .rem .u64 v 4294967296)], fE o + 1)) < m (i, c, o) ∧
  ok (IntKind.i64.wrap (i + 1), aA .quo .u64 v 4294967296, some (eD o ++ [IntKind.u32.wrap (aA .rem .u64 v 4294967296)], fE o + 1)) := by
  intro i c o v x y hok hc hx hy hv;obtain ⟨h1, h2, h3, h4⟩ := (eok _).1 hok;dsimp only at h1 h2 h3 h4;have gx := ha.getD i.toNat;have gy := hb.getD i.toNat;have c0 := h3.c0;have c1 := h3.c1;have st := h3.step ha hb;have past := h3.past;rw [← hx, ← hy] at st;rw [← hx] at gx;rw [← hy] at gy;have w := aJW gx gy c0 c1 hv;rw [w.1, w.2, wi64_id (by omega) (by omega)];have px : a.length ≤ i.toNat → x = 0 := fun k => by rw [hx]; exact getD_past k
  have py : b.length ≤ i.toNat → y = 0 := fun k => by rw [hy]; exact getD_past k
  refine ⟨?_, (eok _).2 ⟨by show 0 ≤ i + 1; omega, ?_, by show RAdd a b _ (i + 1).toNat _; rw [show (i + 1).toNat = i.toNat + 1 by omega]; exact st, ?_⟩⟩
  · rw [em, em];show 2 * (max (a.length : Int) b.length - (i + 1)).toNat + ((x + y + c) / 4294967296).toNat < 2 * (max (a.length : Int) b.length - i).toNat + c.toNat;rcases Bm i (max (a.length : Int) b.length) with k | k
    · omega
    · have := px (by omega); have := py (by omega); omega
  · show i + 1 ≤ _;rcases Bm i (max (a.length : Int) b.length + 1) with k | k
    · omega
    · have := past (by omega) (by omega); omega
  · show fE o + 1 = ((eD o ++ _).length : Int);rw [h4]; simp
 have stop : ∀ i c o, ok (i, c, o) → ¬ i < a.length → ¬ i < b.length → ¬ 0 < c → Lb (eD o) ∧ (eD o).length ≤ 268435456 ∧ lim (lv (eD o)) = r ∧ fE o = (eD o).length := by
  intro i c o hok n1 n2 n3;obtain ⟨h1, h2, h3, h4⟩ := (eok _).1 hok;dsimp only at h1 h2 h3 h4;refine ⟨h3.lb, by rw [h3.len]; omega, ?_, h4⟩;rw [h3.stop (by omega) (by omega) n3, hr]
 have bnd : ∀ i c o, ok (i, c, o) → 0 ≤ i ∧ i < 9223372036854775807 ∧ 0 ≤ fE o ∧ fE o < 17179869184 ∧ fE o = (eD o).length := by
  intro i c o hok;obtain ⟨h1, h2, h3, h4⟩ := (eok _).1 hok;dsimp only at h1 h2 h3 h4;refine ⟨h1, by omega, by rw [h4]; omega, by rw [h4, h3.len]; omega, h4⟩
 rintro ⟨i, c, (_ | ⟨l, n⟩)⟩ hok
 · have nx := fun v x y => next i c none v x y hok
   have sp := stop i c none hok;have bd := bnd i c none hok;clear next stop bnd hok
   cbv;repeat' (first
     | (refine E_br hE ?_ ?_ <;> intro h <;> cbv)
     | (refine E_nm hE fun v hv => ?_; cbv)
     | (refine aT hE (fun b hb => ?_); cbv)
     | (apply E_callX hE (qU _ _ ha ?_ ?_); (case hf => rfl); (case hc => (cbv <;> trivial)); (case hle => (first | exact u_up | repeat' (first | exact fW | apply dV | apply dR | exact aM | exact dU | exact aI | exact cV | exact aN | exact dY | exact cR | exact gG))); all_goals (first | (intro t ht; cbv) | ((subst hE; first | exact bd.1 | exact Ea bd.2.1 (by decide)))))
     | (apply E_callX hE (qU _ _ hb ?_ ?_); (case hf => rfl); (case hc => (cbv <;> trivial)); (case hle => exact u_up); all_goals (first | (intro t ht; cbv) | ((subst hE; first | exact bd.1 | exact Ea bd.2.1 (by decide)))))
     | (apply E_callX hE (c_rTrim _ ?_ ?_); (case hf => rfl); (case hc => (cbv <;> trivial)); (case hle => (repeat' (first | exact fW | apply dV | apply dR | exact aM | exact dU | exact aI | exact cV | exact aN | exact dY | exact cR | exact gG))); all_goals (first | (intro t ht; cbv) | ((subst hE; first | exact Lb.nil | (show (0 : Nat) ≤ 268435456; decide)))))
     | fail)
   case refine_2.none.refine_2.refine_2.refine_2.hK =>
    subst hE;rw [ht];exact (sp (aW (by assumption)) (aW (by assumption)) (dB (by assumption))).2.2.1
   all_goals rename_i tx htx v1 hv1 w hw
   all_goals refine ⟨(v, w, some (E.sub [E.conv .u32 (E.bin .rem .u64 v1 4294967296)] 0 1, 1)), [1], ?_, ?_, bV ⟨rfl, trivial⟩ rfl rfl rfl trivial ?_⟩
   all_goals (try ((repeat' (first | exact bW | refine bN (dH rfl rfl) rfl ?_ | refine bE ?_ rfl ?_ | exact aM | exact aI | exact aN | exact (rfl : sle2 .s0 .s0))); done))
   all_goals (subst hE; have q := nx v1 tx t (by first | exact .inl (bF (by assumption)) | exact .inr (.inl (bF (by assumption))) | exact .inr (.inr (cU (by assumption)))) htx ht hv1; have hv' : v = IntKind.i64.wrap (i + 1) := hv; have hw' : w = aA .quo .u64 v1 4294967296 := hw; subst hv'; subst hw'; first | exact q.1 | exact q.2)
 · have nx := fun v x y => next i c (some (l, n)) v x y hok
   have sp := stop i c (some (l, n)) hok;have bd := bnd i c (some (l, n)) hok;have sl : (l.drop (0 : Int).toNat).take n.toNat = l := fV bd.2.2.2.2;clear next stop bnd hok
   cbv;repeat' (first
     | (refine E_br hE ?_ ?_ <;> intro h <;> cbv)
     | (refine E_nm hE fun v hv => ?_; cbv)
     | (refine aT hE (fun b hb => ?_); cbv)
     | (apply E_callX hE (qU _ _ ha ?_ ?_); (case hf => rfl); (case hc => (cbv <;> trivial)); (case hle => (first | exact u_up | repeat' (first | exact fW | apply dV | apply dR | exact aM | exact dU | exact aI | exact cV | exact aN | exact dY | exact cR | exact gG))); all_goals (first | (intro t ht; cbv) | ((subst hE; first | exact bd.1 | exact Ea bd.2.1 (by decide)))))
     | (apply E_callX hE (qU _ _ hb ?_ ?_); (case hf => rfl); (case hc => (cbv <;> trivial)); (case hle => exact u_up); all_goals (first | (intro t ht; cbv) | ((subst hE; first | exact bd.1 | exact Ea bd.2.1 (by decide)))))
     | (apply E_callX hE (c_rTrim _ ?_ ?_); (case hf => rfl); (case hc => (cbv <;> trivial)); (case hle => exact u_up); all_goals (first | (intro t ht; cbv) | ((subst hE; have q := sp (aW (by assumption)) (aW (by assumption)) (dB (by assumption)); first | (show Lb ((l.drop (0 : Int).toNat).take n.toNat); rw [sl]; exact q.1) | (show ((l.drop (0 : Int).toNat).take n.toNat).length ≤ _; rw [sl]; exact q.2.1)))))
     | fail)
   all_goals (try (exfalso; subst hE; have k1 := bQ ‹_›; have k2 := bd.2.2.2.1; apply k1; show n + 1 ≤ 17179869184; have k3 : n < 17179869184 := k2; omega))
   case refine_2.some.refine_2.refine_2.refine_2.hK =>
    subst hE;rw [ht];show lim (lv ((l.drop (0 : Int).toNat).take n.toNat)) = r;rw [sl];exact (sp (aW (by assumption)) (aW (by assumption)) (dB (by assumption))).2.2.1
   all_goals rename_i tx htx v1 hv1 w hw
   all_goals refine ⟨(v, w, some (E.app (E.sub l 0 n) (E.sub [E.conv .u32 (E.bin .rem .u64 v1 4294967296)] 0 1), E.plus n 1)), [2], ?_, ?_, bV ⟨rfl, trivial⟩ rfl rfl rfl trivial ?_⟩
   all_goals (try ((repeat' (first | exact bW | refine bN (dH rfl rfl) rfl ?_ | refine bE ?_ rfl ?_ | exact aM | exact aI | exact aN | exact (rfl : sle2 .s0 .s0))); done))
   all_goals (subst hE; have q := nx v1 tx t (by first | exact .inl (bF (by assumption)) | exact .inr (.inl (bF (by assumption))) | exact .inr (.inr (cU (by assumption)))) htx ht hv1; have hv' : v = IntKind.i64.wrap (i + 1) := hv; have hw' : w = aA .quo .u64 v1 4294967296 := hw; subst hv'; subst hw'; rw [show (aB Tryz.prog).sub l 0 n = l from sl]; first | exact q.1 | exact q.2)
theorem aRC (a b : List Int) (ha : Lb a) (hb : Lb b) (hla : a.length ≤ 268435456) (hlb : b.length ≤ 268435456) : ∃ t : Int, t = (if lv a < lv b then -1 else if lv b < lv a then 1 else 0 : Int) ∧ aC Tryz.prog 197 [.sli .u32 a, .sli .u32 b] (.int .i64 (.s t)) := by
 refine ⟨_, rfl, ?_⟩;generalize hr : (if lv a < lv b then -1 else if lv b < lv a then 1 else 0 : Int) = r;have hl1 := aO ha;have hl2 := aO hb;have l1 := lim_lb (lv a);have l2 := lim_lb (lv b);have v1 := aJ (lv a);have v2 := aJ (lv b);have k1 : (lim (lv a)).length < (lim (lv b)).length → r = -1 := by
  intro h; rw [← hr, if_pos (jD h)]
 have k2 : (lim (lv b)).length < (lim (lv a)).length → r = 1 := by
  intro h; have := jD h; rw [← hr, if_neg (by omega), if_pos this]
 have k3 : lv (lim (lv a)) < lv (lim (lv b)) → r = -1 := by
  intro h; rw [v1, v2] at h; rw [← hr, if_pos h]
 have k4 : lv (lim (lv b)) < lv (lim (lv a)) → r = 1 := by
  intro h; rw [v1, v2] at h; rw [← hr, if_neg (by omega), if_pos h]
 have k5 : lim (lv a) = lim (lv b) → r = 0 := by
  intro h; have := aHS h; rw [← hr, if_neg (by omega), if_neg (by omega)]
 refine callsA_o Tryz.func197 fun E hE lp hl => ?_
 cbv
 (apply E_callX hE (c_rTrim a ha hla); (case hf => rfl); (case hc => (cbv <;> trivial)); (case hle => exact ⟨aN, trivial⟩); intro x hx; cbv)
 (apply E_callX hE (c_rTrim b hb hlb); (case hf => rfl); (case hc => (cbv <;> trivial)); (case hle => exact ⟨aN, trivial⟩); intro y hy; cbv)
 rw [← hx] at k1 k2 k3 k4 k5 hl1 l1;rw [← hy] at k1 k2 k3 k4 k5 hl2 l2;refine E_br hE ?_ ?_ <;> intro h0 <;> cbv
 · refine E_br hE ?_ ?_ <;> intro h <;> cbv
   · subst hE; have h3 : (x.length : Int) < y.length := bF h; exact (k1 (by omega)).symm
   · subst hE;have h1 : ¬ (x.length : Int) < y.length := aW h;have h2 : ¬ (x.length : Int) = y.length := by simpa only [aB, aH, Ab, ne_eq] using h0
     exact (k2 (by omega)).symm
 have hlen : x.length = y.length := by
  subst hE;have h2 : ¬ ¬ (x.length : Int) = y.length := by simpa only [aB, aH, Aa, ne_eq] using h0
  omega
 refine E_nm hE fun n0 hn0 => ?_
 cbv;obtain ⟨m, em⟩ : ∃ m : Int → Nat, ∀ i, m i = (i + 1).toNat := ⟨_, fun _ => rfl⟩
 obtain ⟨ok, eok⟩ : ∃ ok : Int → Prop, ∀ i, ok i ↔ -1 ≤ i ∧ i < x.length ∧ x.drop (i + 1).toNat = y.drop (i + 1).toNat := ⟨_, fun _ => Bs⟩
 refine E_loop hE hG hm hl (fun i : Int => (⟨[(5, .sli .u32 x), (6, .sli .u32 y), (7, .int .i64 (.s i))], []⟩ : St)) m ok ⟨n0, ?_, stLe rfl ?_⟩ ?_
 · have e : n0 = (x.length : Int) - 1 := by
    subst hE;replace hn0 : n0 = IntKind.i64.wrap ((x.length : Int) - 1) := hn0;rw [hn0, wi64]; omega
   refine (eok _).2 ⟨by omega, by omega, ?_⟩;rw [e, show ((x.length : Int) - 1 + 1).toNat = x.length by omega, List.drop_length, List.drop_eq_nil_of_le (by omega)]
 · (repeat' (first | exact bC | apply aV | exact aN | exact aM | exact aI | exact bI | exact aQ | exact (rfl : sle2 .s0 .s0)))
 intro i hok;have h1 := ((eok i).1 hok).1;have h2 := ((eok i).1 hok).2.1;have h3 := ((eok i).1 hok).2.2;have low : 0 ≤ i → x.getD i.toNat 0 < y.getD i.toNat 0 → -1 = r := by
  intro hi h;exact (k3 (cmp_step l1 l2 (k := i.toNat) hlen (by omega) (by rw [show i.toNat + 1 = (i + 1).toNat by omega]; exact h3) h)).symm
 have high : 0 ≤ i → y.getD i.toNat 0 < x.getD i.toNat 0 → 1 = r := by
  intro hi h;exact (k4 (cmp_step l2 l1 (k := i.toNat) hlen.symm (by omega) (by rw [show i.toNat + 1 = (i + 1).toNat by omega]; exact h3.symm) h)).symm
 have same : 0 ≤ i → ¬ y.getD i.toNat 0 < x.getD i.toNat 0 → ¬ x.getD i.toNat 0 < y.getD i.toNat 0 → m (i - 1) < m i ∧ ok (i - 1) := by
  intro hi h h';refine ⟨by rw [em, em]; omega, (eok _).2 ⟨by omega, by omega, ?_⟩⟩;rw [show (i - 1 + 1).toNat = i.toNat by omega];exact xQ hlen (by omega) (by rw [show i.toNat + 1 = (i + 1).toNat by omega]; exact h3) (by omega)
 have done : ¬ 0 ≤ i → 0 = r := by
  intro h;rw [k5 (by rw [show (i + 1).toNat = 0 by omega] at h3; simpa using h3)]
 have ylen : i < y.length := by omega
 have wp : 0 ≤ i → IntKind.i64.wrap (i - 1) = i - 1 := fun p => by rw [wi64]; omega
 clear h3 k1 k2 k3 k4 k5 hok;cbv;repeat' (first
   | (refine E_br hE ?_ ?_ <;> intro h <;> cbv)
   | (refine E_nm hE fun v hv => ?_; cbv)
   | (refine aT hE (fun b hb => ?_); cbv)
   | fail)
 all_goals (try refine ⟨v, ?_, ?_, stLe rfl ?_⟩)
 all_goals (try ((repeat' (first | exact bC | apply aV | exact aN | exact aM | exact aI | exact bI | exact aQ | exact (rfl : sle2 .s0 .s0))); done))
 all_goals (subst hE; simp only [NatCast.natCast, Ac, aB, aE, aH, aG, aF, aK, aL, aA, Ab, Aa, SI.val, SB.val, Num.eta, Iv.eta] at *)
 all_goals (first
   | (exfalso; omega)
   | exact done ‹_›
   | exact low ‹_› ‹_›
   | exact high ‹_› ‹_›
   | (rw [‹v = _›, wp ‹_›]; first | exact (same ‹_› ‹_› ‹_›).1 | exact (same ‹_› ‹_› ‹_›).2))
def aTP (a b : List Int) : Int × Int × Option (List Int × Int) → St
 | (i, c, none) => ⟨[(0, .sli .u32 a), (1, .sli .u32 b), (6, .s0), (7, .int .u64 (.s c)), (8, .int .i64 (.s i))], []⟩
 | (i, c, some (l, n)) => ⟨[(0, .sli .u32 a), (1, .sli .u32 b), (6, .ms 0 1 (.l 0) (.s n)), (7, .int .u64 (.s c)), (8, .int .i64 (.s i))], [.ints true .u32 l]⟩
theorem aJG {x y c v : Int} (hx : 0 ≤ x ∧ x < 4294967296) (hy : 0 ≤ y ∧ y < 4294967296) (c0 : 0 ≤ c) (c1 : c ≤ 1) (hv : v = IntKind.u64.wrap (IntKind.u64.wrap (IntKind.u64.wrap (4294967296 + x) - y) - c)) :
 IntKind.u32.wrap (aA .rem .u64 v 4294967296) = (4294967296 + x - y - c) % 4294967296 ∧ IntKind.u64.wrap (1 - aA .quo .u64 v 4294967296) = 1 - (4294967296 + x - y - c) / 4294967296 := by
 have e : v = 4294967296 + x - y - c := by rw [hv, wu64, wu64, wu64]; omega
 subst e;rw [uC (by omega), tT (by omega) (by omega), wu32, wu64];exact ⟨by omega, by omega⟩
theorem aAC (a b : List Int) (ha : Lb a) (hb : Lb b) (hla : a.length < 268435456) (hlb : b.length < 268435456) : ∃ t : List Int × Bool, t = (if lv a < lv b then ([], false) else (lim (lv a - lv b), true)) ∧ aC Tryz.prog 151 [.sli .u32 a, .sli .u32 b] (.tup [.sli .u32 t.1, .bool (.s t.2)]) := by
 refine ⟨_, rfl, ?_⟩;generalize hr : (if lv a < lv b then ([], false) else (lim (lv a - lv b), true) : List Int × Bool) = r;refine callsA_o Tryz.func151 fun E hE lp hl => ?_
 cbv
 (apply E_callX hE (aRC a b ha hb (by omega) (by omega)); (case hf => rfl); (case hc => (cbv <;> trivial)); (case hle => exact ⟨aN, aN, trivial⟩); intro tc htc; cbv)
 refine E_br hE ?_ ?_ <;> intro h0 <;> cbv
 · subst hE;have h1 : tc < 0 := bF h0;have h2 : lv a < lv b := by
    rcases Ar (lv a) (lv b) with k | k
    · exact k
    · exfalso; rw [htc, if_neg (by omega)] at h1; split at h1 <;> omega
   rw [if_pos h2] at hr;subst hr;exact ⟨rfl, rfl, trivial⟩
 have hle : lv b ≤ lv a := by
  subst hE;have h1 : ¬ tc < 0 := aW h0;rcases Ar (lv a) (lv b) with k | k
  · exfalso; rw [htc, if_pos k] at h1; omega
  · exact k
 rw [if_neg (by omega)] at hr;clear htc h0;obtain ⟨m, em⟩ : ∃ m : Int × Int × Option (List Int × Int) → Nat, ∀ p, m p = ((a.length : Int) - p.1).toNat := ⟨_, fun _ => rfl⟩
 obtain ⟨ok, eok⟩ : ∃ ok : Int × Int × Option (List Int × Int) → Prop, ∀ p, ok p ↔ (0 ≤ p.1 ∧ p.1 ≤ (a.length : Int) ∧ RSub a b (eD p.2.2) p.1.toNat p.2.1 ∧ fE p.2.2 = (eD p.2.2).length) := ⟨_, fun _ => Bs⟩
 refine E_loopM hE hG hm hl (aTP a b) m ok ⟨(0, 0, none), [], (eok _).2 ⟨Bc _, by show (0 : Int) ≤ _; omega, RSub.start a b, rfl⟩, bV trivial rfl rfl rfl trivial ?_⟩ ?_
 · (repeat' (first | exact bW | refine bN (dH rfl rfl) rfl ?_ | refine bE ?_ rfl ?_ | exact aM | exact aI | exact aN | exact (rfl : sle2 .s0 .s0)))
 have next : ∀ i c o (v x y : Int), ok (i, c, o) → i < a.length → x = a.getD i.toNat 0 → y = b.getD i.toNat 0 → v = IntKind.u64.wrap (IntKind.u64.wrap (IntKind.u64.wrap (4294967296 + x) - y) - c) →
  m (IntKind.i64.wrap (i + 1), IntKind.u64.wrap (1 - aA .quo .u64 v 4294967296), some (eD o ++ [IntKind.u32.wrap (aA .rem .u64 v 4294967296)], fE o + 1)) < m (i, c, o) ∧
  ok (IntKind.i64.wrap (i + 1), IntKind.u64.wrap (1 - aA .quo .u64 v 4294967296), some (eD o ++ [IntKind.u32.wrap (aA .rem .u64 v 4294967296)], fE o + 1)) := by
  intro i c o v x y hok hc hx hy hv;obtain ⟨h1, h2, h3, h4⟩ := (eok _).1 hok;dsimp only at h1 h2 h3 h4;have gx := ha.getD i.toNat;have gy := hb.getD i.toNat;have c0 := h3.c0;have c1 := h3.c1;have st := h3.step ha hb;rw [← hx, ← hy] at st;rw [← hx] at gx;rw [← hy] at gy;have w := aJG gx gy c0 c1 hv;rw [w.1, w.2, wi64_id (by omega) (by omega)];refine ⟨by rw [em, em]; show ((a.length : Int) - (i + 1)).toNat < ((a.length : Int) - i).toNat; omega, (eok _).2 ⟨by show 0 ≤ i + 1; omega, by show i + 1 ≤ (a.length : Int); omega, by show RSub a b _ (i + 1).toNat _; rw [show (i + 1).toNat = i.toNat + 1 by omega]; exact st, ?_⟩⟩;show fE o + 1 = ((eD o ++ _).length : Int);rw [h4]; simp
 have stop : ∀ i c o, ok (i, c, o) → ¬ i < a.length → Lb (eD o) ∧ (eD o).length ≤ 268435456 ∧ (lim (lv (eD o)), true) = r ∧ fE o = (eD o).length := by
  intro i c o hok n1;obtain ⟨h1, h2, h3, h4⟩ := (eok _).1 hok;dsimp only at h1 h2 h3 h4;rw [show i.toNat = a.length by omega] at h3;refine ⟨h3.lb, by rw [h3.len]; omega, ?_, h4⟩;rw [h3.stop ha hle, hr]
 have bnd : ∀ i c o, ok (i, c, o) → 0 ≤ i ∧ i < 9223372036854775807 ∧ 0 ≤ fE o ∧ fE o < 17179869184 ∧ fE o = (eD o).length := by
  intro i c o hok;obtain ⟨h1, h2, h3, h4⟩ := (eok _).1 hok;dsimp only at h1 h2 h3 h4;refine ⟨h1, by omega, by rw [h4]; omega, by rw [h4, h3.len]; omega, h4⟩
 rintro ⟨i, c, (_ | ⟨l, n⟩)⟩ hok
 · have nx := fun v x y => next i c none v x y hok
   have sp := stop i c none hok;have bd := bnd i c none hok;clear next stop bnd hok
   cbv;repeat' (first
     | (refine E_br hE ?_ ?_ <;> intro h <;> cbv)
     | (refine E_nm hE fun v hv => ?_; cbv)
     | (refine aT hE (fun b hb => ?_); cbv)
     | (apply E_callX hE (qU _ _ ha ?_ ?_); (case hf => rfl); (case hc => (cbv <;> trivial)); (case hle => (first | exact u_up | repeat' (first | exact fW | apply dV | apply dR | exact aM | exact dU | exact aI | exact cV | exact aN | exact dY | exact cR | exact gG))); all_goals (first | (intro t ht; cbv) | ((subst hE; first | exact bd.1 | exact Ea bd.2.1 (by decide)))))
     | (apply E_callX hE (qU _ _ hb ?_ ?_); (case hf => rfl); (case hc => (cbv <;> trivial)); (case hle => exact u_up); all_goals (first | (intro t ht; cbv) | ((subst hE; first | exact bd.1 | exact Ea bd.2.1 (by decide)))))
     | (apply E_callX hE (c_rTrim _ ?_ ?_); (case hf => rfl); (case hc => (cbv <;> trivial)); (case hle => (repeat' (first | exact fW | apply dV | apply dR | exact aM | exact dU | exact aI | exact cV | exact aN | exact dY | exact cR | exact gG))); all_goals (first | (intro t ht; cbv) | ((subst hE; first | exact Lb.nil | (show (0 : Nat) ≤ 268435456; decide)))))
     | fail)
   case refine_2.none.refine_2.hK =>
    subst hE;have q := (sp (aW (by assumption))).2.2.1;rw [← q, ht];exact ⟨rfl, rfl, trivial⟩
   all_goals rename_i tx htx v1 hv1 w hw
   all_goals refine ⟨(v, w, some (E.sub [E.conv .u32 (E.bin .rem .u64 v1 4294967296)] 0 1, 1)), [1], ?_, ?_, bV ⟨rfl, trivial⟩ rfl rfl rfl trivial ?_⟩
   all_goals (try ((repeat' (first | exact bW | refine bN (dH rfl rfl) rfl ?_ | refine bE ?_ rfl ?_ | exact aM | exact aI | exact aN | exact (rfl : sle2 .s0 .s0))); done))
   all_goals (subst hE; have q := nx v1 tx t (bF (by assumption)) htx ht hv1; have hv' : v = IntKind.i64.wrap (i + 1) := hv; have hw' : w = IntKind.u64.wrap (1 - aA .quo .u64 v1 4294967296) := hw; subst hv'; subst hw'; first | exact q.1 | exact q.2)
 · have nx := fun v x y => next i c (some (l, n)) v x y hok
   have sp := stop i c (some (l, n)) hok;have bd := bnd i c (some (l, n)) hok;have sl : (l.drop (0 : Int).toNat).take n.toNat = l := fV bd.2.2.2.2;clear next stop bnd hok
   cbv;repeat' (first
     | (refine E_br hE ?_ ?_ <;> intro h <;> cbv)
     | (refine E_nm hE fun v hv => ?_; cbv)
     | (refine aT hE (fun b hb => ?_); cbv)
     | (apply E_callX hE (qU _ _ ha ?_ ?_); (case hf => rfl); (case hc => (cbv <;> trivial)); (case hle => (first | exact u_up | repeat' (first | exact fW | apply dV | apply dR | exact aM | exact dU | exact aI | exact cV | exact aN | exact dY | exact cR | exact gG))); all_goals (first | (intro t ht; cbv) | ((subst hE; first | exact bd.1 | exact Ea bd.2.1 (by decide)))))
     | (apply E_callX hE (qU _ _ hb ?_ ?_); (case hf => rfl); (case hc => (cbv <;> trivial)); (case hle => exact u_up); all_goals (first | (intro t ht; cbv) | ((subst hE; first | exact bd.1 | exact Ea bd.2.1 (by decide)))))
     | (apply E_callX hE (c_rTrim _ ?_ ?_); (case hf => rfl); (case hc => (cbv <;> trivial)); (case hle => exact u_up); all_goals (first | (intro t ht; cbv) | ((subst hE; have q := sp (aW (by assumption)); first | (show Lb ((l.drop (0 : Int).toNat).take n.toNat); rw [sl]; exact q.1) | (show ((l.drop (0 : Int).toNat).take n.toNat).length ≤ _; rw [sl]; exact q.2.1)))))
     | fail)
   all_goals (try (exfalso; subst hE; have k1 := bQ ‹_›; have k2 := bd.2.2.2.1; apply k1; show n + 1 ≤ 17179869184; have k3 : n < 17179869184 := k2; omega))
   case refine_2.some.refine_2.hK =>
    subst hE;have q := (sp (aW (by assumption))).2.2.1;rw [← q, ht];show lim (lv ((l.drop (0 : Int).toNat).take n.toNat)) = _ ∧ _;rw [sl];exact ⟨rfl, rfl, trivial⟩
   all_goals rename_i tx htx v1 hv1 w hw
   all_goals refine ⟨(v, w, some (E.app (E.sub l 0 n) (E.sub [E.conv .u32 (E.bin .rem .u64 v1 4294967296)] 0 1), E.plus n 1)), [2], ?_, ?_, bV ⟨rfl, trivial⟩ rfl rfl rfl trivial ?_⟩
   all_goals (try ((repeat' (first | exact bW | refine bN (dH rfl rfl) rfl ?_ | refine bE ?_ rfl ?_ | exact aM | exact aI | exact aN | exact (rfl : sle2 .s0 .s0))); done))
   all_goals (subst hE; have q := nx v1 tx t (bF (by assumption)) htx ht hv1; have hv' : v = IntKind.i64.wrap (i + 1) := hv; have hw' : w = IntKind.u64.wrap (1 - aA .quo .u64 v1 4294967296) := hw; subst hv'; subst hw'; rw [show (aB Tryz.prog).sub l 0 n = l from sl]; first | exact q.1 | exact q.2)
def aTX (a b U : List Int) (i N : Int) : Int × Int × Option (List Int × Int) → St
 | (k, c, none) => ⟨[(0, .sli .u32 a), (1, .sli .u32 b), (5, .ms 1 1 (.l 0) (.s N)), (6, .int .i64 (.s i)), (8, .s0), (9, .int .u64 (.s c)), (10, .int .i64 (.s k))], [.dead, .ints true .u32 U]⟩
 | (k, c, some (l, n)) => ⟨[(0, .sli .u32 a), (1, .sli .u32 b), (5, .ms 1 1 (.l 0) (.s N)), (6, .int .i64 (.s i)), (8, .ms 2 1 (.l 0) (.s n)), (9, .int .u64 (.s c)), (10, .int .i64 (.s k))], [.dead, .ints true .u32 U, .ints true .u32 l]⟩
theorem up_sub (o : List Int) : (((([0] : List Int).drop (0 : Int).toNat).take (1 : Int).toNat ++ o).drop (0 : Int).toNat).take (1 + (o.length : Int)).toNat = [0] ++ o := by
 rw [show (1 + (o.length : Int)).toNat = o.length + 1 by omega];simp
theorem aQG {l : List Int} {n x : Int} (h : n = l.length) : ((((l.drop (0 : Int).toNat).take n.toNat) ++ (([x] : List Int).drop (0 : Int).toNat).take (1 : Int).toNat).drop (0 : Int).toNat).take (n + 1).toNat = l ++ [x] := by
 rw [fV h, show (n + 1).toNat = l.length + 1 by omega];show ((l ++ [x]).drop 0).take (l.length + 1) = l ++ [x];rw [List.drop_zero, List.take_of_length_le (by simp)]
theorem aJJ {x y c v : Int} (hx : 0 ≤ x ∧ x < 4294967296) (hy : 0 ≤ y ∧ y < 4294967296) (hc : 0 ≤ c ∧ c < 4294967296) (hv : v = IntKind.u64.wrap (IntKind.u64.wrap (IntKind.u64.wrap x * IntKind.u64.wrap y) + c)) :
 IntKind.u32.wrap (aA .rem .u64 v 4294967296) = (x * y + c) % 4294967296 ∧ aA .quo .u64 v 4294967296 = (x * y + c) / 4294967296 := by
 have d := zN hx hy hc;have e : v = x * y + c := by
  rw [hv, cG (x := x) (by omega) (by omega), cG (x := y) (by omega) (by omega), cG (x := x * y) (by omega) (by omega), cG (by omega) (by omega)]
 subst e;rw [uC (by omega), tT (by omega) (by omega), wu32];exact ⟨by omega, rfl⟩
theorem aLI (a b : List Int) (ha : Lb a) (hb : Lb b) (hla : a.length < 67108864) (hlb : b.length < 67108864) : ∃ t : List Int, t = lim (lv a * lv b) ∧ aC Tryz.prog 194 [.sli .u32 a, .sli .u32 b] (.sli .u32 t) := by
 refine ⟨_, rfl, ?_⟩;generalize hr : lim (lv a * lv b) = r;refine callsA_o Tryz.func194 fun E hE lp hl => ?_
 cbv;refine E_nm hE fun n0 hn0 => ?_
 cbv;obtain ⟨m, em⟩ : ∃ m : Int × List Int → Nat, ∀ p, m p = (p.1 + 1).toNat := ⟨_, fun _ => rfl⟩
 obtain ⟨ok, eok⟩ : ∃ ok : Int × List Int → Prop, ∀ p, ok p ↔ (-1 ≤ p.1 ∧ p.1 < b.length ∧ p.2 = lim (lv a * lv (b.drop (p.1 + 1).toNat))) := ⟨_, fun _ => Bs⟩
 refine E_loopM hE hG hm hl (fun p : Int × List Int => (⟨[(0, .sli .u32 a), (1, .sli .u32 b), (5, .sli .u32 p.2), (6, .int .i64 (.s p.1))], []⟩ : St)) m ok ⟨(n0, []), [], ?_, bV trivial rfl rfl rfl trivial ?_⟩ ?_
 · have e : n0 = (b.length : Int) - 1 := by
    subst hE;replace hn0 : n0 = IntKind.i64.wrap ((b.length : Int) - 1) := hn0;rw [hn0, wi64]; omega
   refine (eok _).2 ⟨by show -1 ≤ n0; omega, by show n0 < _; omega, ?_⟩;show [] = lim (lv a * lv (b.drop (n0 + 1).toNat));rw [e, show ((b.length : Int) - 1 + 1).toNat = b.length by omega, List.drop_length]; rfl
 · (repeat' (first | exact bW | refine bN (dH rfl rfl) rfl ?_ | refine bE ?_ rfl ?_ | exact aM | exact aI | exact aN | exact (rfl : sle2 .s0 .s0) | exact cR))
 rintro ⟨i, o⟩ hok;have h1 := ((eok _).1 hok).1;have h2 := ((eok _).1 hok).2.1;have h3 := ((eok _).1 hok).2.2;dsimp only at h1 h2 h3;have olen : o.length ≤ 134217728 := by
  have k : lv a * lv (b.drop (i + 1).toNat) < 4294967296 ^ (a.length + b.length) := by
   rw [Ap];have l1 := bP ha;have l2 := bP (hb.drop (i + 1).toNat);have l3 : 4294967296 ^ (b.drop (i + 1).toNat).length ≤ 4294967296 ^ b.length := Ag (by decide) (by simp);exact Nat.mul_lt_mul'' l1 (by omega)
  have := lim_length_le k;rw [h3]; omega
 have fin : ∀ (t L : List Int) (c : Int), 0 ≤ i → RRow a (b.getD i.toNat 0) L a.length c → t = lim (lv ([0] ++ o) + lv (L ++ [IntKind.u32.wrap c])) → m (i - 1, t) < m (i, o) ∧ ok (i - 1, t) := by
  intro t L c hi hR ht;have st := hR.stop;have c0 := hR.c0;have c1 := hR.c1;rw [show IntKind.u32.wrap c = c by rw [wu32]; omega] at ht;refine ⟨by rw [em, em]; show (i - 1 + 1).toNat < (i + 1).toNat; omega, (eok _).2 ⟨by show -1 ≤ i - 1; omega, by show i - 1 < (b.length : Int); omega, ?_⟩⟩;show t = lim (lv a * lv (b.drop (i - 1 + 1).toNat));rw [ht, st.2, aAO, h3, aJ, show (i - 1 + 1).toNat = i.toNat by omega, qQ b i.toNat, show (i + 1).toNat = i.toNat + 1 by omega];congr 1;rw [Bz, Dr];congr 1;rw [Dd]
 have bnds : ∀ (L : List Int) (c : Int), RRow a (b.getD i.toNat 0) L a.length c → Lb ([0] ++ o) ∧ ([0] ++ o).length < 268435456 ∧ Lb (L ++ [IntKind.u32.wrap c]) ∧ (L ++ [IntKind.u32.wrap c]).length < 268435456 := by
  intro L c hR;have c0 := hR.c0;have c1 := hR.c1;rw [show IntKind.u32.wrap c = c by rw [wu32]; omega];exact ⟨Lb.cons (by omega) (by omega) (by rw [h3]; exact lim_lb _), by simp; omega, hR.stop.1, by simp [hR.len]; omega⟩
 have last : ¬ 0 ≤ i → Lb o ∧ o.length ≤ 268435456 ∧ lim (lv o) = r := by
  intro hi;rw [h3, aJ, show (i + 1).toNat = 0 by omega, List.drop_zero];exact ⟨lim_lb _, by rw [h3, show (i + 1).toNat = 0 by omega, List.drop_zero] at olen; omega, hr⟩
 have es1 : E.sub (E.app (E.sub [0] 0 1) o) 0 (E.plus 1 (E.len o)) = [0] ++ o := by subst hE; exact up_sub o
 have wpi : 0 ≤ i → IntKind.i64.wrap (i - 1) = i - 1 := fun p => by rw [wi64]; omega
 clear h3 hok;obtain ⟨m2, em2⟩ : ∃ m : Int × Int × Option (List Int × Int) → Nat, ∀ p, m p = ((a.length : Int) - p.1).toNat := ⟨_, fun _ => rfl⟩
 obtain ⟨ok2, eok2⟩ : ∃ ok : Int × Int × Option (List Int × Int) → Prop, ∀ p, ok p ↔ (0 ≤ p.1 ∧ p.1 ≤ (a.length : Int) ∧ RRow a (b.getD i.toNat 0) (eD p.2.2) p.1.toNat p.2.1 ∧ fE p.2.2 = (eD p.2.2).length) := ⟨_, fun _ => Bs⟩
 have hbi := hb.getD i.toNat;have start2 : ok2 (0, 0, none) := (eok2 _).2 ⟨Bc _, by show (0 : Int) ≤ _; omega, RRow.start a _, rfl⟩;have next : ∀ k c o' (v x : Int), ok2 (k, c, o') → k < a.length → x = a.getD k.toNat 0 → v = IntKind.u64.wrap (IntKind.u64.wrap (IntKind.u64.wrap x * IntKind.u64.wrap (b.getD i.toNat 0)) + c) →
  m2 (IntKind.i64.wrap (k + 1), aA .quo .u64 v 4294967296, some (eD o' ++ [IntKind.u32.wrap (aA .rem .u64 v 4294967296)], fE o' + 1)) < m2 (k, c, o') ∧
  ok2 (IntKind.i64.wrap (k + 1), aA .quo .u64 v 4294967296, some (eD o' ++ [IntKind.u32.wrap (aA .rem .u64 v 4294967296)], fE o' + 1)) := by
  intro k c o' v x hok hc hx hv;obtain ⟨q1, q2, q3, q4⟩ := (eok2 _).1 hok;dsimp only at q1 q2 q3 q4;have gx := ha.getD k.toNat;have c0 := q3.c0;have c1 := q3.c1;have st := q3.step ha hbi;rw [← hx] at st gx;have w := aJJ gx hbi ⟨c0, c1⟩ hv;rw [w.1, w.2, wi64_id (by omega) (by omega)];refine ⟨by rw [em2, em2]; show ((a.length : Int) - (k + 1)).toNat < ((a.length : Int) - k).toNat; omega, (eok2 _).2 ⟨by show 0 ≤ k + 1; omega, by show k + 1 ≤ (a.length : Int); omega, by show RRow a _ _ (k + 1).toNat _; rw [show (k + 1).toNat = k.toNat + 1 by omega]; exact st, ?_⟩⟩;show fE o' + 1 = ((eD o' ++ _).length : Int);rw [q4]; simp
 have stop : ∀ k c o', ok2 (k, c, o') → ¬ k < a.length → RRow a (b.getD i.toNat 0) (eD o') a.length c := by
  intro k c o' hok n1;obtain ⟨q1, q2, q3, q4⟩ := (eok2 _).1 hok;dsimp only at q1 q2 q3 q4;rw [show k.toNat = a.length by omega] at q3;exact q3
 have bnd : ∀ k c o', ok2 (k, c, o') → 0 ≤ k ∧ k < 9223372036854775807 ∧ 0 ≤ fE o' ∧ fE o' < 17179869184 ∧ fE o' = (eD o').length := by
  intro k c o' hok;obtain ⟨q1, q2, q3, q4⟩ := (eok2 _).1 hok;dsimp only at q1 q2 q3 q4;refine ⟨q1, by omega, by rw [q4]; omega, by rw [q4, q3.len]; omega, q4⟩
 cbv;refine E_br hE ?_ ?_ <;> intro hi <;> cbv
 · have hi0 : 0 ≤ i := by subst hE; exact lQ hi
   refine E_br hE ?_ ?_ <;> intro hle <;> cbv
   · refine E_loopM hE hG hm hl (aTX a b (E.app (E.sub [0] 0 1) o) i (E.plus 1 (E.len o))) m2 ok2 ⟨(0, 0, none), [0, 1], start2, bV ⟨rfl, trivial⟩ rfl rfl rfl trivial ?_⟩ ?_
     · (repeat' (first | exact bW | refine bN (dH rfl rfl) rfl ?_ | refine bE ?_ rfl ?_ | exact aM | exact aI | exact aN | exact (rfl : sle2 .s0 .s0) | exact cR))
     rintro ⟨k, c, (_ | ⟨l, n⟩)⟩ hok2
     · have nx := fun v x => next k c none v x hok2
       have sp := stop k c none hok2;have bd := bnd k c none hok2;have es2 : E.sub (E.sub [E.conv .u32 c] 0 1) 0 1 = [] ++ [E.conv .u32 c] := by subst hE; rfl
       clear next stop bnd hok2
       cbv;repeat' (first
         | (refine E_br hE ?_ ?_ <;> intro h <;> cbv)
         | (refine E_nm hE fun v hv => ?_; cbv)
         | (refine aT hE (fun b hb => ?_); cbv)
         | (apply E_callX hE (oD _ _ ?_ ?_ ?_ ?_); (case hf => rfl); (case hc => (cbv <;> trivial)); (case hle => exact u_up); all_goals (first | (intro t ht; cbv) | ((have q : ¬ k < a.length := (by subst hE; exact aW (by assumption)); have q := bnds _ c (sp q); first | (show Lb (E.sub (E.app (E.sub [0] 0 1) o) 0 (E.plus 1 (E.len o))); rw [es1]; exact q.1) | (show (E.sub (E.app (E.sub [0] 0 1) o) 0 (E.plus 1 (E.len o))).length < _; rw [es1]; exact q.2.1) | (subst hE; exact q.2.2.1) | (subst hE; exact q.2.2.2)))))
         | fail)
       all_goals (try (exfalso; subst hE; first
         | exact absurd bd.1 (bQ (by assumption))
         | exact absurd hi0 (bQ (by assumption))
         | exact absurd h2 (aW (by assumption))
         | exact absurd (bF (a := k) (b := (a.length : Int)) (by assumption)) (aW (by assumption))
         | (have k1 := bQ (by assumption); apply k1; have k2 := bd.2.2.2.1; show n + 1 ≤ 17179869184; have k3 : n < 17179869184 := k2; omega)))
       case refine_3.refine_1.refine_1.refine_2.none.refine_2.hK =>
        refine ⟨(v, t), [], ?_, ?_, bV trivial rfl rfl rfl trivial ?_⟩;rotate_right
        · (repeat' (first | exact bW | refine bN (dH rfl rfl) rfl ?_ | refine bE ?_ rfl ?_ | exact aM | exact aI | exact aN | exact (rfl : sle2 .s0 .s0) | exact cR))
        all_goals (replace ht : t = lim (lv (E.sub (E.app (E.sub [0] 0 1) o) 0 (E.plus 1 (E.len o))) + lv (E.sub (E.sub [E.conv .u32 c] 0 1) 0 1)) := ht; rw [es1, es2] at ht; subst hE; have q := fin t _ c hi0 (sp (aW (by assumption))) ht; have hv' : v = IntKind.i64.wrap (i - 1) := hv; rw [wpi hi0] at hv'; subst hv'; first | exact q.1 | exact q.2)
       all_goals rename_i v1 hv1 w hw
       all_goals refine ⟨(v, w, some (E.sub [E.conv .u32 (E.bin .rem .u64 v1 4294967296)] 0 1, 1)), [0, 1, 3], ?_, ?_, bV ⟨rfl, rfl, trivial⟩ rfl rfl rfl trivial ?_⟩
       all_goals (try ((repeat' (first | exact bW | refine bN (dH rfl rfl) rfl ?_ | refine bE ?_ rfl ?_ | exact aM | exact aI | exact aN | exact (rfl : sle2 .s0 .s0) | exact cR)); done))
       all_goals (subst hE; have q := nx v1 _ (bF (by assumption)) rfl hv1; have hv' : v = IntKind.i64.wrap (k + 1) := hv; have hw' : w = aA .quo .u64 v1 4294967296 := hw; subst hv'; subst hw'; first | exact q.1 | exact q.2)
     · have nx := fun v x => next k c (some (l, n)) v x hok2
       have sp := stop k c (some (l, n)) hok2;have bd := bnd k c (some (l, n)) hok2;have sl : (l.drop (0 : Int).toNat).take n.toNat = l := fV bd.2.2.2.2;have es2 : E.sub (E.app (E.sub l 0 n) (E.sub [E.conv .u32 c] 0 1)) 0 (E.plus n 1) = l ++ [E.conv .u32 c] := by subst hE; exact aQG bd.2.2.2.2
       clear next stop bnd hok2
       cbv;repeat' (first
         | (refine E_br hE ?_ ?_ <;> intro h <;> cbv)
         | (refine E_nm hE fun v hv => ?_; cbv)
         | (refine aT hE (fun b hb => ?_); cbv)
         | (apply E_callX hE (oD _ _ ?_ ?_ ?_ ?_); (case hf => rfl); (case hc => (cbv <;> trivial)); (case hle => exact u_up); all_goals (first | (intro t ht; cbv) | ((have q : ¬ k < a.length := (by subst hE; exact aW (by assumption)); have q := bnds _ c (sp q); first | (show Lb (E.sub (E.app (E.sub [0] 0 1) o) 0 (E.plus 1 (E.len o))); rw [es1]; exact q.1) | (show (E.sub (E.app (E.sub [0] 0 1) o) 0 (E.plus 1 (E.len o))).length < _; rw [es1]; exact q.2.1) | (show Lb (E.sub (E.app (E.sub l 0 n) (E.sub [E.conv .u32 c] 0 1)) 0 (E.plus n 1)); rw [es2]; subst hE; exact q.2.2.1) | (show (E.sub (E.app (E.sub l 0 n) (E.sub [E.conv .u32 c] 0 1)) 0 (E.plus n 1)).length < _; rw [es2]; subst hE; exact q.2.2.2)))))
         | fail)
       all_goals (try (exfalso; subst hE; first
         | exact absurd bd.1 (bQ (by assumption))
         | exact absurd hi0 (bQ (by assumption))
         | exact absurd h2 (aW (by assumption))
         | exact absurd (bF (a := k) (b := (a.length : Int)) (by assumption)) (aW (by assumption))
         | (have k1 := bQ (by assumption); apply k1; have k2 := bd.2.2.2.1; show n + 1 ≤ 17179869184; have k3 : n < 17179869184 := k2; omega)))
       case refine_3.refine_1.refine_1.refine_2.some.refine_2.refine_1.hK =>
        refine ⟨(v, t), [], ?_, ?_, bV trivial rfl rfl rfl trivial ?_⟩;rotate_right
        · (repeat' (first | exact bW | refine bN (dH rfl rfl) rfl ?_ | refine bE ?_ rfl ?_ | exact aM | exact aI | exact aN | exact (rfl : sle2 .s0 .s0) | exact cR))
        all_goals (replace ht : t = lim (lv (E.sub (E.app (E.sub [0] 0 1) o) 0 (E.plus 1 (E.len o))) + lv (E.sub (E.app (E.sub l 0 n) (E.sub [E.conv .u32 c] 0 1)) 0 (E.plus n 1))) := ht; rw [es1, es2] at ht; subst hE; have q := fin t _ c hi0 (sp (aW (by assumption))) ht; have hv' : v = IntKind.i64.wrap (i - 1) := hv; rw [wpi hi0] at hv'; subst hv'; first | exact q.1 | exact q.2)
       all_goals rename_i v1 hv1 w hw
       all_goals refine ⟨(v, w, some (E.app (E.sub l 0 n) (E.sub [E.conv .u32 (E.bin .rem .u64 v1 4294967296)] 0 1), E.plus n 1)), [0, 1, 4], ?_, ?_, bV ⟨rfl, rfl, trivial⟩ rfl rfl rfl trivial ?_⟩
       all_goals (try ((repeat' (first | exact bW | refine bN (dH rfl rfl) rfl ?_ | refine bE ?_ rfl ?_ | exact aM | exact aI | exact aN | exact (rfl : sle2 .s0 .s0) | exact cR)); done))
       all_goals (subst hE; have q := nx v1 _ (bF (by assumption)) rfl hv1; have hv' : v = IntKind.i64.wrap (k + 1) := hv; have hw' : w = aA .quo .u64 v1 4294967296 := hw; subst hv'; subst hw'; rw [show (aB Tryz.prog).sub l 0 n = l from sl]; first | exact q.1 | exact q.2)
   · exfalso;subst hE;have k1 := bQ hle;apply k1;show 1 + (o.length : Int) ≤ 17179869184;omega
 · repeat' (first
     | (refine E_br hE ?_ ?_ <;> intro h <;> cbv)
     | (refine E_nm hE fun v hv => ?_; cbv)
     | (refine aT hE (fun b hb => ?_); cbv)
     | (apply E_callX hE (c_rTrim _ ?_ ?_); (case hf => rfl); (case hc => (cbv <;> trivial)); (case hle => exact u_up); all_goals (first | (intro t ht; cbv) | ((have q : ¬ 0 ≤ i := (by subst hE; exact kH hi); first | exact (last q).1 | exact (last q).2.1))))
     | fail)
   subst hE;rw [ht];exact (last (kH hi)).2.2
theorem aAP (a : List Int) (ha : Lb a) (hla : a.length ≤ 268435456) : ∃ t : Int, t = blen (lv a : Int) ∧ aC Tryz.prog 207 [.sli .u32 a] (.int .i64 (.s t)) := by
 refine ⟨_, rfl, ?_⟩;generalize hr : blen (lv a : Int) = r;have hx := lim_lb (lv a);have vx := aJ (lv a);have hlx := aO ha;have hlast := (kT (lv a)).last;obtain ⟨x, ex⟩ : ∃ x, lim (lv a) = x := ⟨_, rfl⟩
 rw [ex] at hx vx hlx hlast;have zero : x.length = 0 → 0 = r := by
  intro h;have : x = [] := List.length_eq_zero_iff.1 h;rw [this] at vx;rw [← hr, ← vx]; rfl
 have some_ : x.length ≠ 0 → r = 32 * ((x.length : Int) - 1) + blen (x.getD (x.length - 1) 0) := by
  intro h;have ne : x ≠ [] := fun k => h (by rw [k]; rfl)
  rw [← hr, ← vx]; exact vP hx ne (hlast ne)
 have htop := hx.getD (x.length - 1);obtain ⟨m, em⟩ : ∃ m : Int × Int → Nat, ∀ p, m p = p.2.toNat := ⟨_, fun _ => rfl⟩
 obtain ⟨ok, eok⟩ : ∃ ok : Int × Int → Prop, ∀ p, ok p ↔ (0 ≤ p.1 ∧ p.1 ≤ 8589934592 + 32 ∧ 0 ≤ p.2 ∧ p.2 < 4294967296 ∧ p.1 + blen p.2 = r) := ⟨_, fun _ => Bs⟩
 have start : ∀ n t : Int, x.length ≠ 0 → n = IntKind.i64.wrap (32 * IntKind.i64.wrap ((x.length : Int) - 1)) → t = x.getD (IntKind.i64.wrap ((x.length : Int) - 1)).toNat 0 → ok (n, t) := by
  intro n t h hn ht;have e1 : IntKind.i64.wrap ((x.length : Int) - 1) = x.length - 1 := by rw [wi64]; omega
  rw [e1] at hn ht;rw [wi64_id (by omega) (by omega)] at hn;rw [show ((x.length : Int) - 1).toNat = x.length - 1 by omega] at ht;subst ht;exact (eok _).2 ⟨by show 0 ≤ n; omega, by show n ≤ 8589934592 + 32; omega, htop.1, htop.2, by show n + blen _ = r; rw [some_ h, hn]⟩
 have rng : x.length ≠ 0 → 0 ≤ IntKind.i64.wrap ((x.length : Int) - 1) ∧ IntKind.i64.wrap ((x.length : Int) - 1) < x.length := by
  intro h; rw [wi64]; omega
 have next : ∀ n t : Int, ok (n, t) → 0 < t → m (IntKind.i64.wrap (n + 1), aA .quo .u32 t 2) < m (n, t) ∧ ok (IntKind.i64.wrap (n + 1), aA .quo .u32 t 2) := by
  intro n t hok h;obtain ⟨h1, h2, h3, h4, h5⟩ := (eok _).1 hok;dsimp only at h1 h2 h3 h4 h5;rw [aLR h3 h4, wi64_id (by omega) (by omega)];have b := aKH h;have b0 := aX t;have b1 := cQ 32 (x := t) (by omega);have rb : r ≤ 8589934592 + 32 := by
   rcases Ao x.length with k | k
   · have := zero k; omega
   · have b2 := cQ 32 (x := x.getD (x.length - 1) 0) (by omega); rw [some_ (by omega)]; omega
  exact ⟨by rw [em, em]; show (t / 2).toNat < t.toNat; omega, (eok _).2 ⟨by show 0 ≤ n + 1; omega, by show n + 1 ≤ 8589934592 + 32; have := aX (t / 2); omega, by show 0 ≤ t / 2; omega, by show t / 2 < _; omega, by show n + 1 + blen (t / 2) = r; omega⟩⟩
 have stop : ∀ n t : Int, ok (n, t) → ¬ 0 < t → n = r := by
  intro n t hok h;obtain ⟨h1, h2, h3, h4, h5⟩ := (eok _).1 hok;dsimp only at h1 h2 h3 h4 h5;have : t = 0 := by omega
  subst this;rw [aJP] at h5; omega
 refine callsA_o Tryz.func207 fun E hE lp hl => ?_
 cbv
 (apply E_callX hE (c_rTrim a ha hla); (case hf => rfl); (case hc => (cbv <;> trivial)); (case hle => exact ⟨aN, trivial⟩); intro x' hx'; cbv)
 rw [hx'.trans ex];clear hx' x';refine E_br hE ?_ ?_ <;> intro h <;> cbv
 · subst hE; exact zero (by have k : (x.length : Int) = 0 := cA h; omega)
 have ne : x.length ≠ 0 := by subst hE; have k : ¬ (x.length : Int) = 0 := eql_f h; omega
 refine E_nm hE fun n0 hn0 => ?_
 cbv;refine E_br hE ?_ ?_ <;> intro b1 <;> cbv
 · refine E_br hE ?_ ?_ <;> intro b2 <;> cbv
   · refine E_nm hE fun t0 ht0 => ?_
     cbv;refine E_loop hE hG hm hl (fun p : Int × Int => (⟨[(4, .int .i64 (.s p.1)), (5, .int .u32 (.s p.2))], []⟩ : St)) m ok ⟨(n0, t0), (by subst hE; exact start n0 t0 ne hn0 ht0), stLe rfl ?_⟩ ?_
     · (repeat' (first | exact bC | apply aV | exact aN | exact aM | exact aI | exact bI | exact aQ | exact (rfl : sle2 .s0 .s0)))
     rintro ⟨n, t⟩ hok;have nx := next n t hok
     have sp := stop n t hok;clear next stop start hok
     cbv;refine E_br hE ?_ ?_ <;> intro g <;> cbv
     · refine E_nm hE (fun n' hn' => ?_);cbv;refine E_nm hE (fun t' ht' => ?_);cbv;refine ⟨(n', t'), ?_, ?_, stLe rfl ?_⟩;rotate_right
       · (repeat' (first | exact bC | apply aV | exact aN | exact aM | exact aI | exact bI | exact aQ | exact (rfl : sle2 .s0 .s0)))
       all_goals (subst hE; have q := nx (cU g); have e1 : n' = IntKind.i64.wrap (n + 1) := hn'; have e2 : t' = aA .quo .u32 t 2 := ht'; subst e1; subst e2; first | exact q.1 | exact q.2)
     · refine E_nm hE fun z hz => ?_
       cbv;subst hE;exact Eq.trans (b := n) hz (sp (dB g))
   · exfalso; subst hE; exact (aW b2) (rng ne).2
 · exfalso; subst hE; exact (bQ b1) (rng ne).1
theorem aPL {q : Int} {a : List Int} (h : 0 ≤ q) : ((((List.replicate q.toNat (0 : Int)).drop (0 : Int).toNat).take q.toNat ++ a).drop (0 : Int).toNat).take (q + (a.length : Int)).toNat = List.replicate q.toNat 0 ++ a := by
 have e : ((List.replicate q.toNat (0 : Int)).drop (0 : Int).toNat).take q.toNat = List.replicate q.toNat 0 := by
  show ((List.replicate q.toNat (0 : Int)).drop 0).take q.toNat = _;rw [List.drop_zero, List.take_of_length_le (by simp)]
 rw [e];show ((List.replicate q.toNat (0 : Int) ++ a).drop 0).take (q + (a.length : Int)).toNat = _;rw [List.drop_zero, List.take_of_length_le (by simp; omega)]
theorem aOH {a : List Int} {n : Int} (ha : Lb a) (n1 : 1 ≤ n) (n2 : n ≤ 16777216) : lim (lv ((List.replicate (n / 32).toNat 0) ++ a) * lv [(2 : Int) ^ (n % 32).toNat]) = lim (lv a * 2 ^ n.toNat) := by
 rw [aLW];congr 1;have e : lv [(2 : Int) ^ (n % 32).toNat] = 2 ^ (n % 32).toNat := by
  show ((2 : Int) ^ (n % 32).toNat).toNat + 4294967296 * 0 = _;rw [eR]; simp only [Ak, Cp, Bn]
 have p := kL n.toNat;rw [show n.toNat / 32 = (n / 32).toNat by omega, show n.toNat % 32 = (n % 32).toNat by omega] at p;rw [e, p, Aw, Ax, Aw, Ax (2 ^ _)]
theorem lW (a : List Int) (n : Int) (ha : Lb a) (hla : a.length < 33554432) : ∃ t : List Int, t = (if n < 1 then lim (lv a) else if 16777216 < n then [] else lim (lv a * 2 ^ n.toNat)) ∧ aC Tryz.prog 148 [.sli .u32 a, .int .i64 (.s n)] (.sli .u32 t) := by
 refine ⟨_, rfl, ?_⟩;generalize hr : (if n < 1 then lim (lv a) else if 16777216 < n then [] else lim (lv a * 2 ^ n.toNat)) = r;have pre := aOH (n := n) ha;have low : n < 1 → lim (lv a) = r := fun h => by rw [← hr, if_pos h]
 have hig : ¬ n < 1 → 16777216 < n → [] = r := fun h g => by rw [← hr, if_neg h, if_pos g]
 have mid : ¬ n < 1 → ¬ 16777216 < n → lim (lv a * 2 ^ n.toNat) = r := fun h g => by rw [← hr, if_neg h, if_neg g]
 have nums : ¬ n < 1 → ¬ 16777216 < n → aA .quo .i64 n 32 = n / 32 ∧ aA .rem .i64 n 32 = n % 32 ∧ 0 ≤ n / 32 ∧ n / 32 ≤ 524288 := by
  intro h g;refine ⟨quo32 (by omega) (by omega), qW (by omega), by omega, by omega⟩
 refine callsA_o Tryz.func148 fun E hE lp hl => ?_
 cbv;refine E_br hE ?_ ?_ <;> intro g1 <;> cbv
 · repeat' (first
     | (refine E_br hE ?_ ?_ <;> intro h <;> cbv)
     | (refine E_nm hE fun v hv => ?_; cbv)
     | (refine aT hE (fun b hb => ?_); cbv)
     | (apply E_callX hE (c_rTrim _ ha ?_); (case hf => rfl); (case hc => (cbv <;> trivial)); (case hle => exact u_up); all_goals (first | (intro t ht; cbv) | (omega)))
     | fail)
   subst hE; rw [ht]; exact low (bF g1)
 refine E_br hE ?_ ?_ <;> intro g2 <;> cbv
 · subst hE; exact (hig (aW g1) (cU g2)).symm
 have nm : E.bin .quo .i64 n 32 = n / 32 ∧ E.bin .rem .i64 n 32 = n % 32 ∧ 0 ≤ n / 32 ∧ n / 32 ≤ 524288 := by subst hE; exact nums (aW g1) (dB g2)
 have es1 : E.sub (E.app (E.sub (E.rep (E.bin .quo .i64 n 32)) 0 (E.bin .quo .i64 n 32)) a) 0 (E.plus (E.bin .quo .i64 n 32) (E.len a)) = List.replicate (n / 32).toNat 0 ++ a := by
  subst hE; rw [nm.1]; exact aPL nm.2.2.1
 have es2 : ∀ v, v = E.bin .shl .u32 1 (E.conv .u64 (E.bin .rem .i64 n 32)) → E.sub [v] 0 1 = [2 ^ (n % 32).toNat] := by
  intro v hv;subst hE;have e : (aB Tryz.prog).conv .u64 ((aB Tryz.prog).bin .rem .i64 n 32) = n % 32 := by
   rw [nm.2.1]; show IntKind.u64.wrap (n % 32) = n % 32; rw [wu64]; omega
  rw [e] at hv;have e2 : v = aA .shl .u32 1 (n % 32) := hv;rw [qP (by omega) (by omega)] at e2;subst e2; rfl
 have l1 : Lb (List.replicate (n / 32).toNat 0 ++ a) ∧ (List.replicate (n / 32).toNat 0 ++ a).length < 67108864 := ⟨(Lb.replicate _).append ha, by rw [List.length_append, List.length_replicate]; omega⟩
 have l2 : Lb [(2 : Int) ^ (n % 32).toNat] := by have := vB (r := (n % 32).toNat) (by omega); exact Lb.cons (by omega) (by omega) Lb.nil
 have fin : ¬ n < 1 ∧ ¬ 16777216 < n := by subst hE; exact ⟨aW g1, dB g2⟩
 have val := (pre (by omega) (by omega)).trans (mid fin.1 fin.2);clear pre low hig mid nums;repeat' (first
   | (refine E_br hE ?_ ?_ <;> intro h <;> cbv)
   | (refine E_nm hE fun v hv => ?_; cbv)
   | (refine aT hE (fun b hb => ?_); cbv)
   | (apply E_callX hE (aLI _ _ ?_ ?_ ?_ ?_); (case hf => rfl); (case hc => (cbv <;> trivial)); (case hle => exact u_up); all_goals (first | (intro t ht; cbv) | ((first | (show Lb (E.sub (E.app (E.sub (E.rep (E.bin .quo .i64 n 32)) 0 (E.bin .quo .i64 n 32)) a) 0 (E.plus (E.bin .quo .i64 n 32) (E.len a))); rw [es1]; exact l1.1) | (show Lb (E.sub [v] 0 1); rw [es2 v hv]; exact l2) | (show (E.sub (E.app (E.sub (E.rep (E.bin .quo .i64 n 32)) 0 (E.bin .quo .i64 n 32)) a) 0 (E.plus (E.bin .quo .i64 n 32) (E.len a))).length < 67108864; rw [es1]; exact l1.2) | (show (E.sub [v] 0 1).length < 67108864; rw [es2 v hv]; show (1 : Nat) < 67108864; decide)))))
   | fail)
 case refine_2.refine_2.refine_1.refine_1.refine_1.refine_1.refine_2.hK =>
  replace ht : t = lim (lv (E.sub (E.app (E.sub (E.rep (E.bin .quo .i64 n 32)) 0 (E.bin .quo .i64 n 32)) a) 0 (E.plus (E.bin .quo .i64 n 32) (E.len a))) * lv (E.sub [v] 0 1)) := ht;rw [es1, es2 v hv, val] at ht;exact ht
 all_goals (exfalso; subst hE; have q := nm.1; have q2 := nm.2.1; have q3 := nm.2.2; first
   | (have h1 := bF ‹_›; apply absurd h1; show ¬ IntKind.u64.wrap (aA .rem .i64 n 32) < 0; rw [wu64]; omega)
   | (have h1 := bQ ‹(aB Tryz.prog).cmp .leq ((aB Tryz.prog).plus _ _) _ = false›; apply h1; show aA .quo .i64 n 32 + (a.length : Int) ≤ 17179869184; rw [show aA .quo .i64 n 32 = n / 32 from q]; omega)
   | (have h1 := bQ ‹_›; apply h1; first | exact Bc _ | (show (0 : Int) ≤ aA .quo .i64 n 32; rw [show aA .quo .i64 n 32 = n / 32 from q]; omega) | (show aA .quo .i64 n 32 ≤ 17179869184; rw [show aA .quo .i64 n 32 = n / 32 from q]; omega)))
theorem aNP {n : Int} (h : 0 ≤ n) : aA .rem .u64 n 2 = n % 2 := by
 show n.tmod 2 = _;exact Bx h
theorem aKV {a : List Int} {i : Int} (ha : Lb a) (h0 : 0 ≤ i) (h1 : i < 9223372036854775807) : aA .quo .i64 i 32 = i / 32 ∧ aA .rem .i64 i 32 = i % 32 ∧
 (aA .rem .u64 (aA .shr .u64 (a.getD (i / 32).toNat 0) (i % 32)) 2 = 1 ↔ lv a / 2 ^ i.toNat % 2 = 1) := by
 refine ⟨quo32 h0 (by omega), qW h0, ?_⟩;have gx := ha.getD (i / 32).toNat;have b := aSQ ha i.toNat;rw [show i.toNat / 32 = (i / 32).toNat by omega, show i.toNat % 32 = (i % 32).toNat by omega] at b;rw [aOV (by omega) (by omega)];obtain ⟨x, hx⟩ := Al gx.1;rw [hx] at b ⊢;simp only [Ak] at b;have e : ((x : Int) / 2 ^ (i % 32).toNat) = ((x / 2 ^ (i % 32).toNat : Nat) : Int) := by rw [eR]; simp
 rw [e];rw [aNP (n := ((x / 2 ^ (i % 32).toNat : Nat) : Int)) (Cv _)];omega
theorem c_rBit (a : List Int) (i : Int) (ha : Lb a) (h0 : 0 ≤ i) (h1 : i < 9223372036854775807) : ∃ t : Bool, t = decide (lv a / 2 ^ i.toNat % 2 = 1) ∧ aC Tryz.prog 227 [.sli .u32 a, .int .i64 (.s i)] (.bool (.s t)) := by
 refine ⟨_, rfl, ?_⟩;generalize hr : decide (lv a / 2 ^ i.toNat % 2 = 1) = r;have w := aKV ha h0 h1;refine callsA_o Tryz.func227 fun E hE lp hl => ?_
 cbv;have e1 : E.bin .quo .i64 i 32 = i / 32 := by subst hE; exact w.1
 have e2 : E.conv .u64 (E.bin .rem .i64 i 32) = i % 32 := by subst hE; show IntKind.u64.wrap (aA .rem .i64 i 32) = _; rw [w.2.1, wu64]; omega
 repeat' (first
   | (refine E_br hE ?_ ?_ <;> intro h <;> cbv)
   | (refine E_nm hE fun v hv => ?_; cbv)
   | (refine aT hE (fun b hb => ?_); cbv)
   | (refine E_cx hE (qU _ _ ha ?_ ?_) ?_; all_goals (first | (intro t ht; cbv) | ((first | (show 0 ≤ E.bin .quo .i64 i 32; rw [e1]; omega) | (show E.bin .quo .i64 i 32 < 9223372036854775808; rw [e1]; omega)))))
   | fail)
 · exfalso;rw [e2] at h;subst hE;have := bF h;omega
 · have ht' : t = a.getD (i / 32).toNat 0 := by rw [ht]; show a.getD (E.bin .quo .i64 i 32).toNat 0 = _; rw [e1]
   show E.cmp .eql (E.bin .rem .u64 (E.bin .shr .u64 t (E.conv .u64 (E.bin .rem .i64 i 32))) 2) 1 = r;rw [e2, ht', ← hr];subst hE;simp only [aB, aE];exact Bk.2 w.2.2
def aTQ (i : Int) : Option (List Int × Int) → St
 | none => ⟨[(1, .int .i64 (.s i)), (5, .s0)], []⟩
 | some (l, n) => ⟨[(1, .int .i64 (.s i)), (5, .ms 0 1 (.l 0) (.s n))], [.ints true .u32 l]⟩
def aTI (i : Int) (a : List Int) (N : Int) : Option (List Int × Int) → St
 | none => ⟨[(1, .int .i64 (.s i)), (5, .ms 0 1 (.l 0) (.s N))], [.ints true .u32 a]⟩
 | some (l, n) => ⟨[(1, .int .i64 (.s i)), (5, .ms 1 1 (.l 0) (.s n))], [.dead, .ints true .u32 l]⟩
theorem aLK (a : List Int) (i : Int) (ha : Lb a) (hla : a.length < 268435456) (h0 : 0 ≤ i) (h1 : i < 8589934592) (hadd : (a ++ List.replicate (i.toNat / 32 + 1 - a.length) 0).getD (i.toNat / 32) 0 + 2 ^ (i.toNat % 32) < 4294967296) :
 ∃ t : List Int, t = setL a i.toNat ∧ aC Tryz.prog 228 [.sli .u32 a, .int .i64 (.s i)] (.sli .u32 t) := by
 refine ⟨_, rfl, ?_⟩;generalize hr : setL a i.toNat = r;have q := quo32 h0 (by omega);obtain ⟨m, em⟩ : ∃ m : Int → Nat, ∀ n, m n = (i / 32 + 1 - n).toNat := ⟨_, fun _ => rfl⟩
 obtain ⟨ok, eok⟩ : ∃ ok : List Int × Int → Prop, ∀ p, ok p ↔ ((a.length : Int) ≤ p.2 ∧ p.2 ≤ max (a.length : Int) (i / 32 + 1) ∧ p.1 = a ++ List.replicate (p.2.toNat - a.length) 0) := ⟨_, fun _ => Bs⟩
 have start1 : (a.length : Int) = 0 → ok ([], 0) := by
  intro h;have e : a = [] := List.length_eq_zero_iff.1 (by omega);refine (eok _).2 ⟨by show (a.length : Int) ≤ 0; omega, by show (0 : Int) ≤ _; omega, ?_⟩;rw [e]; rfl
 have start2 : ok (a, (a.length : Int)) := (eok _).2 ⟨Bc _, by show (a.length : Int) ≤ _; omega, by show a = a ++ List.replicate ((a.length : Int).toNat - a.length) 0; simp⟩;have lens : ∀ l n, ok (l, n) → n = l.length ∧ 0 ≤ n ∧ n ≤ 536870913 := by
  intro l n hok;obtain ⟨k1, k2, k3⟩ := (eok _).1 hok;dsimp only at k1 k2 k3;rw [k3, List.length_append, List.length_replicate];omega
 have next : ∀ l n, ok (l, n) → n ≤ i / 32 → m (n + 1) < m n ∧ ok (l ++ [0], n + 1) := by
  intro l n hok h;obtain ⟨k1, k2, k3⟩ := (eok _).1 hok;dsimp only at k1 k2 k3;refine ⟨by rw [em, em]; omega, (eok _).2 ⟨by show (a.length : Int) ≤ n + 1; omega, by show n + 1 ≤ _; omega, ?_⟩⟩;show l ++ [0] = a ++ List.replicate ((n + 1).toNat - a.length) 0;rw [k3, show (n + 1).toNat - a.length = (n.toNat - a.length) + 1 by omega, List.replicate_succ', List.append_assoc]
 have stop : ∀ l n, ok (l, n) → ¬ n ≤ i / 32 → l.getD (i / 32).toNat 0 + 2 ^ (i % 32).toNat < 4294967296 ∧ 0 ≤ l.getD (i / 32).toNat 0 ∧ l.set (i / 32).toNat (l.getD (i / 32).toNat 0 + 2 ^ (i % 32).toNat) = r := by
  intro l n hok h;obtain ⟨k1, k2, k3⟩ := (eok _).1 hok;dsimp only at k1 k2 k3;have e : l = a ++ List.replicate (i.toNat / 32 + 1 - a.length) 0 := by rw [k3]; congr 2; omega
  have gx := ((padL ha (i.toNat / 32)).1).getD (i.toNat / 32);rw [e, ← hr, show (i / 32).toNat = i.toNat / 32 by omega, show (i % 32).toNat = i.toNat % 32 by omega];exact ⟨hadd, gx.1, rfl⟩
 have two := vB (r := (i % 32).toNat) (by omega);refine callsA_o Tryz.func228 fun E hE lp hl => ?_
 have e1 : E.bin .quo .i64 i 32 = i / 32 := by subst hE; exact q
 have e2 : E.conv .u64 (E.bin .rem .i64 i 32) = i % 32 := by subst hE; show IntKind.u64.wrap (aA .rem .i64 i 32) = _; rw [qW h0, wu64]; omega
 cbv;refine E_br hE ?_ ?_ <;> intro g0 <;> cbv
 · refine E_loopM hE hG hm hl (aTQ i) (fun o => m (o.getD ([], 0)).2) (fun o => ok (o.getD ([], 0))) ⟨none, [], start1 (by subst hE; exact cA g0), bV trivial rfl rfl rfl trivial ?_⟩ ?_
   · (repeat' (first | exact bW | refine bN (dH rfl rfl) rfl ?_ | refine bE ?_ rfl ?_ | exact aM | exact aI | exact aN | exact (rfl : sle2 .s0 .s0) | exact cR))
   rintro (_ | ⟨l, n⟩) hok
   · have nx := next _ _ hok
     have sp := stop _ _ hok;clear next stop start1 start2 lens hok
     cbv;repeat' (first
       | (refine E_br hE ?_ ?_ <;> intro h <;> cbv)
       | (refine E_nm hE fun v hv => ?_; cbv)
       | (refine aT hE (fun b hb => ?_); cbv)
       | fail)
     · refine ⟨some (E.sub [0] 0 1, 1), [1], ?_, ?_, bV ⟨rfl, trivial⟩ rfl rfl rfl trivial ?_⟩;rotate_right
       · (repeat' (first | exact bW | refine bN (dH rfl rfl) rfl ?_ | refine bE ?_ rfl ?_ | exact aM | exact aI | exact aN | exact (rfl : sle2 .s0 .s0) | exact cR))
       all_goals (subst hE; have g := nx (by omega); first | exact g.1 | exact g.2)
     all_goals (try (exfalso; subst hE; first
       | (have k := bQ (show (aB Tryz.prog).cmp .leq 0 (i / 32) = false by rw [← e1]; assumption); omega)
       | (have k := aW (show (aB Tryz.prog).cmp .lss (i / 32) n = false by rw [← e1]; assumption); have k2 := bQ (show (aB Tryz.prog).cmp .leq n (i / 32) = false by rw [← e1]; assumption); omega)
       | (have k := bF (show (aB Tryz.prog).cmp .lss (i % 32) 0 = true by rw [← e2]; assumption); omega)
       | (have k := bQ (show (aB Tryz.prog).cmp .leq (n + 1) 17179869184 = false by assumption); have k2 := ln.2.2; omega)))
   · have nx := next _ _ hok
     have sp := stop _ _ hok;have ln := lens _ _ hok;clear next stop start1 start2 lens hok
     have sl : (l.drop (0 : Int).toNat).take n.toNat = l := fV ln.1;cbv;repeat' (first
       | (refine E_br hE ?_ ?_ <;> intro h <;> cbv)
       | (refine E_nm hE fun v hv => ?_; cbv)
       | (refine aT hE (fun b hb => ?_); cbv)
       | fail)
     all_goals (try (exfalso; subst hE; first
       | (have k := bQ (show (aB Tryz.prog).cmp .leq 0 (i / 32) = false by rw [← e1]; assumption); omega)
       | (have k := aW (show (aB Tryz.prog).cmp .lss (i / 32) n = false by rw [← e1]; assumption); have k2 := bQ (show (aB Tryz.prog).cmp .leq n (i / 32) = false by rw [← e1]; assumption); omega)
       | (have k := bF (show (aB Tryz.prog).cmp .lss (i % 32) 0 = true by rw [← e2]; assumption); omega)
       | (have k := bQ (show (aB Tryz.prog).cmp .leq (n + 1) 17179869184 = false by assumption); have k2 := ln.2.2; omega)))
     · refine ⟨some (E.app (E.sub l 0 n) (E.sub [0] 0 1), E.plus n 1), [2], ?_, ?_, bV ⟨rfl, trivial⟩ rfl rfl rfl trivial ?_⟩;rotate_right
       · (repeat' (first | exact bW | refine bN (dH rfl rfl) rfl ?_ | refine bE ?_ rfl ?_ | exact aM | exact aI | exact aN | exact (rfl : sle2 .s0 .s0) | exact cR))
       all_goals (subst hE; have g := nx (kI (show (aB Tryz.prog).cmp .leq n (i / 32) = true by rw [← e1]; assumption)); rw [show (aB Tryz.prog).sub l 0 n = l from sl]; first | exact g.1 | exact g.2)
     · show E.sub (E.set l (E.bin .quo .i64 i 32) (E.bin .add .u32 (E.get l (E.bin .quo .i64 i 32)) (E.bin .shl .u32 1 (E.conv .u64 (E.bin .rem .i64 i 32))))) 0 n = r;rw [e1, e2];subst hE;have g := sp (bQ (show (aB Tryz.prog).cmp .leq n (i / 32) = false by rw [← e1]; assumption));have w : (aB Tryz.prog).bin .add .u32 ((aB Tryz.prog).get l (i / 32)) ((aB Tryz.prog).bin .shl .u32 1 (i % 32)) = l.getD (i / 32).toNat 0 + 2 ^ (i % 32).toNat := by
        show IntKind.u32.wrap (l.getD (i / 32).toNat 0 + aA .shl .u32 1 (i % 32)) = _;rw [qP (by omega) (by omega), wu32];omega
       rw [w];show ((l.set (i / 32).toNat (l.getD (i / 32).toNat 0 + 2 ^ (i % 32).toNat)).drop (0 : Int).toNat).take (n).toNat = r;rw [fV (by rw [List.length_set]; exact ln.1)];exact g.2.2
 · refine E_br hE ?_ ?_ <;> intro g1 <;> cbv
   · refine E_loopM hE hG hm hl (aTI i a (E.len a)) (fun o => m (o.getD (a, (a.length : Int))).2) (fun o => ok (o.getD (a, (a.length : Int)))) ⟨none, [0], start2, bV ⟨rfl, trivial⟩ rfl rfl rfl trivial ?_⟩ ?_
     · (repeat' (first | exact bW | refine bN (dH rfl rfl) rfl ?_ | refine bE ?_ rfl ?_ | exact aM | exact aI | exact aN | exact (rfl : sle2 .s0 .s0) | exact cR))
     rintro (_ | ⟨l, n⟩) hok
     · obtain ⟨n, en⟩ : ∃ n : Int, n = (a.length : Int) := ⟨_, rfl⟩
       have hok : ok (a, n) := by rw [en]; exact hok
       have nx := next _ _ hok
       have sp := stop _ _ hok;have ln := lens _ _ hok;clear next stop start1 start2 lens
       have sl : (a.drop (0 : Int).toNat).take n.toNat = a := fV ln.1;have eL : E.len a = n := by subst hE; exact en.symm
       rw [eL];clear hok;cbv;repeat' (first
         | (refine E_br hE ?_ ?_ <;> intro h <;> cbv)
         | (refine E_nm hE fun v hv => ?_; cbv)
         | (refine aT hE (fun b hb => ?_); cbv)
         | fail)
       all_goals (try (exfalso; subst hE; first
         | (have k := bQ (show (aB Tryz.prog).cmp .leq 0 (i / 32) = false by rw [← e1]; assumption); omega)
         | (have k := aW (show (aB Tryz.prog).cmp .lss (i / 32) n = false by rw [← e1]; assumption); have k2 := bQ (show (aB Tryz.prog).cmp .leq n (i / 32) = false by rw [← e1]; assumption); omega)
         | (have k := bF (show (aB Tryz.prog).cmp .lss (i % 32) 0 = true by rw [← e2]; assumption); omega)
         | (have k := bQ (show (aB Tryz.prog).cmp .leq (n + 1) 17179869184 = false by assumption); have k2 := ln.2.2; omega)))
       · refine ⟨some (E.app (E.sub a 0 n) (E.sub [0] 0 1), E.plus n 1), [0, 2], ?_, ?_, bV ⟨rfl, trivial⟩ rfl rfl rfl trivial ?_⟩;rotate_right
         · (repeat' (first | exact bW | refine bN (dH rfl rfl) rfl ?_ | refine bE ?_ rfl ?_ | exact aM | exact aI | exact aN | exact (rfl : sle2 .s0 .s0) | exact cR))
         all_goals (subst hE; have g := nx (kI (show (aB Tryz.prog).cmp .leq n (i / 32) = true by rw [← e1]; assumption)); rw [show (aB Tryz.prog).sub a 0 n = a from sl]; first | (rw [en] at g ⊢; exact g.1) | exact g.2)
       · show E.sub (E.set a (E.bin .quo .i64 i 32) (E.bin .add .u32 (E.get a (E.bin .quo .i64 i 32)) (E.bin .shl .u32 1 (E.conv .u64 (E.bin .rem .i64 i 32))))) 0 n = r;rw [e1, e2];subst hE;have g := sp (bQ (show (aB Tryz.prog).cmp .leq n (i / 32) = false by rw [← e1]; assumption));have w : (aB Tryz.prog).bin .add .u32 ((aB Tryz.prog).get a (i / 32)) ((aB Tryz.prog).bin .shl .u32 1 (i % 32)) = a.getD (i / 32).toNat 0 + 2 ^ (i % 32).toNat := by
          show IntKind.u32.wrap (a.getD (i / 32).toNat 0 + aA .shl .u32 1 (i % 32)) = _;rw [qP (by omega) (by omega), wu32];omega
         rw [w];show ((a.set (i / 32).toNat (a.getD (i / 32).toNat 0 + 2 ^ (i % 32).toNat)).drop (0 : Int).toNat).take (n).toNat = r;rw [fV (by rw [List.length_set]; exact ln.1)];exact g.2.2
     · have nx := next _ _ hok
       have sp := stop _ _ hok;have ln := lens _ _ hok;clear next stop start1 start2 lens hok
       have sl : (l.drop (0 : Int).toNat).take n.toNat = l := fV ln.1;cbv;repeat' (first
         | (refine E_br hE ?_ ?_ <;> intro h <;> cbv)
         | (refine E_nm hE fun v hv => ?_; cbv)
         | (refine aT hE (fun b hb => ?_); cbv)
         | fail)
       all_goals (try (exfalso; subst hE; first
         | (have k := bQ (show (aB Tryz.prog).cmp .leq 0 (i / 32) = false by rw [← e1]; assumption); omega)
         | (have k := aW (show (aB Tryz.prog).cmp .lss (i / 32) n = false by rw [← e1]; assumption); have k2 := bQ (show (aB Tryz.prog).cmp .leq n (i / 32) = false by rw [← e1]; assumption); omega)
         | (have k := bF (show (aB Tryz.prog).cmp .lss (i % 32) 0 = true by rw [← e2]; assumption); omega)
         | (have k := bQ (show (aB Tryz.prog).cmp .leq (n + 1) 17179869184 = false by assumption); have k2 := ln.2.2; omega)))
       · refine ⟨some (E.app (E.sub l 0 n) (E.sub [0] 0 1), E.plus n 1), [0, 3], ?_, ?_, bV ⟨rfl, trivial⟩ rfl rfl rfl trivial ?_⟩;rotate_right
         · (repeat' (first | exact bW | refine bN (dH rfl rfl) rfl ?_ | refine bE ?_ rfl ?_ | exact aM | exact aI | exact aN | exact (rfl : sle2 .s0 .s0) | exact cR))
         all_goals (subst hE; have g := nx (kI (show (aB Tryz.prog).cmp .leq n (i / 32) = true by rw [← e1]; assumption)); rw [show (aB Tryz.prog).sub l 0 n = l from sl]; first | exact g.1 | exact g.2)
       · show E.sub (E.set l (E.bin .quo .i64 i 32) (E.bin .add .u32 (E.get l (E.bin .quo .i64 i 32)) (E.bin .shl .u32 1 (E.conv .u64 (E.bin .rem .i64 i 32))))) 0 n = r;rw [e1, e2];subst hE;have g := sp (bQ (show (aB Tryz.prog).cmp .leq n (i / 32) = false by rw [← e1]; assumption));have w : (aB Tryz.prog).bin .add .u32 ((aB Tryz.prog).get l (i / 32)) ((aB Tryz.prog).bin .shl .u32 1 (i % 32)) = l.getD (i / 32).toNat 0 + 2 ^ (i % 32).toNat := by
          show IntKind.u32.wrap (l.getD (i / 32).toNat 0 + aA .shl .u32 1 (i % 32)) = _;rw [qP (by omega) (by omega), wu32];omega
         rw [w];show ((l.set (i / 32).toNat (l.getD (i / 32).toNat 0 + 2 ^ (i % 32).toNat)).drop (0 : Int).toNat).take (n).toNat = r;rw [fV (by rw [List.length_set]; exact ln.1)];exact g.2.2
   · exfalso;subst hE;have k := bQ g1;apply k;show (a.length : Int) ≤ 17179869184;omega
theorem uE {a : List Int} (ha : Lb a) : blen (lv a : Int) ≤ 32 * a.length := by
 have l := bP ha;have e : (4294967296 : Nat) ^ a.length = 2 ^ (32 * a.length) := by rw [show (4294967296 : Nat) = 2 ^ 32 from rfl, ← Cj]
 have := cQ (32 * a.length) (x := (lv a : Int)) (by rw [eR]; omega);omega
theorem aOB (n : Nat) : n < 2 ^ (blen (n : Int)).toNat := by
 rcases Ao n with h | h
 · subst h; decide
 · obtain ⟨k, h1, _, h3⟩ := fC (x := (n : Int)) (by omega);rw [h1, show ((k : Int) + 1).toNat = k + 1 by omega];rw [eR] at h3;omega
theorem aAI (a b : List Int) (ha : Lb a) (hb : Lb b) (hla : a.length < 67108864) (hlb : b.length < 67108864) :
 ∃ t : List Int × List Int × Bool, t = (if lv b = 0 then ([], [], false) else (lim (lv a / lv b), lim (lv a % lv b), true)) ∧ aC Tryz.prog 195 [.sli .u32 a, .sli .u32 b] (.tup [.sli .u32 t.1, .sli .u32 t.2.1, .bool (.s t.2.2)]) := by
 refine ⟨_, rfl, ?_⟩;generalize hr : (if lv b = 0 then ([], [], false) else (lim (lv a / lv b), lim (lv a % lv b), true) : List Int × List Int × Bool) = r;have hd := lim_lb (lv b);have vd := aJ (lv b);have hld := aO hb;have hnil := fH (n := lv b);obtain ⟨d, ed⟩ : ∃ d, lim (lv b) = d := ⟨_, rfl⟩
 rw [ed] at hd vd hld hnil;have zero : d.length = 0 → ([], [], false) = r := by
  intro h;rw [← hr, if_pos (hnil.1 (List.length_eq_zero_iff.1 h))]
 have pos : d.length ≠ 0 → 0 < lv d := by
  intro h;rcases Ao (lv d) with k | k
  · exfalso; apply h; rw [hnil.2 (by omega)]; rfl
  · exact k
 have bl := uE ha;have b0 := aX (lv a : Int);have bt := aOB (lv a);obtain ⟨m, em⟩ : ∃ m : Int × List Int × List Int → Nat, ∀ p, m p = (p.1 + 1).toNat := ⟨_, fun _ => rfl⟩
 obtain ⟨ok, eok⟩ : ∃ ok : Int × List Int × List Int → Prop, ∀ p, ok p ↔ (-1 ≤ p.1 ∧ p.1 < 32 * a.length ∧ p.2.2 = lim (lv a / 2 ^ (p.1 + 1).toNat % lv d) ∧ Lb p.2.1 ∧ lv p.2.1 = lv a / 2 ^ (p.1 + 1).toNat / lv d * 2 ^ (p.1 + 1).toNat ∧ p.2.1.length ≤ a.length) := ⟨_, fun _ => Bs⟩
 have wn : ∀ n : Int, n = blen (lv a : Int) → IntKind.i64.wrap (n - 1) = blen (lv a : Int) - 1 := by intro n h; rw [h, wi64]; omega
 have start : ok (blen (lv a : Int) - 1, [], []) := by
  have z : lv a / 2 ^ (blen (lv a : Int)).toNat = 0 := Ca bt;refine (eok _).2 ⟨by show -1 ≤ blen (lv a : Int) - 1; omega, by show blen (lv a : Int) - 1 < _; omega, ?_, Lb.nil, ?_, Nat.zero_le _⟩
  · show [] = lim (lv a / 2 ^ (blen (lv a : Int) - 1 + 1).toNat % lv d);rw [show blen (lv a : Int) - 1 + 1 = blen (lv a : Int) by omega, z, Nat.zero_mod]; rfl
  · show lv [] = lv a / 2 ^ (blen (lv a : Int) - 1 + 1).toNat / lv d * _;rw [show blen (lv a : Int) - 1 + 1 = blen (lv a : Int) by omega, z, Nat.zero_div, Cx]; rfl
 have inv : ∀ i q w, 0 < lv d → ok (i, q, w) → Lb q ∧ q.length ≤ a.length ∧ Lb w ∧ w.length ≤ b.length ∧ lv w < lv d ∧ i < 8589934592 ∧ (0 ≤ i → 2 ^ (i.toNat + 1) ∣ lv q) := by
  intro i q w hp hok;obtain ⟨k1, k2, k3, k4, k5, k6⟩ := (eok _).1 hok;dsimp only at k1 k2 k3 k4 k5 k6;have lw : lv w < lv d := by rw [k3, aJ]; exact Cz _ hp
  refine ⟨k4, k6, by rw [k3]; exact lim_lb _, ?_, lw, by omega, fun hi => ?_⟩
  · have l2 := bP hb;rw [k3];exact lim_length_le (by rw [k3, aJ] at lw; omega)
  · rw [k5, show (i + 1).toNat = i.toNat + 1 by omega];exact Nat.dvd_mul_left _ _
 have next0 : ∀ i q w w2, 0 < lv d → ok (i, q, w) → 0 ≤ i → w2 = lim (2 * lv w + lv a / 2 ^ i.toNat % 2) → lv w2 < lv d → m (i - 1, q, w2) < m (i, q, w) ∧ ok (i - 1, q, w2) := by
  intro i q w w2 hp hok hi hw h;obtain ⟨k1, k2, k3, k4, k5, k6⟩ := (eok _).1 hok;dsimp only at k1 k2 k3 k4 k5 k6;have e : (i + 1).toNat = i.toNat + 1 := by omega
  rw [e] at k3 k5;have vw : lv w = lv a / 2 ^ (i.toNat + 1) % lv d := by rw [k3, aJ]
  rw [vw] at hw;rw [hw, aJ] at h;have s := (aBF (A := lv a) (i := i.toNat) hp).1 h;refine ⟨by rw [em, em]; show (i - 1 + 1).toNat < (i + 1).toNat; omega, (eok _).2 ⟨by show -1 ≤ i - 1; omega, by show i - 1 < _; omega, ?_, k4, ?_, k6⟩⟩
  · show w2 = lim (lv a / 2 ^ (i - 1 + 1).toNat % lv d);rw [show (i - 1 + 1).toNat = i.toNat by omega, s.1, hw]
  · show lv q = lv a / 2 ^ (i - 1 + 1).toNat / lv d * 2 ^ (i - 1 + 1).toNat;rw [show (i - 1 + 1).toNat = i.toNat by omega, s.2, k5, Aq, Ax 2, Aw, Ax 2]
 have next1 : ∀ i q w w2, 0 < lv d → ok (i, q, w) → 0 ≤ i → w2 = lim (2 * lv w + lv a / 2 ^ i.toNat % 2) → ¬ lv w2 < lv d → m (i - 1, setL q i.toNat, lim (lv w2 - lv d)) < m (i, q, w) ∧ ok (i - 1, setL q i.toNat, lim (lv w2 - lv d)) := by
  intro i q w w2 hp hok hi hw h;have dv := (inv i q w hp hok).2.2.2.2.2.2 hi;obtain ⟨k1, k2, k3, k4, k5, k6⟩ := (eok _).1 hok;dsimp only at k1 k2 k3 k4 k5 k6;have e : (i + 1).toNat = i.toNat + 1 := by omega
  rw [e] at k3 k5;have vw : lv w = lv a / 2 ^ (i.toNat + 1) % lv d := by rw [k3, aJ]
  rw [vw] at hw;have st := aGU k4 i.toNat dv;have lw2 : lv w2 = 2 * (lv a / 2 ^ (i.toNat + 1) % lv d) + lv a / 2 ^ i.toNat % 2 := by rw [hw, aJ]
  rw [lw2] at h ⊢;have s := (aBF (A := lv a) (i := i.toNat) hp).2 (by omega);refine ⟨by rw [em, em]; show (i - 1 + 1).toNat < (i + 1).toNat; omega, (eok _).2 ⟨by show -1 ≤ i - 1; omega, by show i - 1 < _; omega, ?_, st.2.1, ?_, ?_⟩⟩
  · show lim _ = lim (lv a / 2 ^ (i - 1 + 1).toNat % lv d);rw [show (i - 1 + 1).toNat = i.toNat by omega, s.1]
  · show lv (setL q i.toNat) = lv a / 2 ^ (i - 1 + 1).toNat / lv d * 2 ^ (i - 1 + 1).toNat;rw [show (i - 1 + 1).toNat = i.toNat by omega, s.2, st.2.2.1, k5, Aq, Bd, Ax 2, Aw, Ax 2, Dv]
  · show (setL q i.toNat).length ≤ a.length;rw [st.2.2.2]; omega
 have stop : ∀ i q w, d.length ≠ 0 → ok (i, q, w) → ¬ 0 ≤ i → (lim (lv q), lim (lv w), true) = r := by
  intro i q w hp hok hi;obtain ⟨k1, k2, k3, k4, k5, k6⟩ := (eok _).1 hok;dsimp only at k1 k2 k3 k4 k5 k6;have p := pos hp;rw [show (i + 1).toNat = 0 by omega, Ct, Nat.div_one] at k3 k5;rw [k5, k3, aJ, By, vd, ← hr, if_neg (by omega)]
 refine callsA_o Tryz.func195 fun E hE lp hl => ?_
 cbv
 (apply E_callX hE (c_rTrim b hb (by omega)); (case hf => rfl); (case hc => (cbv <;> trivial)); (case hle => exact ⟨aN, trivial⟩); intro x' hx'; cbv)
 rw [hx'.trans ed];clear hx' x';refine E_br hE ?_ ?_ <;> intro h <;> cbv
 · subst hE;have z := zero (by have k : (d.length : Int) = 0 := cA h; omega);rw [← z]; exact ⟨rfl, rfl, rfl, trivial⟩
 have ne : d.length ≠ 0 := by subst hE; have k : ¬ (d.length : Int) = 0 := eql_f h; omega
 have pd := pos ne
 (apply E_callX hE (aAP a ha (by omega)); (case hf => rfl); (case hc => (cbv <;> trivial)); (case hle => exact ⟨aN, trivial⟩); intro n hn; cbv)
 refine E_nm hE fun i0 hi0 => ?_
 cbv;have ei0 : i0 = blen (lv a : Int) - 1 := by subst hE; have k : i0 = IntKind.i64.wrap (n - 1) := hi0; rw [k]; exact wn n hn
 refine E_loopM hE hG hm hl (fun p : Int × List Int × List Int => (⟨[(0, .sli .u32 a), (7, .sli .u32 d), (8, .sli .u32 p.2.1), (9, .sli .u32 p.2.2), (10, .int .i64 (.s p.1))], []⟩ : St)) m ok ⟨(i0, [], []), [], (by rw [ei0]; exact start), bV trivial rfl rfl rfl trivial ?_⟩ ?_
 · (repeat' (first | exact bW | refine bN (dH rfl rfl) rfl ?_ | refine bE ?_ rfl ?_ | exact aM | exact aI | exact aN | exact (rfl : sle2 .s0 .s0) | exact cR))
 rintro ⟨i, q, w⟩ hok;have iv := inv i q w pd hok;have n0 := fun w2 => next0 i q w w2 pd hok
 have n1 := fun w2 => next1 i q w w2 pd hok
 have sp := stop i q w ne hok;have wpi : 0 ≤ i → IntKind.i64.wrap (i - 1) = i - 1 := fun p => by have := iv.2.2.2.2.2.1; rw [wi64]; omega
 have l1 : Lb [(1 : Int)] := Lb.cons (by decide) (by decide) Lb.nil;have l1 : Lb [(1 : Int)] := Lb.cons (by decide) (by decide) Lb.nil;have small : ∀ (u : List Int) (X : Nat), u = lim X → X ≤ 2 * lv d → Lb u ∧ u.length < 268435456 := by
  intro u X hu hX;subst hu;refine ⟨lim_lb _, ?_⟩;have l2 := bP hd;have : (lim X).length ≤ d.length + 1 := lim_length_le (by rw [Aq]; omega);omega
 have lw := iv.2.2.2.2.1;have bit01 := Cz (lv a / 2 ^ i.toNat) (show 0 < 2 by decide);have dbl : ∀ t, t = lim (lv w + lv w) → Lb t ∧ t.length < 268435456 ∧ lv t = 2 * lv w := by
  intro t ht;have k := small t _ ht (by omega);exact ⟨k.1, k.2, by rw [ht, aJ]; omega⟩
 have nxt0 : ∀ t, t = lim (lv w + lv w) → ¬ lv a / 2 ^ i.toNat % 2 = 1 → t = lim (2 * lv w + lv a / 2 ^ i.toNat % 2) ∧ Lb t ∧ t.length < 268435456 := by
  intro t ht h;have k := small t _ ht (by omega);exact ⟨by rw [ht]; congr 1; omega, k.1, k.2⟩
 have nxt1 : ∀ t u, t = lim (lv w + lv w) → u = lim (lv t + lv [(1 : Int)]) → lv a / 2 ^ i.toNat % 2 = 1 → u = lim (2 * lv w + lv a / 2 ^ i.toNat % 2) ∧ Lb u ∧ u.length < 268435456 := by
  intro t u ht hu h;have e : lv [(1 : Int)] = 1 := rfl;rw [e, (dbl t ht).2.2] at hu;have k := small u _ hu (by omega);exact ⟨by rw [hu, h], k.1, k.2⟩
 have lens : w.length < 268435456 ∧ d.length < 268435456 ∧ q.length < 268435456 ∧ i < 9223372036854775807 ∧ i < 8589934592 := ⟨by have := iv.2.2.2.1; omega, by omega, by have := iv.2.1; omega, by have := iv.2.2.2.2.2.1; omega, iv.2.2.2.2.2.1⟩
 have addok : 0 ≤ i → (q ++ List.replicate (i.toNat / 32 + 1 - q.length) 0).getD (i.toNat / 32) 0 + 2 ^ (i.toNat % 32) < 4294967296 := fun h => (aGU iv.1 i.toNat (iv.2.2.2.2.2.2 h)).1
 have subs : ∀ (w2 : List Int) (s : List Int × Bool), s = (if lv w2 < lv d then ([], false) else (lim (lv w2 - lv d), true)) → (s.2 = false → lv w2 < lv d) ∧ (s.2 = true → ¬ lv w2 < lv d ∧ s.1 = lim (lv w2 - lv d)) := by
  intro w2 s hs;subst hs;by_cases k : lv w2 < lv d
  · rw [if_pos k]; exact ⟨fun _ => k, fun h => by cases h⟩
  · rw [if_neg k]; exact ⟨fun h => by (cases h), fun _ => ⟨k, rfl⟩⟩
 clear next0 next1 stop start inv hok eok zero pos;cbv;refine E_br hE ?_ ?_ <;> intro hi <;> cbv
 · have hnn : 0 ≤ i := by subst hE; exact lQ hi
   (apply E_callX hE (oD w w iv.2.2.1 iv.2.2.1 lens.1 lens.1); (case hf => rfl); (case hc => (cbv <;> trivial)); (case hle => exact ⟨aN, aN, trivial⟩); intro t ht; cbv)
   (apply E_callX hE (c_rBit a i ha hnn lens.2.2.2.1); (case hf => rfl); (case hc => (cbv <;> trivial)); (case hle => exact ⟨aN, aM, trivial⟩); intro o ho; cbv)
   refine E_br hE ?_ ?_ <;> intro hb1 <;> cbv
   · have bt1 : lv a / 2 ^ i.toNat % 2 = 1 := Bt (ho.symm.trans hb1);have T := dbl t ht;have es : E.sub [1] 0 1 = [1] := by subst hE; rfl
     repeat' (first
       | (refine E_br hE ?_ ?_ <;> intro h <;> cbv)
       | (refine E_nm hE fun v hv => ?_; cbv)
       | (refine aT hE (fun b hb => ?_); cbv)
       | (refine E_cx hE (oD _ _ ?_ ?_ ?_ ?_) ?_; all_goals (first | (intro u hu; cbv) | ((first | exact T.1 | exact T.2.1 | (show Lb (E.sub [1] 0 1); rw [es]; exact l1) | (show (E.sub [1] 0 1).length < 268435456; rw [es]; show (1 : Nat) < 268435456; decide)))))
       | fail)
     have U := nxt1 t u ht (by rw [hu]; congr 2; show lv (E.sub [1] 0 1) = _; rw [es]) bt1
     (apply E_callX hE (aAC u d U.2.1 hd U.2.2 lens.2.1); (case hf => rfl); (case hc => (cbv <;> trivial)); (case hle => exact ⟨aN, aN, trivial⟩); intro s hs; cbv)
     have SB := subs u s hs;refine E_br hE ?_ ?_ <;> intro hs2 <;> cbv
     · have k := SB.2 hs2
       (apply E_callX hE (aLK q i iv.1 lens.2.2.1 hnn lens.2.2.2.2 (addok hnn)); (case hf => rfl); (case hc => (cbv <;> trivial)); (case hle => exact ⟨aN, aM, trivial⟩); intro q' hq'; cbv)
       refine E_nm hE fun v hv => ?_
       cbv;refine ⟨(v, q', s.1), [], ?_, ?_, bV trivial rfl rfl rfl trivial ?_⟩;rotate_right
       · (repeat' (first | exact bW | refine bN (dH rfl rfl) rfl ?_ | refine bE ?_ rfl ?_ | exact aM | exact aI | exact aN | exact (rfl : sle2 .s0 .s0) | exact cR))
       all_goals (have g := n1 u hnn U.1 k.1; rw [← k.2, ← show q' = setL q i.toNat from hq'] at g; have hv' : v = i - 1 := (by subst hE; have z : v = IntKind.i64.wrap (i - 1) := hv; rw [z, wpi hnn]); subst hv'; first | exact g.1 | exact g.2)
     · have k := SB.1 hs2;refine E_nm hE fun v hv => ?_
       cbv;refine ⟨(v, q, u), [], ?_, ?_, bV trivial rfl rfl rfl trivial ?_⟩;rotate_right
       · (repeat' (first | exact bW | refine bN (dH rfl rfl) rfl ?_ | refine bE ?_ rfl ?_ | exact aM | exact aI | exact aN | exact (rfl : sle2 .s0 .s0) | exact cR))
       all_goals (have g := n0 u hnn U.1 k; have hv' : v = i - 1 := (by subst hE; have z : v = IntKind.i64.wrap (i - 1) := hv; rw [z, wpi hnn]); subst hv'; first | exact g.1 | exact g.2)
   · have bt0 : ¬ lv a / 2 ^ i.toNat % 2 = 1 := Ce (ho.symm.trans hb1);have U := nxt0 t ht bt0
     (apply E_callX hE (aAC t d U.2.1 hd U.2.2 lens.2.1); (case hf => rfl); (case hc => (cbv <;> trivial)); (case hle => exact ⟨aN, aN, trivial⟩); intro s hs; cbv)
     have SB := subs t s hs;refine E_br hE ?_ ?_ <;> intro hs2 <;> cbv
     · have k := SB.2 hs2
       (apply E_callX hE (aLK q i iv.1 lens.2.2.1 hnn lens.2.2.2.2 (addok hnn)); (case hf => rfl); (case hc => (cbv <;> trivial)); (case hle => exact ⟨aN, aM, trivial⟩); intro q' hq'; cbv)
       refine E_nm hE fun v hv => ?_
       cbv;refine ⟨(v, q', s.1), [], ?_, ?_, bV trivial rfl rfl rfl trivial ?_⟩;rotate_right
       · (repeat' (first | exact bW | refine bN (dH rfl rfl) rfl ?_ | refine bE ?_ rfl ?_ | exact aM | exact aI | exact aN | exact (rfl : sle2 .s0 .s0) | exact cR))
       all_goals (have g := n1 t hnn U.1 k.1; rw [← k.2, ← show q' = setL q i.toNat from hq'] at g; have hv' : v = i - 1 := (by subst hE; have z : v = IntKind.i64.wrap (i - 1) := hv; rw [z, wpi hnn]); subst hv'; first | exact g.1 | exact g.2)
     · have k := SB.1 hs2;refine E_nm hE fun v hv => ?_
       cbv;refine ⟨(v, q, t), [], ?_, ?_, bV trivial rfl rfl rfl trivial ?_⟩;rotate_right
       · (repeat' (first | exact bW | refine bN (dH rfl rfl) rfl ?_ | refine bE ?_ rfl ?_ | exact aM | exact aI | exact aN | exact (rfl : sle2 .s0 .s0) | exact cR))
       all_goals (have g := n0 t hnn U.1 k; have hv' : v = i - 1 := (by subst hE; have z : v = IntKind.i64.wrap (i - 1) := hv; rw [z, wpi hnn]); subst hv'; first | exact g.1 | exact g.2)
 · (apply E_callX hE (c_rTrim q iv.1 (Dz lens.2.2.1)); (case hf => rfl); (case hc => (cbv <;> trivial)); (case hle => exact ⟨aN, trivial⟩); intro x hx; cbv)
   (apply E_callX hE (c_rTrim w iv.2.2.1 (Dz lens.1)); (case hf => rfl); (case hc => (cbv <;> trivial)); (case hle => exact ⟨aN, trivial⟩); intro y hy; cbv)
   subst hE;have g := sp (kH hi);rw [← g, ← hx, ← hy];exact ⟨rfl, rfl, rfl, trivial⟩
theorem aFZ (a : List Int) (n : Int) (ha : Lb a) (hla : a.length < 67108864) (hn : n < 9223372036854775807) : ∃ t : List Int, t = (if n < 1 then lim (lv a) else lim (lv a / 2 ^ n.toNat)) ∧ aC Tryz.prog 210 [.sli .u32 a, .int .i64 (.s n)] (.sli .u32 t) := by
 refine ⟨_, rfl, ?_⟩;generalize hr : (if n < 1 then lim (lv a) else lim (lv a / 2 ^ n.toNat)) = r;have low : n < 1 → lim (lv a) = r := fun h => by rw [← hr, if_pos h]
 have hig : ¬ n < 1 → IntKind.i64.wrap (32 * (a.length : Int)) ≤ n → [] = r := by
  intro h g;rw [wi64_id (by omega) (by omega)] at g;have l := bP ha;have e : (4294967296 : Nat) ^ a.length = 2 ^ (32 * a.length) := by rw [show (4294967296 : Nat) = 2 ^ 32 from rfl, ← Cj]
  have p : (2 : Nat) ^ (32 * a.length) ≤ 2 ^ n.toNat := Ag (by decide) (by omega);rw [← hr, if_neg h, Ca (by omega)]; rfl
 have nums : ¬ n < 1 → ¬ IntKind.i64.wrap (32 * (a.length : Int)) ≤ n → aA .quo .i64 n 32 = n / 32 ∧ aA .rem .i64 n 32 = n % 32 ∧ 0 ≤ n / 32 ∧ n / 32 < a.length := by
  intro h g;rw [wi64_id (by omega) (by omega)] at g;refine ⟨quo32 (by omega) (by omega), qW (by omega), by omega, by omega⟩
 have val : ¬ n < 1 → n / 32 < a.length → (if lv [(2 : Int) ^ (n % 32).toNat] = 0 then ([], [], false) else (lim (lv (lim (lv (a.drop (n / 32).toNat))) / lv [(2 : Int) ^ (n % 32).toNat]), lim (lv (lim (lv (a.drop (n / 32).toNat))) % lv [(2 : Int) ^ (n % 32).toNat]), true) : List Int × List Int × Bool).1 = r := by
  intro h g;have e : lv [(2 : Int) ^ (n % 32).toNat] = 2 ^ (n % 32).toNat := by
   show ((2 : Int) ^ (n % 32).toNat).toNat + 4294967296 * 0 = _;rw [eR]; simp only [Ak, Cp, Bn]
  have p0 : 0 < 2 ^ (n % 32).toNat := Bg (by decide);have p := kL n.toNat;rw [show n.toNat / 32 = (n / 32).toNat by omega, show n.toNat % 32 = (n % 32).toNat by omega] at p;rw [e, if_neg (by omega), aJ, nM ha _ (by omega), Cl, ← p, ← hr, if_neg h]
 have l2 : Lb [(2 : Int) ^ (n % 32).toNat] := by have := vB (r := (n % 32).toNat) (by omega); exact Lb.cons (by omega) (by omega) Lb.nil
 have hx : ∀ x, x = lim (lv (a.drop (n / 32).toNat)) → Lb x ∧ x.length < 67108864 := by
  intro x h;subst h;refine ⟨lim_lb _, ?_⟩;have := aO (ha.drop (n / 32).toNat);rw [List.length_drop] at this;omega
 have ld : Lb (a.drop (n / 32).toNat) ∧ (a.drop (n / 32).toNat).length ≤ 268435456 := ⟨ha.drop _, by rw [List.length_drop]; omega⟩
 refine callsA_o Tryz.func210 fun E hE lp hl => ?_
 cbv;refine E_br hE ?_ ?_ <;> intro g1 <;> cbv
 · repeat' (first
     | (refine E_br hE ?_ ?_ <;> intro h <;> cbv)
     | (refine E_nm hE fun v hv => ?_; cbv)
     | (refine aT hE (fun b hb => ?_); cbv)
     | (refine E_cx hE (c_rTrim _ ha ?_) ?_; all_goals (first | (intro t ht; cbv) | (omega)))
     | fail)
   subst hE; rw [ht]; exact low (bF g1)
 refine E_br hE ?_ ?_ <;> intro g2 <;> cbv
 · subst hE; exact (hig (aW g1) (lQ g2)).symm
 have nm : E.bin .quo .i64 n 32 = n / 32 ∧ E.bin .rem .i64 n 32 = n % 32 ∧ 0 ≤ n / 32 ∧ n / 32 < a.length := by subst hE; exact nums (aW g1) (kH g2)
 have es0 : E.sub a (E.bin .quo .i64 n 32) (E.minus (E.len a) (E.bin .quo .i64 n 32)) = a.drop (n / 32).toNat := by
  subst hE; rw [nm.1]; show (a.drop (n / 32).toNat).take ((a.length : Int) - n / 32).toNat = _; rw [List.take_of_length_le (by rw [List.length_drop]; omega)]
 have es2 : ∀ v, v = E.bin .shl .u32 1 (E.conv .u64 (E.bin .rem .i64 n 32)) → E.sub [v] 0 1 = [2 ^ (n % 32).toNat] := by
  intro v hv;subst hE;have e : (aB Tryz.prog).conv .u64 ((aB Tryz.prog).bin .rem .i64 n 32) = n % 32 := by
   rw [nm.2.1]; show IntKind.u64.wrap (n % 32) = n % 32; rw [wu64]; omega
  rw [e] at hv;have e2 : v = aA .shl .u32 1 (n % 32) := hv;rw [qP (by omega) (by omega)] at e2;subst e2; rfl
 refine E_br hE ?_ ?_ <;> intro b1 <;> cbv
 · refine E_br hE ?_ ?_ <;> intro b2 <;> cbv
   · refine E_br hE ?_ ?_ <;> intro b3 <;> cbv
     · (apply E_callX hE (c_rTrim _ ?_ ?_); (case hf => rfl); (case hc => (cbv <;> trivial)); (case hle => exact ⟨aN, trivial⟩); all_goals (first | (intro x hx'; cbv) | (show Lb (E.sub a (E.bin .quo .i64 n 32) (E.minus (E.len a) (E.bin .quo .i64 n 32))); rw [es0]; exact ld.1) | (show (E.sub a (E.bin .quo .i64 n 32) (E.minus (E.len a) (E.bin .quo .i64 n 32))).length ≤ 268435456; rw [es0]; exact ld.2)))
       replace hx' : x = lim (lv (E.sub a (E.bin .quo .i64 n 32) (E.minus (E.len a) (E.bin .quo .i64 n 32)))) := hx';rw [es0] at hx';have X := hx x hx';refine E_br hE ?_ ?_ <;> intro b4 <;> cbv
       · exfalso;subst hE;have k := bF b4;have e : (aB Tryz.prog).conv .u64 ((aB Tryz.prog).bin .rem .i64 n 32) = n % 32 := by rw [nm.2.1]; show IntKind.u64.wrap (n % 32) = n % 32; rw [wu64]; omega
         rw [e] at k;omega
       · have e2 := es2 _ rfl
         (apply E_callX hE (aAI _ _ X.1 ?_ X.2 ?_); (case hf => rfl); (case hc => (cbv <;> trivial)); (case hle => exact ⟨aN, aN, trivial⟩); all_goals (first | (intro t ht; cbv) | (show Lb (E.sub [(E.bin .shl .u32 1 (E.conv .u64 (E.bin .rem .i64 n 32)))] 0 1); rw [e2]; exact l2) | (show (E.sub [(E.bin .shl .u32 1 (E.conv .u64 (E.bin .rem .i64 n 32)))] 0 1).length < 67108864; rw [e2]; show (1 : Nat) < 67108864; decide)))
         replace ht : t = (if lv (E.sub [(E.bin .shl .u32 1 (E.conv .u64 (E.bin .rem .i64 n 32)))] 0 1) = 0 then ([], [], false) else (lim (lv x / lv (E.sub [(E.bin .shl .u32 1 (E.conv .u64 (E.bin .rem .i64 n 32)))] 0 1)), lim (lv x % lv (E.sub [(E.bin .shl .u32 1 (E.conv .u64 (E.bin .rem .i64 n 32)))] 0 1)), true)) := ht;rw [e2, hx'] at ht;rw [← val (by subst hE; exact aW g1) nm.2.2.2, ht]
     · exfalso; subst hE; exact bQ b3 (Bc _)
   · exfalso; subst hE; apply bQ b2; show aA .quo .i64 n 32 ≤ (a.length : Int); rw [show aA .quo .i64 n 32 = n / 32 from nm.1]; exact Am nm.2.2.2
 · exfalso; subst hE; apply bQ b1; show (0 : Int) ≤ aA .quo .i64 n 32; rw [show aA .quo .i64 n 32 = n / 32 from nm.1]; exact nm.2.2.1
theorem iJ (n : Nat) : 0 < (lim n).length ↔ n ≠ 0 := by
 constructor
 · intro h e; rw [e] at h; exact absurd h (by decide)
 · intro h;rcases Ao (lim n).length with k | k
   · exact absurd (fH.1 (List.length_eq_zero_iff.1 k)) h
   · exact k
theorem c_r2Make (neg : Bool) (m : List Int) (hm_ : Lb m) (hl : m.length ≤ 268435456) : ∃ t : Bool × List Int, t = (neg && decide (lv m ≠ 0), lim (lv m)) ∧ aC Tryz.prog 71 [.bool (.s neg), .sli .u32 m] (.agg [.bool (.s t.1), .sli .u32 t.2]) := by
 refine ⟨_, rfl, ?_⟩;generalize hr : (neg && decide (lv m ≠ 0), lim (lv m)) = r;have hp := iJ (lv m);refine callsA_o Tryz.func71 fun E hE lp hl' => ?_
 cbv;repeat' (first
   | (refine E_br hE ?_ ?_ <;> intro h <;> cbv)
   | (refine E_nm hE fun v hv => ?_; cbv)
   | (refine aT hE (fun b hb => ?_); cbv)
   | (refine E_cx hE (c_rTrim _ hm_ hl) ?_; intro t ht; cbv)
   | fail)
 all_goals (subst hE; subst hr)
 · refine ⟨?_, ht, trivial⟩;rw [‹neg = true›];show decide ((0 : Int) < (t.length : Int)) = (true && decide (lv m ≠ 0));rw [ht, Bool.true_and];exact Bk.2 ⟨fun h => hp.1 (by omega), fun h => by have := hp.2 h; omega⟩
 · exact ⟨by rw [‹neg = false›]; rfl, ht, trivial⟩
theorem gM (neg : Bool) (m : List Int) (hm_ : Lb m) (hl : m.length ≤ 268435456) : ∃ t : Int, t = (if lv m = 0 then 0 else if neg = true then -1 else 1 : Int) ∧ aC Tryz.prog 145 [.agg [.bool (.s neg), .sli .u32 m]] (.int .i64 (.s t)) := by
 refine ⟨_, rfl, ?_⟩;generalize hr : (if lv m = 0 then 0 else if neg = true then -1 else 1 : Int) = r;have hp := iJ (lv m);refine callsA_o Tryz.func145 fun E hE lp hl' => ?_
 cbv;repeat' (first
   | (refine E_br hE ?_ ?_ <;> intro h <;> cbv)
   | (refine E_nm hE fun v hv => ?_; cbv)
   | (refine aT hE (fun b hb => ?_); cbv)
   | (refine E_cx hE (c_r2Make _ _ hm_ hl) ?_; intro t ht; cbv)
   | fail)
 all_goals (subst hE; subst hr)
 · have k : (t.2.length : Int) = 0 := cA ‹_›;rw [ht] at k;rw [if_pos (by rcases Ao (lv m) with z | z; exact z; exact absurd (hp.2 (by omega)) (by show ¬ 0 < (lim (lv m)).length; have k2 : ((lim (lv m)).length : Int) = 0 := k; omega))]
 all_goals (have k : ¬ (t.2.length : Int) = 0 := eql_f ‹_›; rw [ht] at k; have k2 : lv m ≠ 0 := hp.1 (by have k3 : ¬ ((lim (lv m)).length : Int) = 0 := k; omega); rw [if_neg k2])
 · have q : t.1 = true := ‹_›;rw [ht] at q;rw [if_pos (by simp [k2] at q; exact q)]
 · have q : t.1 = false := ‹_›;rw [ht] at q;have q' : neg = false := by simp [k2] at q; exact q
   rw [if_neg (by rw [q']; decide)]
theorem aIF (na : Bool) (a : List Int) (nb : Bool) (b : List Int) (ha : Lb a) (hb : Lb b) (hla : a.length < 67108864) (hlb : b.length < 67108864) :
 ∃ t : Bool × List Int, t = ((na != nb) && decide (lv a * lv b ≠ 0), lim (lv a * lv b)) ∧ aC Tryz.prog 147 [.agg [.bool (.s na), .sli .u32 a], .agg [.bool (.s nb), .sli .u32 b]] (.agg [.bool (.s t.1), .sli .u32 t.2]) := by
 refine ⟨_, rfl, ?_⟩;generalize hr : ((na != nb) && decide (lv a * lv b ≠ 0), lim (lv a * lv b)) = r;have lx : ∀ x, x = lim (lv a * lv b) → Lb x ∧ x.length ≤ 268435456 := by
  intro x h;subst h;refine ⟨lim_lb _, ?_⟩;have l1 := bP ha;have l2 := bP hb;have : (lim (lv a * lv b)).length ≤ a.length + b.length := lim_length_le (by rw [Ap]; exact Nat.mul_lt_mul'' l1 l2);omega
 refine callsA_o Tryz.func147 fun E hE lp hl' => ?_
 cbv;repeat' (first
   | (apply E_br_t hE; assumption; cbv)
   | (apply fD hE; assumption; cbv)
   | (refine E_br hE ?_ ?_ <;> intro h <;> cbv)
   | (refine E_nm hE fun v hv => ?_; cbv)
   | (refine E_px hE (aLI _ _ ha hb hla hlb) ?_; intro x hx; cbv)
   | (refine E_px hE (c_r2Make _ _ ?_ ?_) ?_; all_goals (first | (intro t ht; cbv) | (first | exact (lx _ (by assumption)).1 | exact (lx _ (by assumption)).2)))
   | fail)
 have vx : lv x = lv a * lv b := by rw [hx, aJ]
 rw [← hr, ht, vx];subst hE;exact ⟨rfl, rfl, trivial⟩
end
end Go.Proofs.YtmlcglmbjjmijaaGreatDoor.Ev
