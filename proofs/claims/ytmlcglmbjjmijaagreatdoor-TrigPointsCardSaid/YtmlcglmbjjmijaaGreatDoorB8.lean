/- Texts of the proof, joined and shortened. -/
import Derived.Test.YtmlcglmbjjmijaaGreatDoorB7
import Derived.ChangeArms
import Derived.ProofKit
import Derived.RowKit
import Derived.Carry
import Derived.ChangeOld
import Derived.DataReads
set_option linter.unusedVariables false
set_option linter.unusedSimpArgs false
namespace Go.Proofs.YtmlcglmbjjmijaaGreatDoor.Ev
section
open Go Go.Proofs
def aTT (l : List Iv) (n : Int) (z : Iv) : Int × Option (List (List AV) × List (List AV) × Int × Int) × Bool → St
 | (i, none, b) => ⟨[(9, .int .i64 (.s i)), (8, .int .i64 (.s n)), (7, .slc 9 (.s n) (fun i => Iv.cells (l.getD i z))), (4, .bool (.s b)), (3, .s0), (2, .s0)], []⟩
 | (i, some (L, H, k, m), b) => ⟨[(9, .int .i64 (.s i)), (8, .int .i64 (.s n)), (7, .slc 9 (.s n) (fun i => Iv.cells (l.getD i z))), (4, .bool (.s b)), (3, .ms 1 4 (.l 0) (.s m)), (2, .ms 0 4 (.l 0) (.s k))],
   [.rows true 4 [.int .i64 (.l 0), .bool (.l false), .int .u64 (.l 0), .int .i64 (.l 0)] L, .rows true 4 [.int .i64 (.l 0), .bool (.l false), .int .u64 (.l 0), .int .i64 (.l 0)] H]⟩
def aSX (l : List Iv) (n : Int) : Int × Option (List (List AV) × List (List AV) × Int × Int) × Bool → Prop
 | (i, none, b) => 0 ≤ i ∧ i ≤ n ∧ Iv.goods (l.take i.toNat) = [] ∧ b = Iv.lN (l.take i.toNat)
 | (i, some (L, H, k, m), b) => 0 ≤ i ∧ i ≤ n ∧ L = (Iv.los (l.take i.toNat)).map Num.cells ∧ H = (Iv.his (l.take i.toNat)).map Num.cells ∧ k = (Iv.los (l.take i.toNat)).length ∧ m = (Iv.his (l.take i.toNat)).length ∧ b = Iv.lN (l.take i.toNat)
theorem aRM (l : List Iv) (n : Int) (hn : n = l.length) (hb : n ≤ 17179869184) : ∃ t : List Num × List Num × Bool × Int × Int, t = (Iv.los l, Iv.his l, Iv.lN l, ((Iv.los l).length : Int), ((Iv.his l).length : Int)) ∧
 aC Tryz.prog 87 [.slc 9 (.s n) (fun i => Iv.cells (l.getD i Iv.none))]
  (.tup [.slc 4 (.s t.2.2.2.1) (fun i => Num.cells (t.1.getD i Num.zero)), .slc 4 (.s t.2.2.2.2) (fun i => Num.cells (t.2.1.getD i Num.zero)), .bool (.s t.2.2.1)]) := by
 refine ⟨_, rfl, ?_⟩;generalize hr : (Iv.los l, Iv.his l, Iv.lN l, ((Iv.los l).length : Int), ((Iv.his l).length : Int)) = r;obtain ⟨z, hz⟩ : ∃ z, z = Iv.none := ⟨_, rfl⟩
 rw [← hz];refine callsA_o Tryz.func87 fun E hE lp hl => ?_
 cbv;refine E_loopM hE hG hm hl (aTT l n z) (fun p => (n - p.1).toNat) (aSX l n) ⟨(0, none, true), [], ⟨Bc 0, (by show (0 : Int) ≤ n; rw [hn]; exact Cv _), rfl, rfl⟩, bV trivial rfl rfl rfl trivial ?_⟩ ?_
 · repeat' (first | exact bW | refine bE ?_ rfl ?_ | exact aM | exact aI | exact bK | exact (rfl : sle2 .s0 .s0))
 have wi : ∀ i : Int, 0 ≤ i → i < n → IntKind.i64.wrap (i + 1) = i + 1 := fun i h0 h1 => gH h0 h1 (by omega)
 rintro ⟨i, (_ | ⟨L, H, k, m⟩), b⟩ hok
 · obtain ⟨h1, h2, h3, h4⟩ := hok;cbv;repeat' (first
     | (refine E_br hE ?_ ?_ <;> intro h <;> cbv)
     | (refine E_nm hE fun v hv => ?_; cbv)
     | (refine xZ hE (cell := Iv.cells) (fun t ht => ?_); cbv)
     | (apply E_callX hE (mO ⟨_, ⟨_, _, _, _⟩, ⟨_, _, _, _⟩⟩); (case hf => rfl); (case hc => (cbv <;> trivial)); (case hle => exact u_up); intro t ht; cbv)
     | fail)
   case refine_2.none.refine_1.refine_1.refine_1.hK.refine_1 =>
    refine ⟨(E.bin .add .i64 i 1, none, false), [], ?_, ⟨?_, ?_, ?_, ?_⟩, bV trivial rfl rfl rfl trivial ?_⟩;rotate_right
    · repeat' (first | exact bW | refine bE ?_ rfl ?_ | exact aM | exact aI | exact bK | exact (rfl : sle2 .s0 .s0))
    all_goals (subst hE; simp only [aB, aG, aF, aE, aA, Ab, Aa, SI.val, SB.val, Num.eta, Iv.eta] at *)
    all_goals (replace hn : n = (l.length : Int) := hn)
    all_goals (rw [wi i h1 ‹i < n›])
    · omega
    · omega
    · omega
    · rw [Iv.dJ h1 (by omega), ← hz, ← ‹_ = l.getD i.toNat z›, ← ht, if_pos ‹_›, h3]
    · rw [Iv.iP h1 (by omega), ← hz, ← ‹_ = l.getD i.toNat z›, ← ht, ‹t.empty = true›]; simp
   case refine_2.none.refine_1.refine_1.refine_1.hK.refine_2 =>
    refine ⟨(E.bin .add .i64 i 1, some ([t.lo.cells], [t.hi.cells], 1, 1), b), [1, 2], ?_, ⟨?_, ?_, ?_, ?_, ?_, ?_, ?_⟩, bV ⟨rfl, rfl, trivial⟩ rfl rfl rfl ⟨rfl, rfl, trivial⟩ ?_⟩;rotate_right
    · repeat' (first | exact bW | refine bN (dH rfl rfl) rfl ?_ | refine bE ?_ rfl ?_ | exact aM | exact aI | exact bK | exact (rfl : sle2 .s0 .s0))
    all_goals (subst hE; simp only [aB, aG, aF, aE, aA, Ab, Aa, SI.val, SB.val, Num.eta, Iv.eta] at *)
    all_goals (replace hn : n = (l.length : Int) := hn)
    all_goals (try rw [wi i h1 ‹i < n›])
    · omega
    · omega
    · omega
    · unfold Iv.los; rw [Iv.dJ h1 (by omega), ← hz, ← ‹_ = l.getD i.toNat z›, ← ht, if_neg (by rw [‹t.empty = false›]; decide), h3]; rfl
    · unfold Iv.his; rw [Iv.dJ h1 (by omega), ← hz, ← ‹_ = l.getD i.toNat z›, ← ht, if_neg (by rw [‹t.empty = false›]; decide), h3]; rfl
    · unfold Iv.los; rw [Iv.dJ h1 (by omega), ← hz, ← ‹_ = l.getD i.toNat z›, ← ht, if_neg (by rw [‹t.empty = false›]; decide), h3]; rfl
    · unfold Iv.his; rw [Iv.dJ h1 (by omega), ← hz, ← ‹_ = l.getD i.toNat z›, ← ht, if_neg (by rw [‹t.empty = false›]; decide), h3]; rfl
    · rw [Iv.iP h1 (by omega), ← hz, ← ‹_ = l.getD i.toNat z›, ← ht, ‹t.empty = false›, h4]; simp
   all_goals (try (exfalso; subst hE; simp only [aB, aG, aF, aE, aA, Ab, Aa, SI.val, SB.val, Num.eta, Iv.eta] at *; omega))
   subst hE;simp only [aB, aG, aF, aE, aA, Ab, Aa, SI.val, SB.val, Num.eta, Iv.eta] at *
   replace hn : n = (l.length : Int) := hn;have hi : i.toNat = l.length := by omega
   rw [hi, List.take_length] at h3 h4;rw [← hr];simp [Iv.los, Iv.his, h3, h4]
 · obtain ⟨h1, h2, h3, h4, h5, h6, h7⟩ := hok;cbv;repeat' (first
     | (refine E_br hE ?_ ?_ <;> intro h <;> cbv)
     | (refine E_nm hE fun v hv => ?_; cbv)
     | (refine xZ hE (cell := Iv.cells) (fun t ht => ?_); cbv)
     | (apply E_callX hE (mO ⟨_, ⟨_, _, _, _⟩, ⟨_, _, _, _⟩⟩); (case hf => rfl); (case hc => (cbv <;> trivial)); (case hle => exact u_up); intro t ht; cbv)
     | fail)
   case refine_2.some.refine_1.refine_1.refine_1.hK.refine_1 =>
    refine ⟨(E.bin .add .i64 i 1, some (L, H, k, m), false), [0, 1], ?_, ⟨?_, ?_, ?_, ?_, ?_, ?_, ?_⟩, bV ⟨?_, ?_, trivial⟩ rfl rfl rfl ⟨?_, ?_, trivial⟩ ?_⟩;rotate_right
    · repeat' (first | exact bW | refine bN (dH rfl rfl) rfl ?_ | refine bE ?_ rfl ?_ | exact aM | exact aI | exact bK)
    all_goals (subst hE; simp only [aB, aG, aF, aE, aA, Ab, Aa, SI.val, SB.val, Num.eta, Iv.eta] at *)
    all_goals (replace hn : n = (l.length : Int) := hn)
    all_goals (try rw [wi i h1 ‹i < n›])
    · omega
    · omega
    · omega
    · rw [h3]; unfold Iv.los; rw [Iv.dJ h1 (by omega), ← hz, ← ‹_ = l.getD i.toNat z›, ← ht, if_pos ‹_›]
    · rw [h4]; unfold Iv.his; rw [Iv.dJ h1 (by omega), ← hz, ← ‹_ = l.getD i.toNat z›, ← ht, if_pos ‹_›]
    · rw [h5]; unfold Iv.los; rw [Iv.dJ h1 (by omega), ← hz, ← ‹_ = l.getD i.toNat z›, ← ht, if_pos ‹_›]
    · rw [h6]; unfold Iv.his; rw [Iv.dJ h1 (by omega), ← hz, ← ‹_ = l.getD i.toNat z›, ← ht, if_pos ‹_›]
    · rw [Iv.iP h1 (by omega), ← hz, ← ‹_ = l.getD i.toNat z›, ← ht, ‹t.empty = true›]; simp
    · show Blk.rows true 4 _ _ = Blk.rows true 4 _ _; rw [h3, tR]
    · show Blk.rows true 4 _ _ = Blk.rows true 4 _ _; rw [h4, tR]
    · rw [h3]; exact tV _ _
    · rw [h4]; exact tV _ _
   case refine_2.some.refine_1.refine_1.refine_1.hK.refine_2.refine_1.refine_1 =>
    refine ⟨(E.bin .add .i64 i 1, some (E.rapp (E.rsub L 0 k) [t.lo.cells], E.rapp (E.rsub H 0 m) [t.hi.cells], E.plus k 1, E.plus m 1), b), [3, 4], ?_, ⟨?_, ?_, ?_, ?_, ?_, ?_, ?_⟩, bV ⟨?_, ?_, trivial⟩ rfl rfl rfl ⟨?_, ?_, trivial⟩ ?_⟩;rotate_right
    · repeat' (first | exact bW | refine bN (dH rfl rfl) rfl ?_ | refine bE ?_ rfl ?_ | exact aM | exact aI | exact bK)
    all_goals (subst hE; simp only [aB, aG, aF, aE, aA, Ab, Aa, SI.val, SB.val, Num.eta, Iv.eta] at *)
    all_goals (replace hn : n = (l.length : Int) := hn)
    all_goals (try rw [wi i h1 ‹i < n›])
    · omega
    · omega
    · omega
    · rw [h3, h5, iG, Iv.aDA h1 (by omega) (by rw [← hz, ← ‹_ = l.getD i.toNat z›, ← ht]; assumption), ← hz, ← ‹_ = l.getD i.toNat z›, ← ht]
    · rw [h4, h6, iG, Iv.aDH h1 (by omega) (by rw [← hz, ← ‹_ = l.getD i.toNat z›, ← ht]; assumption), ← hz, ← ‹_ = l.getD i.toNat z›, ← ht]
    · rw [h5, Iv.aDA h1 (by omega) (by rw [← hz, ← ‹_ = l.getD i.toNat z›, ← ht]; assumption)]; simp
    · rw [h6, Iv.aDH h1 (by omega) (by rw [← hz, ← ‹_ = l.getD i.toNat z›, ← ht]; assumption)]; simp
    · rw [Iv.iP h1 (by omega), ← hz, ← ‹_ = l.getD i.toNat z›, ← ht, ‹t.empty = false›, h7]; simp
    · show Blk.rows true 4 _ _ = Blk.rows true 4 _ _; rw [h3, h5, iG, tR]; exact congrArg (Blk.rows true 4 _) (iG _ _)
    · show Blk.rows true 4 _ _ = Blk.rows true 4 _ _; rw [h4, h6, iG, tR]; exact congrArg (Blk.rows true 4 _) (iG _ _)
    · rw [h3, h5, iG]; exact tV _ _
    · rw [h4, h6, iG]; exact tV _ _
   case refine_2.some.refine_1.refine_1.refine_1.hK.refine_2.refine_1.refine_2 =>
    exfalso; subst hE; simp only [aB, aG, aF, aE, aA, Ab, Aa, SI.val, SB.val, Num.eta, Iv.eta] at *
    have := Iv.aGM (l.take i.toNat);rw [List.length_take] at this;have e1 : Int.ofNat 1 = 1 := rfl;replace h6 : _ = ((Iv.his (l.take i.toNat)).length : Int) := h6;replace hn : n = (l.length : Int) := hn;omega
   case refine_2.some.refine_1.refine_1.refine_1.hK.refine_2.refine_2 =>
    exfalso; subst hE; simp only [aB, aG, aF, aE, aA, Ab, Aa, SI.val, SB.val, Num.eta, Iv.eta] at *
    have := Iv.aIS (l.take i.toNat);rw [List.length_take] at this;have e1 : Int.ofNat 1 = 1 := rfl;replace h5 : _ = ((Iv.los (l.take i.toNat)).length : Int) := h5;replace hn : n = (l.length : Int) := hn;omega
   all_goals (try (exfalso; subst hE; simp only [aB, aG, aF, aE, aA, Ab, Aa, SI.val, SB.val, Num.eta, Iv.eta] at *; omega))
   subst hE;simp only [aB, aG, aF, aE, aA, Ab, Aa, SI.val, SB.val, Num.eta, Iv.eta] at *
   replace hn : n = (l.length : Int) := hn;have hi : i.toNat = l.length := by omega
   rw [hi, List.take_length] at h3 h4 h5 h6 h7;replace h5 : k = ((Iv.los l).length : Int) := h5;replace h6 : m = ((Iv.his l).length : Int) := h6;rw [← hr];have qL : allB (allB AV.mf1) L = true := h3 ▸ aIG _;have qH : allB (allB AV.mf1) H = true := h4 ▸ aIG _;refine ⟨⟨by cases L <;> exact qL, by cases H <;> exact qH, trivial⟩, ⟨h5, fun i (hi : i < k.toNat) => ?_⟩, ⟨h6, fun i (hi : i < m.toNat) => ?_⟩, h7, trivial⟩
   · rw [h3, xR _ _ (by omega)]; exact mR
   · rw [h4, xR _ _ (by omega)]; exact mR
theorem Iv.fin9 {t r : Iv} (h : t = r) : t.empty = r.empty ∧ (t.lo.kind = r.lo.kind) ∧ t.lo.neg = r.lo.neg ∧ t.lo.m = r.lo.m ∧ t.lo.e = r.lo.e ∧ t.hi.kind = r.hi.kind ∧ t.hi.neg = r.hi.neg ∧ t.hi.m = r.hi.m ∧ t.hi.e = r.hi.e ∧ True := by
 subst h; exact ⟨rfl, rfl, rfl, rfl, rfl, rfl, rfl, rfl, rfl, trivial⟩
theorem aMR (l : List Iv) (n : Int) (hn : n = l.length) (hb : n ≤ 17179869184) : ∃ t, t = Iv.hull l ∧ aC Tryz.prog 102 [.slc 9 (.s n) (fun i => Iv.cells (l.getD i Iv.none))] t.av := by
 refine ⟨_, rfl, ?_⟩;generalize hr : Iv.hull l = r;refine callsA_o Tryz.func102 fun E hE lp hl => ?_
 cbv
 (apply E_callX hE (aRM l n hn hb); (case hf => rfl); (case hc => (cbv <;> trivial)); (case hle => exact ⟨bK, trivial⟩); rintro ⟨L, H, g, k, m⟩ ht; cbv)
 simp only [Prod.mk.injEq] at ht;obtain ⟨e1, e2, e3, e4, e5⟩ := ht;replace e4 : k = ((Iv.los l).length : Int) := e4;replace e5 : m = ((Iv.his l).length : Int) := e5;replace hn : n = (l.length : Int) := hn;have q1 := Iv.aIS l;have q2 := Iv.aGM l;have k1 : k = (L.length : Int) := by rw [e4, e1]
 have m1 : m = (H.length : Int) := by rw [e5, e2]
 have k2 : k < 9223372036854775808 := by omega
 have k3 : (Iv.los l).length = 0 ↔ k = 0 := by omega
 have m2 : m < 9223372036854775808 := by omega
 refine E_br hE ?_ ?_ <;> intro h <;> cbv
 · (apply E_callX hE lU; (case hf => rfl); (case hc => (cbv <;> trivial)); (case hle => exact trivial); intro t' ht'; cbv)
   have e : t' = r := by
    subst hE;simp only [aB, aE, Ab] at h;rw [← hr, ht']; unfold Iv.hull; rw [if_pos (k3.2 h)]
   exact Iv.fin9 e
 · (apply E_callX hE (aPM L k k1 k2); (case hf => rfl); (case hc => (cbv <;> trivial)); (case hle => exact ⟨bK, trivial⟩); intro a ha; cbv)
   (apply E_callX hE (c_Most H m m1 m2); (case hf => rfl); (case hc => (cbv <;> trivial)); (case hle => exact ⟨bK, trivial⟩); intro b hb; cbv)
   (apply E_callX hE (c_ivMake ⟨_, _, _, _⟩ ⟨_, _, _, _⟩); (case hf => rfl); (case hc => (cbv <;> trivial)); (case hle => (repeat' (first | exact fW | apply dV | apply dR | exact aM | exact dU | exact aI | exact cV))); intro t ht; cbv)
   have e : t = r := by
    subst hE;simp only [aB, aE, Aa] at h;rw [← hr, ht]; unfold Iv.hull; rw [if_neg (fun q => h (k3.1 q))];show Iv.make a b = _;rw [ha, hb, e1, e2]
   exact Iv.fin9 e
def Iv.ok (x : Iv) : Prop := x.lo.ok ∧ x.hi.ok
theorem Iv.aHL : Iv.none.ok := ⟨Num.zero_ok, Num.zero_ok⟩
theorem Iv.fair_ok {x : Iv} (h : x.ok) : x.fair.ok := by
 unfold Iv.fair;split
 · exact h
 · exact Iv.aHL
theorem Iv.aBV {l : List Iv} (h : ∀ x ∈ l, x.ok) : ∀ x ∈ Iv.goods l, x.ok := by
 induction l with
 | nil => intro x hx; cases hx
 | cons a r ih =>
  intro x hx;simp only [Iv.goods] at hx;have ih' := ih (fun y hy => h y (List.mem_cons_of_mem _ hy));split at hx
  · exact ih' x hx
  · rcases List.mem_cons.1 hx with rfl | hx
    · exact Iv.fair_ok (h a (List.mem_cons_self ..))
    · exact ih' x hx
theorem Iv.aSD {l : List Iv} (h : ∀ x ∈ l, x.ok) : ∀ x ∈ Iv.los l, x.ok := by
 intro x hx;obtain ⟨y, hy, rfl⟩ := List.mem_map.1 hx;exact (Iv.aBV h y hy).1
theorem Iv.aRR {l : List Iv} (h : ∀ x ∈ l, x.ok) : ∀ x ∈ Iv.his l, x.ok := by
 intro x hx;obtain ⟨y, hy, rfl⟩ := List.mem_map.1 hx;exact (Iv.aBV h y hy).2
theorem Num.aNM {l : List Num} (h : ∀ x ∈ l, x.ok) : (Num.least l).ok := (Num.least_spec l h).2.1
theorem Num.aQH {l : List Num} (h : ∀ x ∈ l, x.ok) : (Num.most l).ok := (Num.most_spec l h).2.1
theorem Iv.aQA {l : List Iv} (h : ∀ x ∈ l, x.ok) : (Iv.hull l).ok := by
 unfold Iv.hull;split
 · exact Iv.aHL
 · exact Iv.nK (Num.aNM (Iv.aSD h)) (Num.aQH (Iv.aRR h))
end
section
open Go
theorem Num.aGX {a b : Num} (oa : a.ok) (ob : b.ok) (up : Bool) : (Num.add a b up).may = true := by
 by_cases ka : a.fair.kind = 2
 · rw [Num.add_inf up ka]; split
   · exact Num.lC _
   · exact a.fair_may
 · by_cases kb : b.fair.kind = 2
   · rw [Num.qO oa ob up kb]; split
     · exact Num.lC _
     · exact b.fair_may
   · exact (jL oa ob ka kb up).may
theorem Iv.lI (a : Iv) : a.fair.empty = a.bad := by
 unfold Iv.fair Iv.bad;cases h : a.may <;> simp [Iv.none]
theorem Iv.bad_or_real {a : Iv} (h : a.lo.ok ∧ a.hi.ok) : a.bad = true ∨ a.Real := by
 cases e : a.bad with
 | true => exact .inl rfl
 | false => exact .inr (Iv.pO e h.1 h.2)
theorem Iv.aKO {x y : Iv} (rx : x.Real) (ry : y.Real) : Iv.goods [x, y] = [x, y] := by
 simp only [Iv.goods, rx.fair, ry.fair, rx.some, ry.some];rw [if_neg (by decide), if_neg (by decide)]
theorem Iv.aDU {x : Iv} (h : x.bad = true) : x.fair = Iv.none := by
 unfold Iv.bad at h;unfold Iv.fair;cases hm : x.may with
 | false => rfl
 | true =>
  rw [hm] at h;simp at h;rw [if_pos rfl]; exact Iv.empty_may hm h
theorem Iv.hull_two {x y : Iv} (hx : x.lo.ok ∧ x.hi.ok) (hy : y.lo.ok ∧ y.hi.ok) :
 (x.bad = true ∧ y.bad = true ∧ Iv.hull [x, y] = Iv.none) ∨ (x.bad = true ∧ y.Real ∧ Iv.hull [x, y] = y) ∨ (x.Real ∧ y.bad = true ∧ Iv.hull [x, y] = x) ∨
  (x.Real ∧ y.Real ∧ Iv.hull [x, y] = Iv.make (Num.least [x.lo, y.lo]) (Num.most [x.hi, y.hi])) := by
 have one : ∀ {z : Iv}, z.Real → Iv.make (Num.least [z.lo]) (Num.most [z.hi]) = z := by
  intro x r;have e1 : Num.least [x.lo] = x.lo := by
   have s := Num.least_spec [x.lo] (by simp; exact r.loo);have k1 := s.2.2.1 x.lo (by simp);rw [Num.aZ r.lom] at k1;refine Num.val_inj s.1 r.lom s.2.1 r.loo ?_;rcases s.2.2.2 with e | ⟨z, hz, e⟩
   · have := (Num.oO r.lom r.loo).2;rw [e, Num.val_inf] at k1 ⊢; simp at k1 ⊢; omega
   · simp at hz; subst hz; rw [e, Num.aZ r.lom]
  have e2 : Num.most [x.hi] = x.hi := by
   have s := Num.most_spec [x.hi] (by simp; exact r.hio);have k1 := s.2.2.1 x.hi (by simp);rw [Num.aZ r.him] at k1;refine Num.val_inj s.1 r.him s.2.1 r.hio ?_;rcases s.2.2.2 with e | ⟨z, hz, e⟩
   · have := (Num.oO r.him r.hio).1;rw [e, Num.val_inf] at k1 ⊢; simp at k1 ⊢; omega
   · simp at hz; subst hz; rw [e, Num.aZ r.him]
  rw [e1, e2, Iv.sG (by rw [Num.aZ r.lom, Num.aZ r.him]; exact ⟨rfl, r.lom, r.him, r.loo, r.hio, r.le, r.lt, r.gt⟩), Num.aZ r.lom, Num.aZ r.him];have := r.some;cases x; simp_all
 rcases Iv.bad_or_real hx with bx | rx
 · have fx : x.fair.empty = true := by rw [Iv.lI]; exact bx
   rcases Iv.bad_or_real hy with by' | ry
   · have fy : y.fair.empty = true := by rw [Iv.lI]; exact by'
     refine .inl ⟨bx, by', ?_⟩;have g : Iv.goods [x, y] = [] := by simp only [Iv.goods, fx, fy, if_true]
     unfold Iv.hull Iv.los Iv.his; rw [g]; rfl
   · refine .inr (.inl ⟨bx, ry, ?_⟩);have g : Iv.goods [x, y] = [y] := by simp only [Iv.goods, fx, ry.fair, ry.some, if_true]; rw [if_neg (by decide)]
     have : Iv.hull [x, y] = Iv.make (Num.least [y.lo]) (Num.most [y.hi]) := by unfold Iv.hull Iv.los Iv.his; rw [g]; rfl
     rw [this]; exact one ry
 · rcases Iv.bad_or_real hy with by' | ry
   · have fy : y.fair.empty = true := by rw [Iv.lI]; exact by'
     refine .inr (.inr (.inl ⟨rx, by', ?_⟩));have g : Iv.goods [x, y] = [x] := by simp only [Iv.goods, fy, rx.fair, rx.some, if_true]; rw [if_neg (by decide)]
     have : Iv.hull [x, y] = Iv.make (Num.least [x.lo]) (Num.most [x.hi]) := by unfold Iv.hull Iv.los Iv.his; rw [g]; rfl
     rw [this]; exact one rx
   · refine .inr (.inr (.inr ⟨rx, ry, ?_⟩));unfold Iv.hull Iv.los Iv.his; rw [Iv.aKO rx ry]; rfl
theorem Num.aRS {a b : Num} {t : Int} (ma : a.may = true) (mb : b.may = true) (oa : a.ok) (ob : b.ok) (na : a.val < pw 1048640) (nb : b.val < pw 1048640) (ht : -pw 1048640 < t) (h : a = Num.inf true ∨ a.val + b.val ≤ t) : (Num.add a b false).val ≤ t := by
 by_cases ka : a.kind = 2
 · have e : a = Num.inf true := by
    rcases Num.inf_val ma oa ka with j | j
    · rw [Num.mD ma oa ka, j.1]
    · omega
   rw [Num.add_inf false (by rw [Num.aZ ma]; exact ka), Num.aZ ma, Num.aZ mb];have n : ¬ (b.kind = 2 ∧ a.neg ≠ b.neg) := by
    rintro ⟨k, d⟩;rcases Num.inf_val mb ob k with j | j
    · rw [e, j.1] at d; exact d rfl
    · omega
   rw [if_neg n, e, Num.val_inf]; simp; omega
 · by_cases kb : b.kind = 2
   · have e : b = Num.inf true := by
      rcases Num.inf_val mb ob kb with j | j
      · rw [Num.mD mb ob kb, j.1]
      · omega
     rw [Num.qO oa ob false (by rw [Num.aZ mb]; exact kb), Num.aZ ma, Num.aZ mb, if_neg (fun k => ka k.1), e, Num.val_inf]; simp; omega
   · have B := jL oa ob (by rw [Num.aZ ma]; exact ka) (by rw [Num.aZ mb]; exact kb) false;rw [Num.aZ ma, Num.aZ mb] at B;rcases (B.down rfl).2 with e | e
     · rw [e, Num.val_inf]; simp; omega
     · rcases h with h | h
       · rw [h] at ka; exact absurd rfl ka
       · omega
theorem Num.aSF {a b : Num} {t : Int} (ma : a.may = true) (mb : b.may = true) (oa : a.ok) (ob : b.ok) (na : -pw 1048640 < a.val) (nb : -pw 1048640 < b.val) (ht : t < pw 1048640) (h : a = Num.inf false ∨ t ≤ a.val + b.val) : t ≤ (Num.add a b true).val := by
 have va : a.opp.val = -a.val := by rw [Num.jT, Num.aZ ma]
 have vb : b.opp.val = -b.val := by rw [Num.jT, Num.aZ mb]
 have k := Num.aRS (t := -t) (Num.opp_may a) (Num.opp_may b) (Num.opp_ok oa) (Num.opp_ok ob) (by omega) (by omega) (by omega) (h.imp (fun e => by rw [e]; exact Num.lL _) (fun e => by omega));have e := Num.aQL oa ob true;rw [show (!true) = false from rfl] at e;rw [e, Num.jT, Num.aZ (Num.aGX oa ob true)] at k;omega
def Iv.rhull (x y : Iv) : Iv := if x.fair.empty = true then y.fair else if y.fair.empty = true then x.fair else Iv.make (Num.least [x.fair.lo, y.fair.lo]) (Num.most [x.fair.hi, y.fair.hi])
theorem Num.yB {a : Num} (m : a.may = true) (o : a.ok) (k : a ≠ Num.inf false) : Num.least [a] = a := by
 have s := Num.least_spec [a] (by simp; exact o);have k1 := s.2.2.1 a (by simp);rw [Num.aS m] at k1;rcases s.2.2.2 with e | ⟨x, hx, e⟩
 · have l := (Num.mF m o).1.1 k;rw [e, Num.val_inf] at k1;simp at k1; omega
 · have : x = a := by simpa using hx
   rw [e, this, Num.aS m]
theorem Num.aDL {a : Num} (m : a.may = true) (o : a.ok) (k : a ≠ Num.inf true) : Num.most [a] = a := by
 have s := Num.most_spec [a] (by simp; exact o);have k1 := s.2.2.1 a (by simp);rw [Num.aS m] at k1;rcases s.2.2.2 with e | ⟨x, hx, e⟩
 · have l := (Num.mF m o).2.1 k;rw [e, Num.val_inf] at k1;simp at k1; omega
 · have : x = a := by simpa using hx
   rw [e, this, Num.aS m]
theorem Iv.aJQ {x : Iv} (R : x.Real) : Iv.make x.lo x.hi = x := by
 rw [Iv.uH, Num.aS R.lom, Num.aS R.him];have e : (Iv.mk false x.lo x.hi) = x := (Iv.eq_iff _ _).2 ⟨R.some.symm, rfl, rfl⟩;rw [e]; exact R.fair
theorem Iv.aDZ {x : Iv} (R : x.Real) : Iv.make (Num.least [x.lo]) (Num.most [x.hi]) = x := by
 have P := bG 1048640;have r1 := R.lt;have r2 := R.gt;rw [Num.yB R.lom R.loo ((Num.mF R.lom R.loo).1.2 r1), Num.aDL R.him R.hio ((Num.mF R.him R.hio).2.2 r2)];exact Iv.aJQ R
theorem Iv.aLP {x y : Iv} (hx : x.lo.ok ∧ x.hi.ok) (hy : y.lo.ok ∧ y.hi.ok) : Iv.rhull x y = Iv.hull [x, y] := by
 unfold Iv.rhull Iv.hull;cases ex : x.fair.empty <;> cases ey : y.fair.empty
 · simp [Iv.los, Iv.his, Iv.goods, ex, ey]
 · have R := Iv.rH ex hx.1 hx.2;have e := Iv.aDZ R;rw [← Iv.nE ex] at e;simp [Iv.los, Iv.his, Iv.goods, ex, ey];exact e.symm
 · have R := Iv.rH ey hy.1 hy.2;have e := Iv.aDZ R;rw [← Iv.nE ey] at e;simp [Iv.los, Iv.his, Iv.goods, ex, ey];exact e.symm
 · simp [Iv.los, Iv.his, Iv.goods, ex, ey];exact Iv.aOE ey
theorem Num.aFW {a : Num} (m : a.may = true) (o : a.ok) : Num.least [a] = a := by
 by_cases k : a = Num.inf false
 · subst k; decide
 · exact Num.yB m o k
theorem Num.aIW {a : Num} (m : a.may = true) (o : a.ok) : Num.most [a] = a := by
 by_cases k : a = Num.inf true
 · subst k; decide
 · exact Num.aDL m o k
end
section
open Go
attribute [local irreducible] Lb whN
theorem Iv.sC (l k : List Iv) : Iv.goods (l ++ k) = Iv.goods l ++ Iv.goods k := by
 induction l with
 | nil => rfl
 | cons a l ih =>
  simp only [List.cons_append, Iv.goods];split
  · exact ih
  · rw [ih]; rfl
theorem Iv.uM {l : List Iv} (h : ∀ x ∈ l, x.lo.ok ∧ x.hi.ok) : ∀ x ∈ Iv.goods l, x.Real := by
 induction l with
 | nil => intro x hx; cases hx
 | cons a l ih =>
  intro x hx;unfold Iv.goods at hx;have ih' := ih (fun y hy => h y (List.mem_cons_of_mem _ hy));split at hx
  · exact ih' x hx
  · rename_i g;rcases List.mem_cons.1 hx with rfl | hx
    · have g' : a.fair.empty = false := by simpa using g
      have o := h a (List.mem_cons_self ..);rw [Iv.nE g']; exact Iv.rH g' o.1 o.2
    · exact ih' x hx
theorem Num.aFI {a : Num} (m : a.may = true) (o : a.ok) : Num.lesser (Num.inf false) a = a := Num.aFW m o
theorem Num.aCU {a : Num} (m : a.may = true) (o : a.ok) : Num.greater (Num.inf true) a = a := Num.aIW m o
theorem Num.aFG (L : List Num) (a : Num) (h : ∀ x ∈ L, x.ok) : Num.least (L ++ [a]) = Num.least [Num.least L, a] := by
 have s := Num.least_spec L h;have e : Num.least [Num.least L, a] = Num.lesser (Num.lesser (Num.inf false) (Num.least L)) a := rfl;rw [e, Num.aFI s.1 s.2.1];simp [Num.least, List.foldl_append]
theorem Num.aJZ (L : List Num) (a : Num) (h : ∀ x ∈ L, x.ok) : Num.most (L ++ [a]) = Num.most [Num.most L, a] := by
 have s := Num.most_spec L h;have e : Num.most [Num.most L, a] = Num.greater (Num.greater (Num.inf true) (Num.most L)) a := rfl;rw [e, Num.aCU s.1 s.2.1];simp [Num.most, List.foldl_append]
theorem Iv.aKS {l : List Iv} (h : Iv.goods l = []) : Iv.hull l = Iv.none := by unfold Iv.hull Iv.los; rw [h]; rfl
theorem Iv.aJT {l : List Iv} (h : ∀ x ∈ l, x.lo.ok ∧ x.hi.ok) (g : Iv.goods l ≠ []) :
 Iv.hull l = ⟨false, Num.least (Iv.los l), Num.most (Iv.his l)⟩ ∧ (Iv.mk false (Num.least (Iv.los l)) (Num.most (Iv.his l))).Real := by
 have R := Iv.uM h;have lo : ∀ x ∈ Iv.los l, x.may = true ∧ x.ok := by
  intro x hx; obtain ⟨y, hy, rfl⟩ := List.mem_map.1 hx; exact ⟨(R y hy).lom, (R y hy).loo⟩
 have hi : ∀ x ∈ Iv.his l, x.may = true ∧ x.ok := by
  intro x hx; obtain ⟨y, hy, rfl⟩ := List.mem_map.1 hx; exact ⟨(R y hy).him, (R y hy).hio⟩
 obtain ⟨y, ys, e⟩ : ∃ y ys, Iv.goods l = y :: ys := by
  cases q : Iv.goods l with
  | nil => exact absurd q g
  | cons y ys => exact ⟨y, ys, rfl⟩
 have my : y ∈ Iv.goods l := by rw [e]; exact List.mem_cons_self ..
 have s := Num.least_spec (Iv.los l) (fun x hx => (lo x hx).2);have t := Num.most_spec (Iv.his l) (fun x hx => (hi x hx).2);have k1 := s.2.2.1 y.lo (List.mem_map.2 ⟨y, my, rfl⟩);have k2 := t.2.2.1 y.hi (List.mem_map.2 ⟨y, my, rfl⟩);have r := R y my;rw [Num.aZ r.lom] at k1;rw [Num.aZ r.him] at k2;have a1 := r.le;have a2 := r.lt;have a3 := r.gt;have RR : (Iv.mk false (Num.least (Iv.los l)) (Num.most (Iv.his l))).Real := ⟨rfl, s.1, t.1, s.2.1, t.2.1, by show (Num.least (Iv.los l)).val ≤ (Num.most (Iv.his l)).val; omega, by show (Num.least (Iv.los l)).val < _; omega, by show _ < (Num.most (Iv.his l)).val; omega⟩
 refine ⟨?_, RR⟩;unfold Iv.hull;rw [if_neg (by unfold Iv.los; rw [e]; simp), Iv.sG (by rw [Num.aZ s.1, Num.aZ t.1]; exact RR), Num.aZ s.1, Num.aZ t.1]
theorem Iv.aJK {l : List Iv} (h : ∀ x ∈ l, x.lo.ok ∧ x.hi.ok) {x : Iv} (hx : x.lo.ok ∧ x.hi.ok) : Iv.hull (l ++ [x]) = Iv.hull [Iv.hull l, x] := by
 by_cases g : Iv.goods l = []
 · have e1 : Iv.goods (l ++ [x]) = Iv.goods [Iv.none, x] := by
    rw [Iv.sC, g];show Iv.goods [x] = Iv.goods (Iv.none :: [x])
    conv => rhs; unfold Iv.goods
    rw [if_pos (by decide)]
   rw [Iv.aKS g];unfold Iv.hull Iv.los Iv.his; rw [e1]
 · obtain ⟨e, R⟩ := Iv.aJT h g;rcases Iv.hull_two (x := Iv.hull l) (y := x) (by rw [e]; exact ⟨R.loo, R.hio⟩) hx with ⟨b, -⟩ | ⟨b, -⟩ | ⟨-, b, e2⟩ | ⟨-, rx, e2⟩
   · rw [e, R.good] at b; cases b
   · rw [e, R.good] at b; cases b
   · rw [e2];have e3 : Iv.goods (l ++ [x]) = Iv.goods l := by
      rw [Iv.sC];have : Iv.goods [x] = [] := by unfold Iv.goods; rw [if_pos (by rw [Iv.lI]; exact b)]; rfl
      rw [this, List.append_nil]
     unfold Iv.hull Iv.los Iv.his; rw [e3]
   · rw [e2, e];have e3 : Iv.goods (l ++ [x]) = Iv.goods l ++ [x] := by
      rw [Iv.sC];have : Iv.goods [x] = [x] := by unfold Iv.goods; rw [rx.fair, rx.some, if_neg (by decide)]; rfl
      rw [this]
     have GR := Iv.uM h;have l1 := Num.aFG (Iv.los l) x.lo (by intro y hy; obtain ⟨z, hz, rfl⟩ := List.mem_map.1 hy; exact (GR z hz).loo);have l2 := Num.aJZ (Iv.his l) x.hi (by intro y hy; obtain ⟨z, hz, rfl⟩ := List.mem_map.1 hy; exact (GR z hz).hio);rw [← l1, ← l2];unfold Iv.hull Iv.los Iv.his; rw [e3, List.map_append, List.map_append, if_neg (by simp)];rfl
def Iv.width (x : Iv) : Num := Num.add x.fair.hi x.fair.lo.opp true
def halfA (n : Int) : Int := if n < 0 then n * piHiB else n * piLoB
def halfB (n : Int) : Int := if n < 0 then n * piLoB else n * piHiB
def eM (cs : Bool) (j : Int) : Int := if cs = true then 2 * j else 2 * j + 1
def hitN (cs : Bool) (A B j : Int) : Bool := decide (halfA (eM cs j) ≤ B ∧ A ≤ halfB (eM cs j))
def topN (j : Int) : Iv := Iv.point (Num.ofInt (if j % 2 = 0 then 1 else -1))
def marksN (cs : Bool) (A B lo : Int) : Nat → List Iv
 | 0 => []
 | k + 1 => marksN cs A B lo k ++ (if hitN cs A B (lo + k) = true then [topN (lo + k)] else [])
def fixA (x : Iv) : Int := 2 * (fixV x.lo).1
def fixB (x : Iv) : Int := 2 * (fixV x.hi).1 + 2
def firstN (x : Iv) : Int := fixA x / ((piLoB * 2).toNat : Int)
def gU (x : Iv) : Prop := (fixV x.lo).2 = true ∧ (fixV x.hi).2 = true ∧ (Iv.width x).cmp (Num.ofInt 7) < 0
instance (x : Iv) : Decidable (gU x) := by unfold gU; infer_instance
def allN (x : Iv) (cs : Bool) : Iv :=
 if x.bad = true then Iv.none
 else if gU x then Iv.hull ([ofN x.lo cs, ofN x.hi cs] ++ marksN cs (fixA x) (fixB x) (firstN x - 6) 13)
 else nU
theorem lD (cs : Bool) (A B lo : Int) (h : hitN cs A B lo = false) : ∀ k, marksN cs A B lo (k + 1) = marksN cs A B (lo + 1) k
 | 0 => by
  unfold marksN;rw [show lo + ((0 : Nat) : Int) = lo by omega, h]; rfl
 | k + 1 => by
  have ih := lD cs A B lo h k;unfold marksN;rw [ih, show lo + ((k + 1 : Nat) : Int) = lo + 1 + (k : Int) by omega]
theorem sW (cs : Bool) (A B lo : Int) (k : Nat) (h : hitN cs A B (lo + k) = false) : marksN cs A B lo (k + 1) = marksN cs A B lo k := by
 conv => lhs; unfold marksN
 rw [h]; simp
theorem xS (cs : Bool) (A B lo : Int) : ∀ k, ∀ x ∈ marksN cs A B lo k, x.lo.ok ∧ x.hi.ok
 | 0 => by intro x hx; cases hx
 | k + 1 => by
  intro x hx;unfold marksN at hx;rcases List.mem_append.1 hx with hx | hx
  · exact xS cs A B lo k x hx
  · split at hx
    · simp only [List.mem_singleton] at hx;subst hx;exact Iv.nK (Num.dA _) (Num.dA _)
    · cases hx
theorem uR (cs : Bool) (A B lo : Int) : ∀ k, (marksN cs A B lo k).length ≤ k
 | 0 => Ba 0
 | k + 1 => by
  have := uR cs A B lo k;unfold marksN;rw [List.length_append];split
  · simp only [List.length_singleton]; omega
  · simp only [List.length_nil]; omega
def piD : Int := piHiB - piLoB
theorem aND : 0 ≤ piD ∧ piD ≤ 100000 ∧ 3 * (2 ^ 192 : Int) ≤ piLoB := by unfold piD; decide +kernel
theorem aOD (cs : Bool) {A B f : Int} (P D S : Int) (hP : piLoB = P) (hD : piHiB = P + D) (d0 : 0 ≤ D) (d1 : D ≤ 100000) (hS : 2 ^ 192 = S) (p : 3 * S ≤ P) (s0 : 2 ^ 40 ≤ S)
 (a1 : 2 * (f * P) ≤ A) (a2 : A < 2 * (f * P) + 2 * P) (b : B ≤ A + 14 * S + 4) (f1 : -4294967296 ≤ f) (f2 : f ≤ 4294967296) :
 hitN cs A B (f - 6) = false ∧ hitN cs A B (f - 5) = false ∧ hitN cs A B (f + 7) = false ∧ hitN cs A B (f + 8) = false := by
 have fD1 : f * D ≤ 4294967296 * 100000 := by
  rcases Int.le_total 0 f with g | g
  · exact Dj f2 d1 d0 (by decide)
  · have : f * D ≤ 0 := Int.mul_nonpos_of_nonpos_of_nonneg g d0;omega
 have fD2 : -(4294967296 * 100000) ≤ f * D := by
  rcases Int.le_total 0 f with g | g
  · have : 0 ≤ f * D := Bj g d0;omega
  · have : -f * D ≤ 4294967296 * 100000 := Dj (by omega) d1 d0 (by decide);rw [Cd] at this; omega
 have key : ∀ j c : Int, (j = f + c) → (c ≤ -5 ∨ 7 ≤ c) → -8 ≤ c → c ≤ 8 → hitN cs A B j = false := by
  intro j c hj hc c1 c2;unfold hitN halfA halfB;rw [hP, hD];obtain ⟨n, hn⟩ : ∃ n, eM cs j = n := ⟨_, rfl⟩
  obtain ⟨w, hw, w0, w1⟩ : ∃ w, n = 2 * f + (2 * c + w) ∧ 0 ≤ w ∧ w ≤ 1 := by
   unfold eM at hn;split at hn
   · exact ⟨0, by omega, by decide, by decide⟩
   · exact ⟨1, by omega, by decide, by decide⟩
  rw [hn];have e1 : n * P = 2 * (f * P) + (2 * c + w) * P := by rw [hw]; grind
  have e2 : n * (P + D) = 2 * (f * P) + (2 * c + w) * P + (2 * (f * D) + (2 * c + w) * D) := by rw [hw]; grind
  have e3 : (2 * c + w) * D ≤ 17 * 100000 := by
   rcases Int.le_total 0 (2 * c + w) with g | g
   · exact Dj (by omega) d1 d0 (by decide)
   · have : (2 * c + w) * D ≤ 0 := Int.mul_nonpos_of_nonpos_of_nonneg g d0;omega
  have e4 : -(17 * 100000) ≤ (2 * c + w) * D := by
   rcases Int.le_total 0 (2 * c + w) with g | g
   · have : 0 ≤ (2 * c + w) * D := Bj g d0;omega
   · have : -(2 * c + w) * D ≤ 17 * 100000 := Dj (by omega) d1 d0 (by decide);rw [Cd] at this; omega
  rw [e1, e2];refine Az ?_;rintro ⟨h1, h2⟩;have s0' : 1099511627776 ≤ S := by
   have : (2 : Int) ^ 40 = 1099511627776 := by decide
   omega
  rcases hc with hc | hc
  · have q : (2 * c + w) * P ≤ -9 * P := Af (by omega) (by omega);split at h2 <;> omega
  · have q : 14 * P ≤ (2 * c + w) * P := Af (by omega) (by omega);split at h1 <;> omega
 exact ⟨key _ (-6) (by omega) (by omega) (by omega) (by omega), key _ (-5) (by omega) (by omega) (by omega) (by omega), key _ 7 (by omega) (by omega) (by omega) (by omega), key _ 8 (by omega) (by omega) (by omega) (by omega)⟩
theorem aRX : (Num.ofInt 7).val = 7 * pw 0 ∧ 7 * pw 0 < pw 1048640 := by
 have h := (gE (n := 7) (by unfold Int.sm; decide)).2.2.2.2;obtain ⟨f, _, _⟩ := rO (n := 7) (by decide) (by decide);have l := f.lt;have p := bG 0;refine ⟨h, ?_⟩;have : (Num.ofInt 7).val = (Num.ofInt 7).W ∨ (Num.ofInt 7).val = -(Num.ofInt 7).W := by
  unfold Num.val; split
  · exact .inr rfl
  · exact .inl rfl
 omega
theorem aKQ {x : Iv} (R : x.Real) (h : gU x) : fixB x ≤ fixA x + 14 * 2 ^ 192 + 4 := by
 obtain ⟨p, q, w⟩ := h;obtain ⟨-, l1, l2, -⟩ := iV p;obtain ⟨-, u1, u2, -⟩ := iV q;rw [Num.aS R.lom] at l1 l2;rw [Num.aS R.him] at u1 u2;have oo := Num.opp_ok R.loo;have mo : x.lo.opp.may = true := Num.opp_may _;have vo : x.lo.opp.val = -x.lo.val := by rw [Num.jT, Num.aZ R.lom]
 have g7 := aRX;have f7 := gE (n := 7) (by unfold Int.sm; decide);have wd : x.hi.val - x.lo.val < 7 * pw 0 := by
  rcases Bm (x.hi.val - x.lo.val) (7 * pw 0) with g | g
  · exact g
  · have k := Num.aSF (a := x.hi) (b := x.lo.opp) (t := 7 * pw 0) R.him mo R.hio oo R.gt (by have := R.lt; omega) g7.2 (.inr (by omega));have e : Iv.width x = Num.add x.hi x.lo.opp true := by unfold Iv.width; rw [R.fair]
    rw [e] at w;have s := Num.cmp_spec (Num.aMH R.hio oo true) f7.2.1;rw [Num.aS (Num.aGX R.hio oo true), f7.2.2.2.1, g7.1] at s;omega
 unfold fixA fixB;obtain ⟨a, ha⟩ : ∃ a, (fixV x.lo).1 = a := ⟨_, rfl⟩
 obtain ⟨b, hb⟩ : ∃ b, (fixV x.hi).1 = b := ⟨_, rfl⟩
 rw [ha] at l1 l2 ⊢;rw [hb] at u1 u2 ⊢;have p0 := bG 0;have s0 : (0 : Int) < 2 ^ 192 := Dq (by decide);generalize (2 : Int) ^ 192 = S at *
 generalize pw 0 = T at *
 have k1 : (x.hi.val - x.lo.val) * S < 7 * T * S := Bb wd s0;rw [Int.sub_mul] at k1;have k2 : (b - (a + 1)) * T < (7 * S) * T := by
  rw [Int.sub_mul];have : 7 * T * S = 7 * S * T := by grind
  omega
 have k3 := Cq k2 (Am p0);omega
theorem oY {x : Iv} (h : gU x) : 2 * (firstN x * piLoB) ≤ fixA x ∧ fixA x < 2 * (firstN x * piLoB) + 2 * piLoB ∧ -4294967296 ≤ firstN x ∧ firstN x ≤ 4294967296 := by
 obtain ⟨p, q, w⟩ := h;obtain ⟨-, -, -, l3⟩ := iV p;obtain ⟨a, ha⟩ : ∃ a, fixA x = a := ⟨_, rfl⟩
 have e : a = 2 * (fixV x.lo).1 := ha.symm;unfold firstN;rw [ha, eU.2.1];have D := aND;have P0 := eU.1;have m1 := Bq a (show piLoB * 2 ≠ 0 by omega);have m2 := Cf a (show 0 < piLoB * 2 by omega);have m3 := Bw a (piLoB * 2);obtain ⟨f, hf⟩ : ∃ f, a / (piLoB * 2) = f := ⟨_, rfl⟩
 rw [hf] at m3 ⊢;have pe : (2 : Nat) ^ 222 = 2 ^ 30 * 2 ^ 192 := by decide +kernel
 have pe2 : ((2 ^ 192 : Nat) : Int) = 2 ^ 192 := by decide +kernel
 rw [pe] at l3;have D3 := D.2.2;rw [← pe2] at D3;generalize (2 : Nat) ^ 192 = S at *
 generalize piLoB = P at *
 have k : P * 2 * f = 2 * (f * P) := by grind
 rw [k] at m3;refine ⟨by omega, by omega, ?_, ?_⟩
 · rcases Bm f (-4294967296) with g | g
   · have := Af (show f ≤ -4294967297 by omega) (show 0 ≤ P by omega);omega
   · exact g
 · rcases Bm 4294967296 f with g | g
   · have := Af (show 4294967297 ≤ f by omega) (show 0 ≤ P by omega);omega
   · exact g
theorem aGH (cs : Bool) {x : Iv} (R : x.Real) (h : gU x) : marksN cs (fixA x) (fixB x) (firstN x - 6) 13 = marksN cs (fixA x) (fixB x) (firstN x - 4) 13 := by
 have w := aKQ R h;obtain ⟨f1, f2, f3, f4⟩ := oY h;have D := aND;obtain ⟨n1, n2, n3, n4⟩ := aOD cs (A := fixA x) (B := fixB x) (f := firstN x) piLoB piD (2 ^ 192) rfl (by unfold piD; omega) D.1 D.2.1 rfl D.2.2 (by decide +kernel) f1 f2 w f3 f4;generalize fixA x = A at *
 generalize fixB x = B at *
 generalize firstN x = f at *
 rw [lD cs A B (f - 6) n1 12, show f - 6 + 1 = f - 5 by omega, lD cs A B (f - 5) n2 11, show f - 5 + 1 = f - 4 by omega,
   sW cs A B (f - 4) 12 (by rw [show f - 4 + ((12 : Nat) : Int) = f + 8 by omega]; exact n4), sW cs A B (f - 4) 11 (by rw [show f - 4 + ((11 : Nat) : Int) = f + 7 by omega]; exact n3)]
end
section
open Go Go.Proofs
attribute [local irreducible] Lb whN
def aTH (E : Env) (a : Bool × List Int) (m : List Int) : Int × Int → St
 | (i, u) => ⟨[(1, .ptr 0 2 (.l 0) 0), (5, .int .u64 (.s u)), (16, .sli .u32 m), (17, .int .i64 (.s (E.len m))), (18, .int .i64 (.s i))], [.rows true 2 [.bool (.l false), .s0] [[.bool (.s a.1), .sli .u32 a.2]]]⟩
theorem aSW (x : Int) (a : Bool × List Int) (ha : a = whN x) (x0 : -4611686018427387904 ≤ x) (x1 : x ≤ 4611686018427387904) :
 ∃ t : Int × Bool, t = (x, true) ∧ aC Tryz.prog 125 [.agg [.bool (.s a.1), .sli .u32 a.2]] (.tup [.int .i64 (.s t.1), .bool (.s t.2)]) := by
 refine ⟨_, rfl, ?_⟩;generalize hr : (x, true) = r;have g1 : a.1 = decide (x < 0) := by rw [ha, bA]
 have g2 : a.2 = lim x.natAbs := by rw [ha, bA]
 have lb : Lb a.2 := by rw [ha]; exact whN_lb _
 have vl : lv a.2 = x.natAbs := by rw [g2]; exact aJ _
 have ll : a.2.length ≤ 2 := by rw [ha]; exact fR (by rw [show (4294967296 : Nat) ^ 2 = 18446744073709551616 by decide +kernel]; omega)
 have tm : ∀ m : List Int, m = lim (lv a.2) → m = a.2 := by intro m h; rw [h, vl, g2]
 obtain ⟨ms, em⟩ : ∃ ms : Int × Int → Nat, ∀ p, ms p = (a.2.length - p.1).toNat := ⟨_, fun _ => rfl⟩
 obtain ⟨ok, eok⟩ : ∃ ok : Int × Int → Prop, ∀ p, ok p ↔ 0 ≤ p.1 ∧ p.1 ≤ a.2.length ∧ p.2 = lv (a.2.take p.1.toNat) := ⟨_, fun _ => Bs⟩
 clear ha;refine callsA_o Tryz.func125 fun E hE lp hl => ?_
 cbv
 (apply E_callX hE (aKZ a.2 lb (by omega)); (case hf => rfl); (case hc => (cbv <;> trivial)); (case hle => exact u_up); all_goals (first | (intro m hm2; cbv) | (assumption)))
 have hm2 := tm m hm2;subst hm2;refine E_br hE ?_ ?_ <;> intro h <;> cbv
 · exfalso;have h : 2 < (a.2.length : Int) := by subst hE; exact cU h
   omega
 clear h;refine E_loop hE hG hm hl (aTH E a a.2) ms ok ⟨(0, 0), (eok _).2 ⟨by show (0 : Int) ≤ 0; omega, by show (0 : Int) ≤ a.2.length; omega, rfl⟩, stLe rfl ?_⟩ ?_
 · (repeat' (first | exact bC | apply aV | exact aN | exact aM | exact aI | exact bI | exact aQ | exact (rfl : sle2 .s0 .s0)))
 rintro ⟨i, u⟩ hok;have h1 : 0 ≤ i := ((eok _).1 hok).1;have h2 : i ≤ a.2.length := ((eok _).1 hok).2.1;have h3 : u = lv (a.2.take i.toNat) := ((eok _).1 hok).2.2;clear hok;have mk : ∀ v : Int, i < a.2.length → v = lv (a.2.take (aA .add .i64 i 1).toNat) → ms (aA .add .i64 i 1, v) < ms (i, u) ∧ ok (aA .add .i64 i 1, v) := by
  intro v g hv;have e : aA .add .i64 i 1 = i + 1 := gH h1 g (by omega);rw [e] at hv ⊢;exact ⟨by rw [em, em]; show ((a.2.length : Int) - (i + 1)).toNat < ((a.2.length : Int) - i).toNat; omega, (eok _).2 ⟨by show (0 : Int) ≤ i + 1; omega, by show i + 1 ≤ (a.2.length : Int); omega, hv⟩⟩
 have nx : i < a.2.length → ∀ v : Int, v = a.2.getD i.toNat 0 → aA .or .u64 u (aA .shl .u64 (IntKind.u64.wrap v) (aA .mul .i64 32 i)) = lv (a.2.take (aA .add .i64 i 1).toNat) := by
  intro g v hv;have := aLV lb ll h1 g h3 hv;rw [this, show aA .add .i64 i 1 = i + 1 from gH h1 g (by omega)]
 have en : ¬ i < a.2.length → u = x.natAbs := by
  intro g;rw [h3, show i.toNat = a.2.length by omega, List.take_length, vl]
 clear eok;cbv;refine E_br hE ?_ ?_ <;> intro h <;> cbv
 · have g : i < a.2.length := by subst hE; exact bF h
   have nx := nx g;clear en;repeat' (first
     | (refine E_br hE ?_ ?_ <;> intro h <;> cbv)
     | (refine E_nm hE fun v hv => ?_; cbv)
     | (refine aT hE (fun b hb => ?_); cbv)
     | fail)
   all_goals (try (refine ⟨(E.bin .add .i64 i 1, v), ?_, ?_, stLe rfl ?_⟩))
   all_goals (try ((repeat' (first | exact bC | apply aV | exact aN | exact aM | exact aI | exact bI | exact aQ | exact (rfl : sle2 .s0 .s0))); done))
   all_goals (subst hE)
   case hK.refine_2.refine_2.refine_1.refine_1.refine_1.refine_2.refine_1 => rename_i w1 e1 w2 _ _ _ e2; exact (mk _ g (hv.trans (by rw [e1]; exact nx _ e2))).1
   case hK.refine_2.refine_2.refine_1.refine_1.refine_1.refine_2.refine_2 => rename_i w1 e1 w2 _ _ _ e2; exact (mk _ g (hv.trans (by rw [e1]; exact nx _ e2))).2
   all_goals (exfalso; clear mk nx em lb hr g1 g2 tm vl; simp only [NatCast.natCast, Ac, aB, aE, aH, aG, aF, aK, aL, aA, Ab, Aa, SI.val, SB.val, Num.eta, Iv.eta] at *; (try simp only [wi64] at *); omega)
 · have en := en (by subst hE; exact aW h);clear nx mk em lb g2 tm vl h3 hm2;have g3 : a.1 = true ↔ x < 0 := by rw [g1]; exact decide_eq_true_iff
   have g4 : a.1 = false ↔ ¬ x < 0 := by rw [g1]; exact Aa
   clear g1;repeat' (first
     | (refine E_br hE ?_ ?_ <;> intro h <;> cbv)
     | (refine E_nm hE fun v hv => ?_; cbv)
     | (refine aT hE (fun b hb => ?_); cbv)
     | fail)
   all_goals (subst hE; subst hr)
   all_goals simp only [NatCast.natCast, Ac, aB, aE, aH, aG, aF, aK, aL, aA, Ab, Aa, SI.val, SB.val, Num.eta, Iv.eta] at *
   all_goals (first | (have q := g3.1 ‹a.1 = true›; have q2 : a.1 = true := ‹a.1 = true›; have e3 : u = -x := by omega) | (have q := g4.1 ‹a.1 = false›; have q2 : a.1 = false := ‹a.1 = false›; have e3 : u = x := by omega))
   all_goals (clear g3 g4 hl en; simp only [q2, wi64] at *)
   all_goals (try simp at *)
   all_goals omega
end
section
open Go Go.Proofs
def Iv.near (x : Iv) : Prop := x.lo.near ∧ x.hi.near
theorem Num.yH : Num.zero.near := fun k => absurd k (by decide)
theorem Num.aNS {n : Num} (h : n.near) : n.opp.near := fun k => Num.kE h k
theorem Iv.kE {x : Iv} (h : x.near) : x.fair.near := by
 unfold Iv.fair;split
 · exact h
 · exact ⟨Num.yH, Num.yH⟩
theorem Num.add_zero2 : Num.add Num.zero Num.zero.opp true = Num.zero := by decide +kernel
theorem aOM (a b : Num) (up : Bool) (oa : a.ok) (ob : b.ok) : ∃ t : Num, t = Num.add a b.opp up ∧ aC Tryz.prog 86 [a.av, b.av, .bool (.s up)] t.av := by
 refine ⟨_, rfl, ?_⟩;generalize hr : Num.add a b.opp up = r;have oo : ∀ n : Num, n = b.opp → n.ok := fun n h => by rw [h]; exact Num.opp_ok ob
 refine callsA_o Tryz.func86 fun E hE lp hl => ?_
 cbv
 (refine E_px hE (aQR ⟨_, _, _, _⟩) ?_; intro n hn; cbv)
 have hn : n = b.opp := hn;have on := oo n hn
 (refine E_px hE (aPX ⟨_, _, _, _⟩ ⟨_, _, _, _⟩ up oa on) ?_; intro z hz; cbv)
 have hz : z = Num.add a b.opp up := by rw [← hn]; exact hz
 rw [show z = r from hz.trans hr]; exact ⟨rfl, rfl, rfl, rfl, trivial⟩
theorem aGO (x : Iv) (o1 : x.lo.ok) (o2 : x.hi.ok) : ∃ t : Num, t = Iv.width x ∧ aC Tryz.prog 31 [x.av] t.av := by
 refine ⟨_, rfl, ?_⟩;generalize hr : Iv.width x = r;have oo := Iv.pU o1 o2;refine callsA_o Tryz.func31 fun E hE lp hl => ?_
 cbv
 (refine E_cx hE (mO ⟨_, ⟨_, _, _, _⟩, ⟨_, _, _, _⟩⟩) ?_; intro f hf; cbv)
 have hf : f = x.fair := hf;have p1 : f.lo.ok := by rw [hf]; exact oo.1
 have p2 : f.hi.ok := by rw [hf]; exact oo.2
 (refine E_cx hE (aOM ⟨_, _, _, _⟩ ⟨_, _, _, _⟩ true p2 p1) ?_; intro z hz; cbv)
 have hz : z = Iv.width x := by unfold Iv.width; rw [← hf]; exact hz
 rw [show z = r from hz.trans hr]; exact ⟨rfl, rfl, rfl, rfl, trivial⟩
theorem aOU (a b : Num) (up : Bool) (oa : a.ok) (ob : b.ok) (na : a.near) (nb : b.near) : ∃ t : Num, t = Num.add a b.opp up ∧ aC Tryz.prog 186 [a.av, b.av, .bool (.s up)] t.av := by
 refine ⟨_, rfl, ?_⟩;generalize hr : Num.add a b.opp up = r;have oo : ∀ n : Num, n = b.opp → n.ok ∧ n.near := fun n h => by rw [h]; exact ⟨Num.opp_ok ob, Num.aNS nb⟩
 refine callsA_o Tryz.func186 fun E hE lp hl => ?_
 cbv
 (refine E_px hE (aRU ⟨_, _, _, _⟩) ?_; intro n hn; cbv)
 have hn : n = b.opp := hn;have on := oo n hn
 (refine E_px hE (aNZ ⟨_, _, _, _⟩ ⟨_, _, _, _⟩ up oa on.1 na on.2) ?_; intro z hz; cbv)
 have hz : z = Num.add a b.opp up := by rw [← hn]; exact hz
 rw [show z = r from hz.trans hr]; exact ⟨rfl, rfl, rfl, rfl, trivial⟩
theorem aJD (x : Iv) (o1 : x.lo.ok) (o2 : x.hi.ok) (nx : x.near) : ∃ t : Num, t = Iv.width x ∧ aC Tryz.prog 130 [x.av] t.av := by
 refine ⟨_, rfl, ?_⟩;generalize hr : Iv.width x = r;have oo := Iv.pU o1 o2;have nn := Iv.kE nx;have emp : x.fair.empty = true → Num.zero = r := by
  intro h;rw [← hr];have e : x.fair = Iv.none := by
   unfold Iv.fair at h ⊢;split
   · rename_i m;rw [if_pos m] at h;exact Iv.empty_may m h
   · rfl
  unfold Iv.width; rw [e]; exact Num.add_zero2.symm
 refine callsA_o Tryz.func130 fun E hE lp hl => ?_
 cbv
 (refine E_cx hE (c_r8Fair ⟨_, ⟨_, _, _, _⟩, ⟨_, _, _, _⟩⟩ o1 o2) ?_; intro f hf; cbv)
 have hf : f = x.fair := hf;have p1 : f.lo.ok := by rw [hf]; exact oo.1
 have p2 : f.hi.ok := by rw [hf]; exact oo.2
 have q1 : f.lo.near := by rw [hf]; exact nn.1
 have q2 : f.hi.near := by rw [hf]; exact nn.2
 refine E_br hE ?_ ?_ <;> intro g <;> cbv
 · rw [← emp (by rw [← hf]; exact g)]; exact ⟨rfl, rfl, rfl, rfl, trivial⟩
 (refine E_cx hE (aOU ⟨_, _, _, _⟩ ⟨_, _, _, _⟩ true p2 p1 q2 q1) ?_; intro z hz; cbv)
 have hz : z = Iv.width x := by unfold Iv.width; rw [← hf]; exact hz
 rw [show z = r from hz.trans hr]; exact ⟨rfl, rfl, rfl, rfl, trivial⟩
end
section
open Go
attribute [local irreducible] Lb whN
theorem aHT (j : Int) : aA .and .i64 j 1 = j % 2 := by
 show IntKind.i64.wrap ((BitVec.ofInt 64 j &&& BitVec.ofInt 64 1).toNat : Int) = _;rw [Ec, show (BitVec.ofInt 64 1).toNat = 1 from rfl, Nat.and_one_is_mod, Eg, wi64]; omega
def marksTo (cs : Bool) (A B z j : Int) : List Iv := marksN cs A B z (j - z).toNat
theorem kS (cs : Bool) (A B z j : Int) (h : z ≤ j) : marksTo cs A B z (j + 1) = marksTo cs A B z j ++ (if hitN cs A B j = true then [topN j] else []) := by
 unfold marksTo;obtain ⟨k, hk⟩ : ∃ k : Nat, j = z + k := ⟨(j - z).toNat, by omega⟩
 rw [show (j + 1 - z).toNat = k + 1 by omega, show (j - z).toNat = k by omega, hk];rfl
theorem sO (cs : Bool) (A B z : Int) : marksTo cs A B z z = [] := by unfold marksTo; rw [show (z - z).toNat = 0 by omega]; rfl
theorem aGA (cs : Bool) (A B z j : Int) : ∀ x ∈ marksTo cs A B z j, x.lo.ok ∧ x.hi.ok := xS _ _ _ _ _
theorem aIR {n : Int} (h : wl n ≤ 5) : wl (halfA n) ≤ 90000 ∧ wl (halfB n) ≤ 90000 := by
 obtain ⟨p1, p2, p3⟩ := pC;have m1 := fU n piLoB;have m2 := fU n piHiB;unfold halfA halfB;constructor <;> split <;> omega
theorem aQJ {cs : Bool} {F j : Int} (h1 : F - 6 ≤ j) (h2 : j ≤ F + 6) (f1 : -4294967296 ≤ F) (f2 : F ≤ 4294967296) :
 (-9223372036854775808 ≤ eM cs j ∧ eM cs j < 9223372036854775808) ∧ wl (eM cs j) ≤ 5 ∧ aA .add .i64 j 1 = j + 1 ∧ aA .mul .i64 2 j = 2 * j ∧ aA .add .i64 (2 * j) 1 = 2 * j + 1 := by
 have b : -17179869184 ≤ eM cs j ∧ eM cs j ≤ 17179869184 := by unfold eM; split <;> omega
 refine ⟨by omega, Ae (dW (k := 2) (by rw [show (4294967296 : Nat) ^ 2 = 18446744073709551616 by decide +kernel]; omega)) (by decide), ?_, ?_, ?_⟩
 · show IntKind.i64.wrap (j + 1) = _; rw [wi64]; omega
 · show IntKind.i64.wrap (2 * j) = _; rw [wi64]; omega
 · show IntKind.i64.wrap (2 * j + 1) = _; rw [wi64]; omega
theorem zI {x : Iv} (N : gU x) : wl 2 ≤ 90000 ∧ wl (fixV x.lo).1 ≤ 90000 ∧ wl (fixV x.hi).1 ≤ 90000 ∧ wl ((fixV x.hi).1 * 2) ≤ 90000 ∧ wl piLoB ≤ 90000 ∧ wl ((fixV x.lo).1 * 2) ≤ 90000 ∧
 wl (((piLoB * 2).toNat : Nat) : Int) ≤ 90000 ∧ -4611686018427387904 ≤ firstN x ∧ firstN x ≤ 4611686018427387904 ∧ wl ((fixV x.hi).1 * 2 + 2) ≤ 90000 ∧ (fixV x.lo).1 * 2 / (((piLoB * 2).toNat : Nat) : Int) = firstN x := by
 have F := oY N;have g : ∀ n, (fixV n).2 = true → wl (fixV n).1 ≤ 7 := by
  intro n h;have f := (iV h).2.2.2;exact dW (by rw [show (4294967296 : Nat) ^ 7 = 2 ^ 224 by decide +kernel]; omega)
 have g1 := g _ N.1;have g2 := g _ N.2.1;have d : wl 2 ≤ 1 := dW (k := 1) (by decide);have m1 := fU (fixV x.lo).1 2;have m2 := fU (fixV x.hi).1 2;have m3 := gB ((fixV x.hi).1 * 2) 2;obtain ⟨p1, p2, p3⟩ := pC;refine ⟨by omega, by omega, by omega, by omega, by omega, by omega, by rw [eU.2.1]; omega, by omega, by omega, by omega, ?_⟩;unfold firstN fixA;rw [At]
theorem sI {n : Num} (o : n.ok) (m : n.may = true) (h : (fixV n).2 = true) : n.near := by
 intro k;have F : n.Fin := by
  rcases Num.may3 m o with q | q | q
  · rw [q] at k; exact absurd k (by decide)
  · exact q
  · rw [q] at k; exact absurd k (by show ¬ (2 : Int) = 1; decide)
 refine ⟨by have := F.elo; omega, ?_⟩;rcases Bm 50000 n.e with g | g
 · exfalso;unfold fixV at h;rw [Num.aS m] at h;split at h
   · cases h
   · rename_i q;have p := aEP (e := 0) (f := n.e) (by decide) (by omega);have p0 := bG 0;have w := F.W;have lo := F.lo;have hw : 9223372036854775808 * pw n.e ≤ n.W := by rw [w]; exact Af lo (by omega)
     have e30 : (2 : Int) ^ 30 = 1073741824 := by decide
     rw [e30] at q;have v : n.val = n.W ∨ n.val = -n.W := by
      unfold Num.val; split
      · exact .inr rfl
      · exact .inl rfl
     omega
 · exact g
theorem uG (z : Int) : -(piOne : Int) ≤ bnd1 z ∧ bnd1 z ≤ piOne ∧ (bnd1 z).natAbs < 2 ^ 224 := by
 have e : piOne < 2 ^ 224 := by decide +kernel
 unfold bnd1;split
 · refine ⟨by omega, by omega, by omega⟩
 · split
   · refine ⟨by omega, by omega, by omega⟩
   · refine ⟨by omega, by omega, by omega⟩
theorem aCI {p : Int × Int} (h1 : p.1.natAbs < 2 ^ 224) (h2 : p.2.natAbs < 2 ^ 224) : (qI p).lo.ok ∧ (qI p).hi.ok := Iv.nK (aLO h1).2.1 (aNI h2).2.1
theorem aMP (n : Num) (cs : Bool) : (ofN n cs).lo.ok ∧ (ofN n cs).hi.ok := by
 unfold ofN;split
 · split
   · exact aCI (uG _).2.2 (uG _).2.2
   · exact aCI (uG _).2.2 (uG _).2.2
 · exact Iv.nK (Num.dA _) (Num.dA _)
theorem vZ (ρ : List Nat) (L : List Iv) : mapB (mapB (rn1 ρ)) (L.map Iv.cells) = L.map Iv.cells := by
 rw [jQ, List.map_map];refine List.map_congr_left (fun x _ => ?_);rfl
theorem uY (k : Nat) (L : List Iv) : allB (allB (in1 k)) (L.map Iv.cells) = true := by
 rw [allB_eq, List.all_eq_true];intro r hr;obtain ⟨x, _, rfl⟩ := List.mem_map.1 hr;rfl
theorem aDX (M : List Iv) (x : Iv) : ((M.map Iv.cells).drop (0 : Int).toNat).take ((M.length : Int)).toNat ++ [x.cells] = (M ++ [x]).map Iv.cells := by
 simp;rw [List.take_of_length_le (by simp)]
theorem aFE (L : List Iv) : allB (allB AV.mf1) (L.map Iv.cells) = true := by
 rw [allB_eq, List.all_eq_true];intro r hr;obtain ⟨x, _, rfl⟩ := List.mem_map.1 hr;rfl
theorem aAU (M : List Iv) (d : List AV) {i : Nat} (h : i < M.length) : (M.map Iv.cells).getD ((0 : Int).toNat + i) d = (M.getD i Iv.none).cells := by
 rw [show (0 : Int).toNat + i = i by simp];simp [List.getD, List.getElem?_eq_getElem h]
end
section
open Go Go.Proofs
attribute [local irreducible] Lb whN
theorem ne_t {a b : Int} (h : (aB Tryz.prog).cmp .neq a b = true) : ¬ a = b := by simpa only [aB, aH, Ab] using h
theorem ne_f {a b : Int} (h : (aB Tryz.prog).cmp .neq a b = false) : a = b := by
 have k : ¬ a ≠ b := by simpa only [aB, aH, Aa] using h
 exact Decidable.not_not.1 k
theorem aSV {z : Iv} {a b : Iv} : sle2 (.slx 9 [Iv.cells a, Iv.cells b]) (.slc 9 (.s 2) (fun i => Iv.cells ([a, b].getD i z))) := by
 refine ⟨rfl, rfl, fun i hi => ?_⟩
 match i, hi with
 | 0, _ => rfl
 | 1, _ => rfl
 | i + 2, hi => exact absurd hi (by simp)
theorem slI_le {P : Program} {E : Env} (hE : E = aB P) {l : List Iv} {n : Int} (hn : n = l.length) {d : List AV} : sle2 (.slc 9 (.s n) (E.rfun (l.map Iv.cells) 0 d)) (.slc 9 (.s n) (fun i => Iv.cells (l.getD i Iv.none))) := by
 subst hE;refine ⟨rfl, rfl, fun i hi => ?_⟩;have hi : i < n.toNat := hi;have e : (aB P).rfun (l.map Iv.cells) 0 d i = (l.getD i Iv.none).cells := aAU l d (by omega);rw [e]; exact xJ
def allZ : List AV := [.bool (.l false), .int .i64 (.l 0), .bool (.l false), .int .u64 (.l 0), .int .i64 (.l 0), .int .i64 (.l 0), .bool (.l false), .int .u64 (.l 0), .int .i64 (.l 0)]
def wZ : List AV := [.bool (.l false), .s0]
def allS (x : Iv) (lo hi a b two u v : Bool × List Int) (cs : Bool) (F : Int) (t1 t2 : Iv) : Int × Option (List (List AV) × Int) → St
 | (j, none) => ⟨[(2, .ptr 0 5 (.l 0) 0), (4, .ptr 2 9 (.l 0) 0), (10, .ptr 6 4 (.l 0) 0), (11, .int .i64 (.s F)), (14, .slx 9 [Iv.cells t1, Iv.cells t2]), (15, .int .i64 (.s j))],
   [
    .rows true 5 [.bool (.l false), .s0, .bool (.l false), .s0, .bool (.l false)] [[.bool (.s lo.1), .sli .u32 lo.2, .bool (.s hi.1), .sli .u32 hi.2, .bool (.s cs)]], .rows true 9 allZ [Iv.cells x], .rows true 9 allZ [allZ],
    .rows true 2 wZ [[.bool (.s a.1), .sli .u32 a.2]], .rows true 2 wZ [[.bool (.s b.1), .sli .u32 b.2]], .rows true 2 wZ [[.bool (.s two.1), .sli .u32 two.2]],
    .rows true 4 [.bool (.l false), .s0, .bool (.l false), .s0] [[.bool (.s u.1), .sli .u32 u.2, .bool (.s v.1), .sli .u32 v.2]]]⟩
 | (j, some (L, n)) => ⟨[(2, .ptr 0 5 (.l 0) 0), (4, .ptr 2 9 (.l 0) 0), (10, .ptr 6 4 (.l 0) 0), (11, .int .i64 (.s F)), (14, .ms 7 9 (.l 0) (.s n)), (15, .int .i64 (.s j))],
   [
    .rows true 5 [.bool (.l false), .s0, .bool (.l false), .s0, .bool (.l false)] [[.bool (.s lo.1), .sli .u32 lo.2, .bool (.s hi.1), .sli .u32 hi.2, .bool (.s cs)]], .rows true 9 allZ [Iv.cells x], .rows true 9 allZ [allZ],
    .rows true 2 wZ [[.bool (.s a.1), .sli .u32 a.2]], .rows true 2 wZ [[.bool (.s b.1), .sli .u32 b.2]], .rows true 2 wZ [[.bool (.s two.1), .sli .u32 two.2]],
    .rows true 4 [.bool (.l false), .s0, .bool (.l false), .s0] [[.bool (.s u.1), .sli .u32 u.2, .bool (.s v.1), .sli .u32 v.2]], .rows true 9 allZ L]⟩
def aTC (x : Iv) (cs : Bool) (F : Int) (t1 t2 : Iv) : Int × Option (List (List AV) × Int) → Prop
 | (j, none) => F - 6 ≤ j ∧ j ≤ F + 7 ∧ marksTo cs (fixA x) (fixB x) (F - 6) j = []
 | (j, some (L, n)) => F - 6 ≤ j ∧ j ≤ F + 7 ∧ L = ([t1, t2] ++ marksTo cs (fixA x) (fixB x) (F - 6) j).map Iv.cells ∧ n = L.length
set_option maxHeartbeats 4000000 in
theorem aQV (x : Iv) (o1 : x.lo.ok) (o2 : x.hi.ok) (lo hi : Bool × List Int) (cs : Bool) (hlo : lo = whN piLoB) (hhi : hi = whN piHiB) :
 ∃ t : Iv, t = allN x cs ∧ aC Tryz.prog 60 [.agg [.bool (.s lo.1), .sli .u32 lo.2, .bool (.s hi.1), .sli .u32 hi.2, .bool (.s cs)], x.av] t.av := by
 refine ⟨_, rfl, ?_⟩;generalize hr : allN x cs = r;have B : x.bad = true → Iv.none = r := by intro h; rw [← hr]; unfold allN; rw [if_pos h]
 have U : x.bad = false → ¬ gU x → nU = r := by intro h g; rw [← hr]; unfold allN; rw [if_neg (by rw [h]; decide), if_neg g]
 have Y : x.bad = false → gU x → Iv.hull ([ofN x.lo cs, ofN x.hi cs] ++ marksN cs (fixA x) (fixB x) (firstN x - 6) 13) = r := by intro h g; rw [← hr]; unfold allN; rw [if_neg (by rw [h]; decide), if_pos g]
 have R : x.bad = false → x.Real := by
  intro h;rcases Iv.bad_or_real ⟨o1, o2⟩ with b | b
  · rw [h] at b; cases b
  · exact b
 clear hr;refine callsA_o Tryz.func60 fun E hE lp hl => ?_
 cbv;refine E_br hE ?_ ?_ <;> intro h <;> cbv
 · skip
   (apply E_callX hE (lU); (case hf => rfl); (case hc => (cbv <;> trivial)); (case hle => exact u_up); all_goals (first | (intro t ht; cbv) | (assumption)))
   rw [show t = r from Eq.trans ht (B (by unfold Iv.bad; rw [h]; rfl))]; exact ⟨rfl, rfl, rfl, rfl, rfl, rfl, rfl, rfl, rfl, trivial⟩
 (apply E_callX hE (aIP ⟨_, ⟨_, _, _, _⟩, ⟨_, _, _, _⟩⟩); (case hf => rfl); (case hc => (cbv <;> trivial)); (case hle => exact u_up); all_goals (first | (intro m hmay; cbv) | (assumption)))
 have hmay : m = x.may := hmay;refine E_br hE ?_ ?_ <;> intro h2 <;> cbv
 · have h2 : m = false := by subst hE; cases q : m; rfl; rw [q] at h2; exact absurd h2 (by decide)
   (apply E_callX hE (lU); (case hf => rfl); (case hc => (cbv <;> trivial)); (case hle => exact u_up); all_goals (first | (intro t ht; cbv) | (assumption)))
   rw [show t = r from Eq.trans ht (B (by unfold Iv.bad; rw [← hmay, h2]; simp))]; exact ⟨rfl, rfl, rfl, rfl, rfl, rfl, rfl, rfl, rfl, trivial⟩
 have h2 : m = true := by subst hE; cases q : m; rw [q] at h2; exact absurd h2 (by decide); rfl
 have G : x.bad = false := by unfold Iv.bad; rw [← hmay, h2, h]; rfl
 replace U := U G;replace Y := Y G;replace R := R G;clear B
 (apply E_callX hE (aLX ⟨_, _, _, _⟩ o1); (case hf => rfl); (case hc => (cbv <;> trivial)); (case hle => exact u_up); all_goals (first | (intro a ha; cbv) | (assumption)))
 (apply E_callX hE (aLX ⟨_, _, _, _⟩ o2); (case hf => rfl); (case hc => (cbv <;> trivial)); (case hle => exact u_up); all_goals (first | (intro b hb; cbv) | (assumption)))
 have a1 : a.1 = whN (fixV x.lo).1 := by have k : a = (whN (fixV x.lo).1, (fixV x.lo).2) := ha; rw [k]
 have a2 : a.2 = (fixV x.lo).2 := by have k : a = (whN (fixV x.lo).1, (fixV x.lo).2) := ha; rw [k]
 have b1 : b.1 = whN (fixV x.hi).1 := by have k : b = (whN (fixV x.hi).1, (fixV x.hi).2) := hb; rw [k]
 have b2 : b.2 = (fixV x.hi).2 := by have k : b = (whN (fixV x.hi).1, (fixV x.hi).2) := hb; rw [k]
 clear ha hb;refine E_br hE ?_ ?_ <;> intro g <;> cbv
 · have g : a.2 = false := by subst hE; cases q : a.2; rfl; rw [q] at g; exact absurd g (by decide)
   have nn : ¬ gU x := fun n => by have k := n.1; rw [← a2, g] at k; cases k
   (apply E_callX hE (qS); (case hf => rfl); (case hc => (cbv <;> trivial)); (case hle => exact u_up); all_goals (first | (intro t ht; cbv) | (assumption)))
   rw [show t = r from Eq.trans ht (U nn)]; exact ⟨rfl, rfl, rfl, rfl, rfl, rfl, rfl, rfl, rfl, trivial⟩
 have ga : (fixV x.lo).2 = true := by rw [← a2]; subst hE; cases q : a.2; rw [q] at g; exact absurd g (by decide); rfl
 refine E_br hE ?_ ?_ <;> intro g <;> cbv
 · have g : b.2 = false := by subst hE; cases q : b.2; rfl; rw [q] at g; exact absurd g (by decide)
   have nn : ¬ gU x := fun n => by have k := n.2.1; rw [← b2, g] at k; cases k
   (apply E_callX hE (qS); (case hf => rfl); (case hc => (cbv <;> trivial)); (case hle => exact u_up); all_goals (first | (intro t ht; cbv) | (assumption)))
   rw [show t = r from Eq.trans ht (U nn)]; exact ⟨rfl, rfl, rfl, rfl, rfl, rfl, rfl, rfl, rfl, trivial⟩
 have gb : (fixV x.hi).2 = true := by rw [← b2]; subst hE; cases q : b.2; rw [q] at g; exact absurd g (by decide); rfl
 (apply E_callX hE (aGO ⟨_, ⟨_, _, _, _⟩, ⟨_, _, _, _⟩⟩ o1 o2); (case hf => rfl); (case hc => (cbv <;> trivial)); (case hle => exact u_up); all_goals (first | (intro w hw; cbv) | (assumption)))
 (apply E_callX hE (c_Of 7 (by decide) (by decide)); (case hf => rfl); (case hc => (cbv <;> trivial)); (case hle => exact u_up); all_goals (first | (intro v7 hv7; cbv) | (assumption)))
 (apply E_callX hE (c_Cmp ⟨_, _, _, _⟩ ⟨_, _, _, _⟩); (case hf => rfl); (case hc => (cbv <;> trivial)); (case hle => exact u_up); all_goals (first | (intro c hc; cbv) | (assumption)))
 have hc : c = (Iv.width x).cmp (Num.ofInt 7) := by rw [← show w = Iv.width x from hw, ← hv7]; exact hc
 refine E_br hE ?_ ?_ <;> intro g <;> cbv
 · have g : ¬ (Iv.width x).cmp (Num.ofInt 7) < 0 := by
    rw [← hc]; have k : 0 ≤ c := by subst hE; exact lQ g
    omega
   have nn : ¬ gU x := fun n => g n.2.2
   (apply E_callX hE (qS); (case hf => rfl); (case hc => (cbv <;> trivial)); (case hle => exact u_up); all_goals (first | (intro t ht; cbv) | (assumption)))
   rw [show t = r from Eq.trans ht (U nn)]; exact ⟨rfl, rfl, rfl, rfl, rfl, rfl, rfl, rfl, rfl, trivial⟩
 have N : gU x := ⟨ga, gb, by
   rw [← hc]; have k : ¬ 0 ≤ c := by subst hE; exact kH g
   omega⟩
 replace Y := Y N;obtain ⟨f0, f1, f2, f3, f4, f5, f6, f7, f8, f9, fq⟩ := zI N;have i2 : whN 2 = (decide ((2 : Int) < 0), lim (2 : Int).natAbs) := bA 2;clear U hc hw hv7 g ga gb a2 b2
 (apply E_callX hE (c_wFrom 2 (by decide) (by decide)); (case hf => rfl); (case hc => (cbv <;> trivial)); (case hle => exact u_up); all_goals (first | (intro two h2w; cbv) | (assumption)))
 have h2w : two = whN 2 := h2w.trans i2.symm;apply E_pcallX hE (z_wMul (fixV x.lo).1 2 a.1 two a1 h2w f1 f0)
 case hm => rfl
 case hle => exact ⟨bK, trivial⟩
 intro aa haa;cbv;apply E_pcallX hE (z_wMul (fixV x.hi).1 2 b.1 two b1 h2w f2 f0)
 case hm => rfl
 case hle => exact ⟨bK, trivial⟩
 intro bb hbb;cbv
 (apply E_pcallX hE (z_wAdd ((fixV x.hi).1 * 2) 2 bb two hbb h2w f3 f0); (case hm => rfl); (case hle => exact u_up); all_goals (first | (intro bc hbc; cbv) | (assumption)))
 apply E_pcallX hE (z_wMul piLoB 2 lo two hlo h2w f4 f0)
 case hm => rfl
 case hle => exact ⟨bK, trivial⟩
 intro pp hpp;cbv;have hpp : pp = whN (((piLoB * 2).toNat : Nat) : Int) := hpp.trans (by rw [eU.2.1])
 (apply E_pcallX hE (c_trDown ((fixV x.lo).1 * 2) _ eU.2.2 aa pp haa hpp f5 f6); (case hm => rfl); (case hle => exact u_up); all_goals (first | (intro q hq; cbv) | (assumption)))
 have hq : q = whN (firstN x) := hq.trans (congrArg whN fq)
 (apply E_pcallX hE (aSW (firstN x) q hq f7 f8); (case hm => rfl); (case hle => exact u_up); all_goals (first | (intro F hF; cbv) | (assumption)))
 refine E_nm hE fun f hf => ?_
 have hf : f = firstN x := by have k : F = (firstN x, true) := hF; rw [k] at hf; exact hf
 cbv
 (apply E_pcallX hE (c_of ⟨_, _, _, _⟩ o1 lo hi cs hlo hhi); (case hm => rfl); (case hle => exact u_up); all_goals (first | (intro t1 ht1; cbv) | (assumption)))
 (apply E_pcallX hE (c_of ⟨_, _, _, _⟩ o2 lo hi cs hlo hhi); (case hm => rfl); (case hle => exact u_up); all_goals (first | (intro t2 ht2; cbv) | (assumption)))
 have I : (E.bin .sub .i64 f 6 = f - 6) := by subst hE; show IntKind.i64.wrap (f - 6) = _; rw [wi64]; omega
 refine E_nm hE fun j0 hj0 => ?_
 have hj0 := hj0.trans I;obtain ⟨ms, em⟩ : ∃ ms : Int × Option (List (List AV) × Int) → Nat, ∀ p, ms p = (f + 7 - p.1).toNat := ⟨_, fun _ => rfl⟩
 obtain ⟨ok, eok⟩ : ∃ ok : Int × Option (List (List AV) × Int) → Prop, ∀ p, ok p ↔ aTC x cs f t1 t2 p := ⟨_, fun _ => Bs⟩
 have ok0 : ok (j0, none) := (eok _).2 ⟨by omega, by omega, by rw [hj0]; exact sO _ _ _ _⟩;clear I hj0;cbv;refine E_loopM hE hG hm hl (allS x lo hi a.1 b.1 two aa bc cs f t1 t2) ms ok ⟨(j0, none), [0, 1, 2, 3, 4, 5, 6], ok0, bV ⟨rfl, rfl, rfl, rfl, rfl, rfl, rfl, trivial⟩ rfl rfl rfl ⟨rfl, rfl, rfl, rfl, rfl, rfl, rfl, trivial⟩ ?_⟩ ?_
 · (repeat' (first | exact bW | refine bN (dH rfl rfl) rfl ?_ | refine bE ?_ rfl ?_ | exact aM | exact aQ | exact aI | exact (rfl : sle2 (.slx _ _) (.slx _ _))))
 have fb : -4294967296 ≤ f ∧ f ≤ 4294967296 := by have k := oY N; rw [hf]; exact k.2.2
 have FB : aA .add .i64 f 6 = f + 6 := by show IntKind.i64.wrap (f + 6) = _; rw [wi64]; omega
 rintro ⟨j, _ | ⟨L, c⟩⟩ hok
 case' none =>
  have h0 := (eok _).1 hok;have h1 : f - 6 ≤ j := h0.1;have h2 : j ≤ f + 7 := h0.2.1;have h3 : marksTo cs (fixA x) (fixB x) (f - 6) j = [] := h0.2.2;clear hok h0;have NX := kS cs (fixA x) (fixB x) (f - 6) j h1;have NO : hitN cs (fixA x) (fixB x) j = false → ∀ j1, j ≤ f + 6 → j1 = j + 1 → ms (j1, none) < ms (j, none) ∧ ok (j1, none) := by
   intro g j1 hle e;subst e;rw [g, h3] at NX;exact ⟨by rw [em, em]; show (f + 7 - (j + 1)).toNat < (f + 7 - j).toNat; omega, (eok _).2 ⟨by omega, by omega, NX⟩⟩
  have YES : hitN cs (fixA x) (fixB x) j = true → ∀ j1, j ≤ f + 6 → j1 = j + 1 → ∀ p, p = topN j → ms (j1, some ([Iv.cells t1, Iv.cells t2, Iv.cells p], 3)) < ms (j, none) ∧ ok (j1, some ([Iv.cells t1, Iv.cells t2, Iv.cells p], 3)) := by
   intro g j1 hle e p hp;subst e;rw [g, h3, ← hp] at NX;exact ⟨by rw [em, em]; show (f + 7 - (j + 1)).toNat < (f + 7 - j).toNat; omega, (eok _).2 ⟨by omega, by omega, by rw [NX]; rfl, rfl⟩⟩
  have HT : ∀ n, n = eM cs j → decide (halfA n ≤ (fixV x.hi).1 * 2 + 2 ∧ (fixV x.lo).1 * 2 ≤ halfB n) = hitN cs (fixA x) (fixB x) j := by
   intro n e; rw [e]; unfold hitN fixA fixB; rw [At (fixV x.hi).1 2, At (fixV x.lo).1 2]
  have TOPt : ¬ j % 2 = 0 → ∀ v, v = Num.ofInt (-1) → ∀ p, p = Iv.point v → p = topN j := by
   intro g v hv p hp; rw [hp, hv]; unfold topN; rw [if_neg g]
  have TOPf : j % 2 = 0 → ∀ v, v = Num.ofInt 1 → ∀ p, p = Iv.point v → p = topN j := by
   intro g v hv p hp; rw [hp, hv]; unfold topN; rw [if_pos g]
  have FIN : ¬ j ≤ f + 6 → Iv.hull [t1, t2] = r := by
   intro g;rw [← Y, ← hf, ← show t1 = ofN x.lo cs from ht1, ← show t2 = ofN x.hi cs from ht2];have e : marksN cs (fixA x) (fixB x) (f - 6) 13 = [] := by rw [← h3]; unfold marksTo; rw [show (j - (f - 6)).toNat = 13 by omega]
   rw [e]; rfl
  clear NX h3 Y eok em
 case' some =>
  have h0 := (eok _).1 hok;have h1 : f - 6 ≤ j := h0.1;have h2 : j ≤ f + 7 := h0.2.1;have h3 : L = ([t1, t2] ++ marksTo cs (fixA x) (fixB x) (f - 6) j).map Iv.cells := h0.2.2.1;have h4 : c = L.length := h0.2.2.2;clear hok h0;have NX := kS cs (fixA x) (fixB x) (f - 6) j h1;have LM : (marksTo cs (fixA x) (fixB x) (f - 6) j).length ≤ 14 := Ae (uR _ _ _ _ _) (by omega);have c16 : 0 ≤ c ∧ c ≤ 16 := by rw [h4, h3]; simp only [List.length_map, List.length_append, List.length_cons, List.length_nil]; omega
  have NO : hitN cs (fixA x) (fixB x) j = false → ∀ j1, j ≤ f + 6 → j1 = j + 1 → ms (j1, some (L, c)) < ms (j, some (L, c)) ∧ ok (j1, some (L, c)) := by
   intro g j1 hle e;subst e;rw [g] at NX;exact ⟨by rw [em, em]; show (f + 7 - (j + 1)).toNat < (f + 7 - j).toNat; omega, (eok _).2 ⟨by omega, by omega, by rw [NX, h3]; simp, h4⟩⟩
  have YES : hitN cs (fixA x) (fixB x) j = true → ∀ j1, j ≤ f + 6 → j1 = j + 1 → ∀ p, p = topN j → ms (j1, some (E.rapp (E.rsub L 0 c) [Iv.cells p], E.plus c 1)) < ms (j, some (L, c)) ∧ ok (j1, some (E.rapp (E.rsub L 0 c) [Iv.cells p], E.plus c 1)) ∧
   Blk.rows true 9 allZ (E.rapp (E.rsub L 0 c) [Iv.cells p]) = rnB [0, 1, 2, 3, 4, 5, 6, 9] (Blk.rows true 9 allZ (E.rapp (E.rsub L 0 c) [Iv.cells p])) ∧ allB (allB (in1 8)) (E.rapp (E.rsub L 0 c) [Iv.cells p]) = true := by
   intro g j1 hle e p hp;subst e;rw [g] at NX;have e1 : E.rapp (E.rsub L 0 c) [Iv.cells p] = ([t1, t2] ++ marksTo cs (fixA x) (fixB x) (f - 6) (j + 1)).map Iv.cells := by
    subst hE;show (L.drop (0 : Int).toNat).take c.toNat ++ [Iv.cells p] = _;rw [h4, h3, List.length_map, aDX, NX, hp, List.append_assoc]; rfl
   have e2 : E.plus c 1 = (([t1, t2] ++ marksTo cs (fixA x) (fixB x) (f - 6) (j + 1)).map Iv.cells).length := by
    subst hE;show c + 1 = _;rw [h4, h3, NX]; simp <;> omega
   rw [e1, e2];exact ⟨by rw [em, em]; show (f + 7 - (j + 1)).toNat < (f + 7 - j).toNat; omega, (eok _).2 ⟨by omega, by omega, rfl, rfl⟩, by show _ = Blk.rows true 9 allZ (mapB (mapB (rn1 _)) _); rw [vZ], uY _ _⟩
  have RN : Blk.rows true 9 allZ L = rnB [0, 1, 2, 3, 4, 5, 6, 7] (Blk.rows true 9 allZ L) := by show _ = Blk.rows true 9 allZ (mapB (mapB (rn1 _)) _); rw [h3, vZ]
  have RI : allB (allB (in1 8)) L = true := by rw [h3]; exact uY _ _
  have RF : allB (allB AV.mf1) L = true := by rw [h3]; exact aFE _
  have HT : ∀ n, n = eM cs j → decide (halfA n ≤ (fixV x.hi).1 * 2 + 2 ∧ (fixV x.lo).1 * 2 ≤ halfB n) = hitN cs (fixA x) (fixB x) j := by
   intro n e; rw [e]; unfold hitN fixA fixB; rw [At (fixV x.hi).1 2, At (fixV x.lo).1 2]
  have TOPt : ¬ j % 2 = 0 → ∀ v, v = Num.ofInt (-1) → ∀ p, p = Iv.point v → p = topN j := by
   intro g v hv p hp; rw [hp, hv]; unfold topN; rw [if_neg g]
  have TOPf : j % 2 = 0 → ∀ v, v = Num.ofInt 1 → ∀ p, p = Iv.point v → p = topN j := by
   intro g v hv p hp; rw [hp, hv]; unfold topN; rw [if_pos g]
  have CL : c = (([t1, t2] ++ marksTo cs (fixA x) (fixB x) (f - 6) j).length : Nat) := by rw [h4, h3, List.length_map]
  have FIN : ¬ j ≤ f + 6 → Iv.hull ([t1, t2] ++ marksTo cs (fixA x) (fixB x) (f - 6) j) = r := by
   intro g;rw [← Y, ← hf, ← show t1 = ofN x.lo cs from ht1, ← show t2 = ofN x.hi cs from ht2];unfold marksTo; rw [show (j - (f - 6)).toNat = 13 by omega]
  obtain ⟨Z, hZ⟩ : ∃ Z, Z = [t1, t2] ++ marksTo cs (fixA x) (fixB x) (f - 6) j := ⟨_, rfl⟩
  rw [← hZ] at CL FIN h3;have c17 : c ≤ 17179869184 := by omega
  have MX : E.cmp .leq (E.plus c 1) 17179869184 = true := by subst hE; exact Au (by show c + 1 ≤ 17179869184; omega)
  have SL : ∀ d, sle2 (.slc 9 (.s c) (E.rfun L 0 d)) (.slc 9 (.s c) (fun i => Iv.cells (Z.getD i Iv.none))) := by intro d; rw [h3]; exact slI_le hE CL
  clear NX h3 h4 Y eok em LM hZ
 all_goals
  cbv;refine E_br hE ?_ ?_ <;> intro g <;> cbv
  · have g : j ≤ f + 6 := by subst hE; have k := kI g; rw [show (aB Tryz.prog).bin .add .i64 f 6 = f + 6 from FB] at k; exact k
    have nb := aQJ (cs := cs) h1 g fb.1 fb.2;have lh := aIR nb.2.1;refine E_nm hE fun n hn => ?_
    have hn : n = 2 * j := hn.trans (by subst hE; exact nb.2.2.2.1);cbv;refine E_br hE ?_ ?_ <;> intro g1 <;> cbv
    case' refine_1 =>
     have k1 : cs = false := by subst hE; cases q : cs; rfl; rw [q] at g1; exact absurd g1 (by decide)
     refine E_nm hE fun n1 hn1 => ?_
     have hn1 : n1 = eM cs j := hn1.trans (by rw [hn]; subst hE; exact nb.2.2.2.2.trans (by unfold eM; rw [k1]; rfl));cbv
    case' refine_2 =>
     have k1 : cs = true := by subst hE; cases q : cs; rw [q] at g1; exact absurd g1 (by decide); rfl
     have hn1 : n = eM cs j := hn.trans (by rw [k1]; rfl);clear hn;generalize n = n1 at *
    all_goals
     rw [← hn1] at nb lh;have HT := HT _ hn1
     (apply E_pcallX hE (aSH n1 nb.1.1 nb.1.2 lo hi cs hlo hhi); (case hm => rfl); (case hle => exact u_up); all_goals (first | (intro t ht; cbv) | (assumption)))
     have th1 : t.1 = whN (halfA n1) := ht.1;have th2 : t.2 = whN (halfB n1) := ht.2
     (apply E_pcallX hE (aPG (halfA n1) (halfB n1) _ _ t.1 t.2 aa bc th1 th2 haa hbc lh.1 lh.2 f5 f9); (case hm => rfl); (case hle => exact u_up); all_goals (first | (intro m hm1; cbv) | (assumption)))
     have hm1 : m = hitN cs (fixA x) (fixB x) j := hm1.trans HT;refine E_br hE ?_ ?_ <;> intro g2 <;> cbv
     · have g2 : hitN cs (fixA x) (fixB x) j = false := by rw [← hm1]; subst hE; cases q : m; rfl; rw [q] at g2; exact absurd g2 (by decide)
       refine E_nm hE fun j1 hj1 => ?_
       have hj1 : j1 = j + 1 := hj1.trans (by subst hE; exact nb.2.2.1);have Q := NO g2 j1 g hj1;cbv
       first
        | (refine ⟨(j1, none), [0, 1, 2, 3, 4, 5, 6], Q.1, Q.2, bV ⟨rfl, rfl, rfl, rfl, rfl, rfl, rfl, trivial⟩ rfl rfl rfl ⟨rfl, rfl, rfl, rfl, rfl, rfl, rfl, trivial⟩ ?_⟩; (repeat' (first | exact bW | refine bN (dH rfl rfl) rfl ?_ | refine bE ?_ rfl ?_ | exact aM | exact aQ | exact aI | exact (rfl : sle2 (.slx _ _) (.slx _ _)))))
        | (refine ⟨(j1, some (L, c)), [0, 1, 2, 3, 4, 5, 6, 7], Q.1, Q.2, bV ⟨rfl, rfl, rfl, rfl, rfl, rfl, rfl, RN, trivial⟩ rfl rfl rfl ⟨rfl, rfl, rfl, rfl, rfl, rfl, rfl, RI, trivial⟩ ?_⟩; (repeat' (first | exact bW | refine bN (dH rfl rfl) rfl ?_ | refine bE ?_ rfl ?_ | exact aM | exact aQ | exact aI | exact (rfl : sle2 (.slx _ _) (.slx _ _)))))
     have g2 : hitN cs (fixA x) (fixB x) j = true := by rw [← hm1]; subst hE; cases q : m; rw [q] at g2; exact absurd g2 (by decide); rfl
     refine E_br hE ?_ ?_ <;> intro g3 <;> cbv
     case' refine_1 =>
      have g3 : ¬ j % 2 = 0 := by subst hE; have k := ne_t g3; rw [show (aB Tryz.prog).bin .and .i64 j 1 = j % 2 from aHT j] at k; exact k
      (apply E_callX hE (c_Of (-1) (by decide) (by decide)); (case hf => rfl); (case hc => (cbv <;> trivial)); (case hle => exact u_up); all_goals (first | (intro v hv; cbv) | (assumption)))
      (apply E_callX hE (qZ ⟨_, _, _, _⟩); (case hf => rfl); (case hc => (cbv <;> trivial)); (case hle => exact u_up); all_goals (first | (intro p hp; cbv) | (assumption)))
      have hp : p = topN j := TOPt g3 v hv p hp
     case' refine_2 =>
      have g3 : j % 2 = 0 := by subst hE; have k := ne_f g3; rw [show (aB Tryz.prog).bin .and .i64 j 1 = j % 2 from aHT j] at k; exact k
      (apply E_callX hE (c_Of 1 (by decide) (by decide)); (case hf => rfl); (case hc => (cbv <;> trivial)); (case hle => exact u_up); all_goals (first | (intro v hv; cbv) | (assumption)))
      (apply E_callX hE (qZ ⟨_, _, _, _⟩); (case hf => rfl); (case hc => (cbv <;> trivial)); (case hle => exact u_up); all_goals (first | (intro p hp; cbv) | (assumption)))
      have hp : p = topN j := TOPf g3 v hv p hp
     all_goals
      (try (refine E_br_t hE MX ?_; cbv))
      refine E_nm hE fun j1 hj1 => ?_
      have hj1 : j1 = j + 1 := hj1.trans (by subst hE; exact nb.2.2.1);have Q := YES g2 j1 g hj1 p hp;cbv
      first
       | (refine ⟨(j1, some ([Iv.cells t1, Iv.cells t2, Iv.cells p], 3)), [0, 1, 2, 3, 4, 5, 6, 8], Q.1, Q.2, bV ⟨rfl, rfl, rfl, rfl, rfl, rfl, rfl, rfl, trivial⟩ rfl rfl rfl ⟨rfl, rfl, rfl, rfl, rfl, rfl, rfl, rfl, trivial⟩ ?_⟩; (repeat' (first | exact bW | refine bN (dH rfl rfl) rfl ?_ | refine bE ?_ rfl ?_ | exact aM | exact aQ | exact aI | exact (rfl : sle2 (.slx _ _) (.slx _ _)))))
       | (refine ⟨(j1, some (E.rapp (E.rsub L 0 c) [Iv.cells p], E.plus c 1)), [0, 1, 2, 3, 4, 5, 6, 9], Q.1, Q.2.1, bV ⟨rfl, rfl, rfl, rfl, rfl, rfl, rfl, Q.2.2.1, trivial⟩ rfl rfl rfl ⟨rfl, rfl, rfl, rfl, rfl, rfl, rfl, Q.2.2.2, trivial⟩ ?_⟩; (repeat' (first | exact bW | refine bN (dH rfl rfl) rfl ?_ | refine bE ?_ rfl ?_ | exact aM | exact aQ | exact aI | exact (rfl : sle2 (.slx _ _) (.slx _ _)))))
  · have g : ¬ j ≤ f + 6 := by subst hE; have k := bQ g; rw [show (aB Tryz.prog).bin .add .i64 f 6 = f + 6 from FB] at k; exact k
    have FIN := FIN g
    first
     | (apply E_callX hE (aMR [t1, t2] 2 rfl (by decide)); (case hf => rfl); (case hc => (cbv <;> trivial)); (case hle => exact ⟨aSV, trivial⟩); intro z hz; cbv)
     | (apply E_callX hE (aMR Z c CL c17); (case hf => rfl); (case hc => exact ⟨RF, trivial⟩); (case hle => exact ⟨SL _, trivial⟩); intro z hz; cbv)
    rw [show z = r from Eq.trans hz FIN]; exact ⟨rfl, rfl, rfl, rfl, rfl, rfl, rfl, rfl, rfl, trivial⟩
def aUH (b : Bool × List Int) : Int × Int → St
 | (i, u) => ⟨[(4, .ptr 1 2 (.l 0) 0), (5, .int .u64 (.s u)), (6, .int .i64 (.s i))], [.rows true 2 [.bool (.l false), .s0] [[.bool (.s b.1), .sli .u32 b.2]], .rows true 2 [.bool (.l false), .s0] [[.bool (.s b.1), .sli .u32 b.2]]]⟩
theorem aSE (x : Int) (a : Bool × List Int) (ha : a = whN x) (x0 : -4611686018427387904 ≤ x) (x1 : x ≤ 4611686018427387904) :
 ∃ t : Int × Bool, t = (x, true) ∧ aC Tryz.prog 133 [.agg [.bool (.s a.1), .sli .u32 a.2]] (.tup [.int .i64 (.s t.1), .bool (.s t.2)]) := by
 refine ⟨_, rfl, ?_⟩;generalize hr : (x, true) = r;have g1 : a.1 = decide (x < 0) := by rw [ha, bA]
 have g2 : a.2 = lim x.natAbs := by rw [ha, bA]
 have lb : Lb a.2 := by rw [ha]; exact whN_lb _
 have vl : lv a.2 = x.natAbs := by rw [g2]; exact aJ _
 have ll : a.2.length ≤ 2 := by rw [ha]; exact fR (by rw [show (4294967296 : Nat) ^ 2 = 18446744073709551616 by decide +kernel]; omega)
 have tm : ∀ b : Bool × List Int, b = (a.1 && decide (lv a.2 ≠ 0), lim (lv a.2)) → b = a := by
  intro b h;rw [h, vl, ← g2];refine Prod.ext ?_ rfl;show (a.1 && decide (x.natAbs ≠ 0)) = a.1;rw [g1];by_cases z : x < 0
  · simp [z]; omega
  · simp [z]
 obtain ⟨ms, em⟩ : ∃ ms : Int × Int → Nat, ∀ p, ms p = (p.1 + 1).toNat := ⟨_, fun _ => rfl⟩
 obtain ⟨ok, eok⟩ : ∃ ok : Int × Int → Prop, ∀ p, ok p ↔ -1 ≤ p.1 ∧ p.1 < a.2.length ∧ p.2 = lv (a.2.drop (p.1 + 1).toNat) := ⟨_, fun _ => Bs⟩
 clear ha;refine callsA_o Tryz.func133 fun E hE lp hl => ?_
 cbv
 (apply E_callX hE (c_r2Make a.1 a.2 lb (by omega)); (case hf => rfl); (case hc => (cbv <;> trivial)); (case hle => exact u_up); all_goals (first | (intro b hb; cbv) | (assumption)))
 have hb := tm b hb;subst hb;refine E_br hE ?_ ?_ <;> intro h <;> cbv
 · exfalso;have h : 2 < (b.2.length : Int) := by subst hE; exact cU h
   omega
 clear h;have st : E.bin .sub .i64 (E.len b.2) 1 = (b.2.length : Int) - 1 := by
  subst hE;show IntKind.i64.wrap ((b.2.length : Int) - 1) = _;rw [wi64]; omega
 refine E_nm hE fun k hk => ?_
 have hk := hk.trans st;have I : ok (k, 0) := (eok _).2 ⟨by show (-1 : Int) ≤ k; omega, by show k < b.2.length; omega, by show (0 : Int) = lv (b.2.drop (k + 1).toNat); rw [show (k + 1).toNat = b.2.length by omega, List.drop_length]; rfl⟩;clear st hk;cbv;refine E_loop hE hG hm hl (aUH b) ms ok ⟨(k, 0), I, stLe rfl ?_⟩ ?_
 · (repeat' (first | exact bC | apply aV | exact aN | exact aM | exact aI | exact bI | exact aQ | exact (rfl : sle2 .s0 .s0)))
 rintro ⟨i, u⟩ hok;have h1 : -1 ≤ i := ((eok _).1 hok).1;have h2 : i < b.2.length := ((eok _).1 hok).2.1;have h3 : u = lv (b.2.drop (i + 1).toNat) := ((eok _).1 hok).2.2;clear hok I;have nx : 0 ≤ i → ∀ v w : Int, v = aA .add .u64 (aA .mul .u64 u 4294967296) (IntKind.u64.wrap (b.2.getD i.toNat 0)) → w = aA .sub .i64 i 1 → ms (w, v) < ms (i, u) ∧ ok (w, v) := by
  intro g v w hv hw;have e : w = i - 1 := by rw [hw]; show IntKind.i64.wrap (i - 1) = _; rw [wi64]; omega
  have hu : u = lv (b.2.drop (i.toNat + 1)) := by rw [h3, show (i + 1).toNat = i.toNat + 1 by omega]
  have d := aLE lb ll g h2 hu;rw [d] at hv;subst e;exact ⟨by rw [em, em]; show (i - 1 + 1 : Int).toNat < (i + 1 : Int).toNat; omega, (eok _).2 ⟨by show (-1 : Int) ≤ i - 1; omega, by show i - 1 < (b.2.length : Int); omega, by show v = lv (b.2.drop (i - 1 + 1).toNat); rw [hv, show (i - 1 + 1).toNat = i.toNat by omega]⟩⟩
 have en : ¬ 0 ≤ i → u = x.natAbs := by
  intro g;rw [h3, show (i + 1).toNat = 0 by omega, List.drop_zero, vl]
 clear eok em;cbv;refine E_br hE ?_ ?_ <;> intro h <;> cbv
 · have g : 0 ≤ i := by subst hE; exact lQ h
   have nx := nx g;clear en;repeat' (first
     | (refine E_br hE ?_ ?_ <;> intro h <;> cbv)
     | (refine E_nm hE fun v hv => ?_; cbv)
     | (refine aT hE (fun b hb => ?_); cbv)
     | fail)
   case refine_1.refine_1 =>
    rename_i w hw;have N := nx w v (by subst hE; exact hw) (by subst hE; exact hv);refine ⟨(v, w), N.1, N.2, stLe rfl ?_⟩
    (repeat' (first | exact bC | apply aV | exact aN | exact aM | exact aI | exact bI | exact aQ | exact (rfl : sle2 .s0 .s0)))
   all_goals (exfalso; clear nx lb hr g1 g2 tm vl hb hk; subst hE; simp only [NatCast.natCast, Ac, aB, aE, aH, aG, aF, aK, aL, aA, Ab, Aa, SI.val, SB.val, Num.eta, Iv.eta] at *; (try simp only [wi64] at *); omega)
 · have en := en (by subst hE; exact kH h);have g3 : b.1 = true ↔ x < 0 := by rw [g1]; exact decide_eq_true_iff
   have g4 : b.1 = false ↔ ¬ x < 0 := by rw [g1]; exact Aa
   clear nx lb g2 tm vl h3 g1 hb;repeat' (first
     | (refine E_br hE ?_ ?_ <;> intro h <;> cbv)
     | (refine E_nm hE fun v hv => ?_; cbv)
     | (refine aT hE (fun b hb => ?_); cbv)
     | fail)
   all_goals (subst hE; subst hr)
   all_goals simp only [NatCast.natCast, Ac, aB, aE, aH, aG, aF, aK, aL, aA, Ab, Aa, SI.val, SB.val, Num.eta, Iv.eta] at *
   all_goals (first | (have q := g3.1 ‹b.1 = true›; have q2 : b.1 = true := ‹b.1 = true›; have e3 : u = -x := by omega) | (have q := g4.1 ‹b.1 = false›; have q2 : b.1 = false := ‹b.1 = false›; have e3 : u = x := by omega))
   all_goals (clear g3 g4 hl en; simp only [q2, wi64, wu64] at *)
   all_goals (try simp at *)
   all_goals omega
end
section
open Go Go.Proofs
theorem aQN {a b : Num} {z : Num} : sle2 (.slc 4 (.l 2) (fun i => iM [a.cells, b.cells] (Int.ofNat i))) (.slc 4 (.s 2) (fun i => Num.cells ([a, b].getD i z))) := by
 have r : ∀ {x : Num}, sleL sle0 x.cells x.cells := ⟨⟨rfl, rfl⟩, rfl, ⟨rfl, rfl⟩, ⟨rfl, rfl⟩, trivial⟩
 refine ⟨rfl, rfl, fun i hi => ?_⟩
 match i, hi with
 | 0, _ => exact r
 | 1, _ => exact r
 | i + 2, hi => exact absurd hi (by simp [SI.val])
theorem aHI {a b : Num} (h : a.ok) (k : b.ok) : ∀ x ∈ [a, b], x.ok := by
 intro n hn;simp only [List.mem_cons, List.not_mem_nil, or_false] at hn;rcases hn with rfl | rfl
 · exact h
 · exact k
theorem aBR (x y : Iv) (fx : x.lo.ok ∧ x.hi.ok) (fy : y.lo.ok ∧ y.hi.ok) : ∃ t : Iv, t = Iv.hull [x, y] ∧ aC Tryz.prog 114 [x.av, y.av] t.av := by
 rw [← Iv.aLP fx fy];refine ⟨_, rfl, ?_⟩;generalize hr : Iv.rhull x y = r;have e1 : x.fair.empty = true → r = y.fair := by intro h; rw [← hr]; unfold Iv.rhull; rw [if_pos h]
 have e2 : ¬ x.fair.empty = true → y.fair.empty = true → r = x.fair := by intro h g; rw [← hr]; unfold Iv.rhull; rw [if_neg h, if_pos g]
 have mak : ¬ x.fair.empty = true → ¬ y.fair.empty = true → r = Iv.make (Num.least [x.fair.lo, y.fair.lo]) (Num.most [x.fair.hi, y.fair.hi]) := by intro h g; rw [← hr]; unfold Iv.rhull; rw [if_neg h, if_neg g]
 have fa := Iv.pU fx.1 fx.2;have fb := Iv.pU fy.1 fy.2;clear hr;refine callsA_o Tryz.func114 fun E hE lp hl' => ?_
 cbv
 (refine E_cx hE (c_r8Fair ⟨_, ⟨_, _, _, _⟩, ⟨_, _, _, _⟩⟩ ?_ ?_) ?_; all_goals (first | (intro a ha; cbv) | (first | exact fx.1 | exact fx.2)))
 (refine E_cx hE (c_r8Fair ⟨_, ⟨_, _, _, _⟩, ⟨_, _, _, _⟩⟩ ?_ ?_) ?_; all_goals (first | (intro b hb; cbv) | (first | exact fy.1 | exact fy.2)))
 replace ha : a = x.fair := ha;replace hb : b = y.fair := hb;rw [← ha] at e1 e2 mak fa;rw [← hb] at e1 e2 mak fb;clear ha hb;refine E_br hE ?_ ?_ <;> intro g1 <;> cbv
 · rw [e1 g1]; exact ⟨rfl, rfl, rfl, rfl, rfl, rfl, rfl, rfl, rfl, trivial⟩
 have n1 : ¬ a.empty = true := by rw [g1]; decide
 refine E_br hE ?_ ?_ <;> intro g2 <;> cbv
 · rw [e2 n1 g2]; exact ⟨rfl, rfl, rfl, rfl, rfl, rfl, rfl, rfl, rfl, trivial⟩
 have M := mak n1 (by rw [g2]; decide);clear e1 e2 mak;have ol := aHI fa.1 fb.1;have oh := aHI fa.2 fb.2
 (apply E_pcallX hE (aMM [a.lo, b.lo] 2 rfl (by decide) ol); (case hm => rfl); (case hle => exact ⟨aQN, trivial⟩); all_goals (first | (intro p hp; cbv) | (assumption)))
 (apply E_pcallX hE (aOL [a.hi, b.hi] 2 rfl (by decide) oh); (case hm => rfl); (case hle => exact ⟨aQN, trivial⟩); all_goals (first | (intro q hq; cbv) | (assumption)))
 have po : p.ok := by rw [hp]; exact (Num.least_spec [a.lo, b.lo] ol).2.1
 have qo : q.ok := by rw [hq]; exact (Num.most_spec [a.hi, b.hi] oh).2.1
 (refine E_px hE (pY ⟨_, _, _, _⟩ ⟨_, _, _, _⟩ ?_ ?_) ?_; all_goals (first | (intro t ht; cbv) | (first | exact po | exact qo)))
 have T : t = r := by rw [M, ← hp, ← hq]; exact ht
 rw [T]; exact ⟨rfl, rfl, rfl, rfl, rfl, rfl, rfl, rfl, rfl, trivial⟩
end
section
open Go Go.Proofs
attribute [local irreducible] Lb whN
theorem rnd7 : rnd (dyMake (dyL (dyMake false 7 0)).1 (lv (dyL (dyMake false 7 0)).2.1) (dyL (dyMake false 7 0)).2.2).1 (dyMake (dyL (dyMake false 7 0)).1 (lv (dyL (dyMake false 7 0)).2.1) (dyL (dyMake false 7 0)).2.2).2.1 (dyMake (dyL (dyMake false 7 0)).1 (lv (dyL (dyMake false 7 0)).2.1) (dyL (dyMake false 7 0)).2.2).2.2 true = Num.ofInt 7 := by decide +kernel
theorem aOZ : ∃ t : Num, t = Num.ofInt 7 ∧ aC Tryz.prog 105 [.int .i64 (.l 7)] t.av := by
 refine ⟨_, rfl, ?_⟩;generalize hr : Num.ofInt 7 = r;have w : ∀ u : Bool × List Int, u = whN 7 → u.1 = false ∧ lv u.2 = 7 ∧ Lb u.2 ∧ u.2.length ≤ 125000 := by
  intro u h; rw [h]; exact ⟨by unfold whN; rfl, by unfold whN; show lv (lim (Int.natAbs 7)) = _; rw [aJ]; rfl, whN_lb _, Ae (fR (k := 1) (by decide)) (by decide)⟩
 have fin := rnd7.trans hr;have dl : ∀ d : Bool × List Int × Int, d = dyL (dyMake false 7 0) → Lb d.2.1 ∧ d.2.1.length ≤ 62500 ∧ (-9223372036854775808 ≤ d.2.2 ∧ d.2.2 < 9223372036854775808) := by
  intro d h;have e : dyL (dyMake false 7 0) = (false, [7], 0) := by decide +kernel
  rw [h, e];exact ⟨Lb.cons (by decide) (by decide) Lb.nil, by decide, by decide, by decide⟩
 clear hr;refine callsA_o Tryz.func105 fun E hE lp hl' => ?_
 cbv
 (refine E_cx hE (c_r2From 7 (by decide) (by decide)) ?_; intro u hu; cbv)
 obtain ⟨u1, u2, u3, u5⟩ := w u hu
 (refine E_cx hE (dP u.1 u.2 0 u3 u5 (by decide)) ?_; intro d hd; cbv)
 have hd : d = dyL (dyMake false 7 0) := by
  have k : d = dyL (dyMake u.1 (lv u.2) 0) := hd;rw [k, u1, u2]
 obtain ⟨d1, d4, d3⟩ := dl d hd
 (refine E_cx hE (mP d.1 d.2.1 d.2.2 true d1 d4 d3) ?_; intro z hz; cbv)
 have k : z = r := by
  have k : z = rnd (dyMake d.1 (lv d.2.1) d.2.2).1 (dyMake d.1 (lv d.2.1) d.2.2).2.1 (dyMake d.1 (lv d.2.1) d.2.2).2.2 true := hz;rw [k, hd]; exact fin
 rw [← k]; exact ⟨rfl, rfl, rfl, rfl, trivial⟩
theorem aFR (n : Int) (x y : Int) (a b : Bool × List Int) (n0 : -9223372036854775808 ≤ n) (n1 : n < 9223372036854775808) (ln : wl n ≤ 5) (ha : a = whN x) (hb : b = whN y) (la : wl x ≤ 90000) (lb : wl y ≤ 90000) :
 ∃ t : Bool, t = decide (halfA n ≤ y ∧ x ≤ halfB n) ∧ aC Tryz.prog 134 [.int .i64 (.s n), .agg [.bool (.s a.1), .sli .u32 a.2], .agg [.bool (.s b.1), .sli .u32 b.2]] (.bool (.s t)) := by
 refine ⟨_, rfl, ?_⟩;generalize hr : decide (halfA n ≤ y ∧ x ≤ halfB n) = r;have f0 : ¬ halfA n ≤ y → r = false := by intro h; rw [← hr]; exact Az (fun z => h z.1)
 have f1 : halfA n ≤ y → ∀ t : Bool, t = decide (x ≤ halfB n) → t = r := by intro h t ht; rw [ht, ← hr]; exact Bk.2 ⟨fun z => ⟨h, z⟩, fun z => z.2⟩
 have cp : ∀ p q s : Int, s = (if p < q then -1 else if q < p then 1 else 0) → (s ≤ 0 ↔ p ≤ q) := by
  intro p q s h; have := gP h; omega
 obtain ⟨p1, p2, p3⟩ := pC;have l1 : wl piLoB ≤ 90000 := by omega
 have l2 : wl piHiB ≤ 90000 := by omega
 have lh := aIR ln;have g1 : n < 0 → halfA n = piHiB * n ∧ halfB n = piLoB * n := by intro h; unfold halfA halfB; rw [if_pos h, if_pos h]; exact ⟨At _ _, At _ _⟩
 have g2 : ¬ n < 0 → halfA n = piLoB * n ∧ halfB n = piHiB * n := by intro h; unfold halfA halfB; rw [if_neg h, if_neg h]; exact ⟨At _ _, At _ _⟩
 clear hr;refine callsA_o Tryz.func134 fun E hE lp hl => ?_
 cbv
 (refine E_cx hE jP ?_; intro bo hbo; cbv)
 have hlo : bo.1 = whN piLoB := by have k : bo = (whN piLoB, whN piHiB) := hbo; rw [k]
 have hhi : bo.2 = whN piHiB := by have k : bo = (whN piLoB, whN piHiB) := hbo; rw [k]
 (refine E_cx hE (z_rTimes piLoB n bo.1 hlo l1 n0 n1) ?_; intro u hu; cbv)
 (refine E_cx hE (z_rTimes piHiB n bo.2 hhi l2 n0 n1) ?_; intro v hv; cbv)
 refine E_br hE ?_ ?_ <;> intro g <;> cbv
 · have g : n < 0 := by subst hE; exact bF g
   obtain ⟨e1, e2⟩ := g1 g;have hA : v = whN (halfA n) := by rw [e1]; exact hv
   have hB : u = whN (halfB n) := by rw [e2]; exact hu
   (refine E_cx hE (oU (halfA n) y v b hA hb lh.1 lb) ?_; intro s hs; cbv)
   have S := cp _ _ s hs;refine E_br hE ?_ ?_ <;> intro g <;> cbv
   · have g := S.1 (show s ≤ 0 by subst hE; exact kI g)
     (refine E_cx hE (oU x (halfB n) a u ha hB la lh.2) ?_; intro s2 hs2; cbv)
     have S2 := cp _ _ s2 hs2;refine f1 g _ ?_;subst hE;exact Bk.2 S2
   · have g : ¬ halfA n ≤ y := fun z => (show ¬ s ≤ 0 by subst hE; exact bQ g) (S.2 z)
     rw [f0 g]
 · have g : ¬ n < 0 := by subst hE; exact aW g
   obtain ⟨e1, e2⟩ := g2 g;have hA : u = whN (halfA n) := by rw [e1]; exact hu
   have hB : v = whN (halfB n) := by rw [e2]; exact hv
   (refine E_cx hE (oU (halfA n) y u b hA hb lh.1 lb) ?_; intro s hs; cbv)
   have S := cp _ _ s hs;refine E_br hE ?_ ?_ <;> intro g <;> cbv
   · have g := S.1 (show s ≤ 0 by subst hE; exact kI g)
     (refine E_cx hE (oU x (halfB n) a v ha hB la lh.2) ?_; intro s2 hs2; cbv)
     have S2 := cp _ _ s2 hs2;refine f1 g _ ?_;subst hE;exact Bk.2 S2
   · have g : ¬ halfA n ≤ y := fun z => (show ¬ s ≤ 0 by subst hE; exact bQ g) (S.2 z)
     rw [f0 g]
def rZ : List AV := [.bool (.l false), .int .i64 (.l 0), .bool (.l false), .int .u64 (.l 0), .int .i64 (.l 0), .int .i64 (.l 0), .bool (.l false), .int .u64 (.l 0), .int .i64 (.l 0)]
def rW : List AV := [.bool (.l false), .s0]
def aUA (x : Iv) (a b u v pl ph : Bool × List Int) (cs : Bool) (F : Int) : Int × Iv → St
 | (i, o) => ⟨[(1, .bool (.s cs)), (4, .ptr 1 9 (.l 0) 0), (10, .ptr 5 9 (.l 0) 0), (11, .ptr 6 2 (.l 0) 0), (12, .ptr 7 2 (.l 0) 0), (15, .int .i64 (.s F)), (17, .int .i64 (.s i))],
   [
    .rows true 9 rZ [Iv.cells x], .rows true 9 rZ [rZ], .rows true 9 rZ [Iv.cells x], .rows true 2 rW [[.bool (.s a.1), .sli .u32 a.2]], .rows true 2 rW [[.bool (.s b.1), .sli .u32 b.2]], .rows true 9 rZ [Iv.cells o],
    .rows true 2 rW [[.bool (.s u.1), .sli .u32 u.2]], .rows true 2 rW [[.bool (.s v.1), .sli .u32 v.2]], .rows true 2 rW [[.bool (.s pl.1), .sli .u32 pl.2]], .rows true 2 rW [[.bool (.s ph.1), .sli .u32 ph.2]]]⟩
theorem rem2 (j : Int) : j.tmod 2 = 0 ↔ j % 2 = 0 := by
 rw [← Int.dvd_iff_tmod_eq_zero, ← Int.dvd_iff_emod_eq_zero]
theorem aLL {cs : Bool} {F j : Int} (h1 : F - 4 ≤ j) (h2 : j ≤ F + 8) (f1 : -4294967296 ≤ F) (f2 : F ≤ 4294967296) :
 (-9223372036854775808 ≤ eM cs j ∧ eM cs j < 9223372036854775808) ∧ wl (eM cs j) ≤ 5 ∧ aA .add .i64 j 1 = j + 1 ∧ aA .mul .i64 2 j = 2 * j ∧ aA .add .i64 (2 * j) 1 = 2 * j + 1 := by
 have b : -17179869184 ≤ eM cs j ∧ eM cs j ≤ 17179869184 := by unfold eM; split <;> omega
 refine ⟨by omega, Ae (dW (k := 2) (by rw [show (4294967296 : Nat) ^ 2 = 18446744073709551616 by decide +kernel]; omega)) (by decide), ?_, ?_, ?_⟩
 · show IntKind.i64.wrap (j + 1) = _; rw [wi64]; omega
 · show IntKind.i64.wrap (2 * j) = _; rw [wi64]; omega
 · show IntKind.i64.wrap (2 * j + 1) = _; rw [wi64]; omega
set_option maxHeartbeats 4000000 in
theorem aDS (y : Iv) (o1 : y.lo.ok) (o2 : y.hi.ok) (cs : Bool) : ∃ t : Iv, t = allN y cs ∧ aC Tryz.prog 61 [y.av, .bool (.s cs)] t.av := by
 refine ⟨_, rfl, ?_⟩;generalize hr : allN y cs = r;have B : y.bad = true → Iv.none = r := by intro h; rw [← hr]; unfold allN; rw [if_pos h]
 have U : y.bad = false → ¬ gU y → nU = r := by intro h g; rw [← hr]; unfold allN; rw [if_neg (by rw [h]; decide), if_neg g]
 have R : y.bad = false → y.Real := by
  intro h;rcases Iv.bad_or_real ⟨o1, o2⟩ with b | b
  · rw [h] at b; cases b
  · exact b
 have Y : y.bad = false → gU y → Iv.hull ([ofN y.lo cs, ofN y.hi cs] ++ marksN cs (fixA y) (fixB y) (firstN y - 4) 13) = r := by
  intro h g;rw [← hr, ← aGH cs (R h) g]; unfold allN; rw [if_neg (by rw [h]; decide), if_pos g]
 clear hr;refine callsA_o Tryz.func61 fun E hE lp hl => ?_
 cbv
 (apply E_callX hE (c_r8Fair ⟨_, ⟨_, _, _, _⟩, ⟨_, _, _, _⟩⟩ o1 o2); (case hf => rfl); (case hc => (cbv <;> trivial)); (case hle => exact u_up); all_goals (first | (intro x hx; cbv) | (assumption)))
 have hx : x = y.fair := hx;have fb : x.empty = y.bad := by rw [hx]; exact Iv.pP y
 refine E_br hE ?_ ?_ <;> intro h <;> cbv
 · have hb : y.bad = true := fb.symm.trans h;rw [show x = r from by rw [hx, Iv.aDU hb]; exact B hb]; exact ⟨rfl, rfl, rfl, rfl, rfl, rfl, rfl, rfl, rfl, trivial⟩
 have G : y.bad = false := fb.symm.trans h;have xy : x = y := by rw [hx]; exact Iv.nE (by rw [Iv.pP]; exact G)
 subst xy;replace U := U G;replace Y := Y G;replace R := R G;clear B hx fb h
 (apply E_callX hE (vV ⟨_, _, _, _⟩ o1); (case hf => rfl); (case hc => (cbv <;> trivial)); (case hle => exact u_up); all_goals (first | (intro a ha; cbv) | (assumption)))
 (apply E_callX hE (vV ⟨_, _, _, _⟩ o2); (case hf => rfl); (case hc => (cbv <;> trivial)); (case hle => exact u_up); all_goals (first | (intro b hb; cbv) | (assumption)))
 have a1 : a.1 = whN (fixV x.lo).1 := by have k : a = (whN (fixV x.lo).1, (fixV x.lo).2) := ha; rw [k]
 have a2 : a.2 = (fixV x.lo).2 := by have k : a = (whN (fixV x.lo).1, (fixV x.lo).2) := ha; rw [k]
 have b1 : b.1 = whN (fixV x.hi).1 := by have k : b = (whN (fixV x.hi).1, (fixV x.hi).2) := hb; rw [k]
 have b2 : b.2 = (fixV x.hi).2 := by have k : b = (whN (fixV x.hi).1, (fixV x.hi).2) := hb; rw [k]
 clear ha hb;refine E_br hE ?_ ?_ <;> intro g <;> cbv
 · have g : a.2 = false := by subst hE; cases q : a.2; rfl; rw [q] at g; exact absurd g (by decide)
   have nn : ¬ gU x := fun n => by have k := n.1; rw [← a2, g] at k; cases k
   (apply E_callX hE (nO); (case hf => rfl); (case hc => (cbv <;> trivial)); (case hle => exact u_up); all_goals (first | (intro t ht; cbv) | (assumption)))
   rw [show t = r from Eq.trans ht (U nn)]; exact ⟨rfl, rfl, rfl, rfl, rfl, rfl, rfl, rfl, rfl, trivial⟩
 have ga : (fixV x.lo).2 = true := by rw [← a2]; subst hE; cases q : a.2; rw [q] at g; exact absurd g (by decide); rfl
 refine E_br hE ?_ ?_ <;> intro g <;> cbv
 · have g : b.2 = false := by subst hE; cases q : b.2; rfl; rw [q] at g; exact absurd g (by decide)
   have nn : ¬ gU x := fun n => by have k := n.2.1; rw [← b2, g] at k; cases k
   (apply E_callX hE (nO); (case hf => rfl); (case hc => (cbv <;> trivial)); (case hle => exact u_up); all_goals (first | (intro t ht; cbv) | (assumption)))
   rw [show t = r from Eq.trans ht (U nn)]; exact ⟨rfl, rfl, rfl, rfl, rfl, rfl, rfl, rfl, rfl, trivial⟩
 have gb : (fixV x.hi).2 = true := by rw [← b2]; subst hE; cases q : b.2; rw [q] at g; exact absurd g (by decide); rfl
 have nx : x.near := ⟨sI o1 R.lom ga, sI o2 R.him gb⟩
 have wok : ∀ w, w = Iv.width x → w.ok := fun w h => by rw [h]; unfold Iv.width; rw [R.fair]; exact Num.aMH o2 (Num.opp_ok o1) true
 have o7 : ∀ v, v = Num.ofInt 7 → v.ok := fun v h => by rw [h]; exact Num.dA 7
 (apply E_callX hE (aJD ⟨_, ⟨_, _, _, _⟩, ⟨_, _, _, _⟩⟩ o1 o2 nx); (case hf => rfl); (case hc => (cbv <;> trivial)); (case hle => exact u_up); all_goals (first | (intro w hw; cbv) | (assumption)))
 have hw : w = Iv.width x := hw;have ow := wok w hw
 (apply E_callX hE (aOZ); (case hf => rfl); (case hc => (cbv <;> trivial)); (case hle => (repeat' (first | exact fW | apply dV | apply dR | exact aM | exact dU | exact aI | exact cV | exact aN | exact dY | exact cR | exact gG))); all_goals (first | (intro v7 hv7; cbv) | (assumption)))
 have ov := o7 v7 hv7
 (apply E_callX hE (qE ⟨_, _, _, _⟩ ⟨_, _, _, _⟩ ow ov); (case hf => rfl); (case hc => (cbv <;> trivial)); (case hle => exact u_up); all_goals (first | (intro c hc; cbv) | (assumption)))
 have hc : c = (Iv.width x).cmp (Num.ofInt 7) := by rw [← hw, ← hv7]; exact hc
 refine E_br hE ?_ ?_ <;> intro g <;> cbv
 · have g : ¬ (Iv.width x).cmp (Num.ofInt 7) < 0 := by
    rw [← hc]; have k : 0 ≤ c := by subst hE; exact lQ g
    omega
   have nn : ¬ gU x := fun n => g n.2.2
   (apply E_callX hE (nO); (case hf => rfl); (case hc => (cbv <;> trivial)); (case hle => exact u_up); all_goals (first | (intro t ht; cbv) | (assumption)))
   rw [show t = r from Eq.trans ht (U nn)]; exact ⟨rfl, rfl, rfl, rfl, rfl, rfl, rfl, rfl, rfl, trivial⟩
 have N : gU x := ⟨ga, gb, by
   rw [← hc]; have k : ¬ 0 ≤ c := by subst hE; exact kH g
   omega⟩
 replace Y := Y N;obtain ⟨f0, f1, f2, f3, f4, f5, f6, f7, f8, f9, fq⟩ := zI N;have i2 : whN 2 = (decide ((2 : Int) < 0), lim (2 : Int).natAbs) := bA 2;have fb := (oY N).2.2;have oo : ∀ n cs t, t = ofN n cs → t.lo.ok ∧ t.hi.ok := fun n cs t h => by rw [h]; exact aMP n cs
 clear U hc hw hv7 g ga gb a2 b2 wok o7
 (apply E_pcallX hE (uD ⟨_, _, _, _⟩ o1 cs); (case hm => rfl); (case hle => exact u_up); all_goals (first | (intro t1 ht1; cbv) | (assumption)))
 (apply E_pcallX hE (uD ⟨_, _, _, _⟩ o2 cs); (case hm => rfl); (case hle => exact u_up); all_goals (first | (intro t2 ht2; cbv) | (assumption)))
 have k1 := oo _ _ _ ht1;have k2 := oo _ _ _ ht2
 (apply E_pcallX hE (aBR ⟨_, ⟨_, _, _, _⟩, ⟨_, _, _, _⟩⟩ ⟨_, ⟨_, _, _, _⟩, ⟨_, _, _, _⟩⟩ k1 k2); (case hm => rfl); (case hle => exact u_up); all_goals (first | (intro u hu; cbv) | (assumption)))
 have hu : u = Iv.hull [t1, t2] := hu
 (apply E_callX hE (z_rTimes (fixV x.lo).1 2 a.1 a1 f1 (by decide) (by decide)); (case hf => rfl); (case hc => (cbv <;> trivial)); (case hle => exact u_up); all_goals (first | (intro aa haa; cbv) | (assumption)))
 (apply E_callX hE (z_rTimes (fixV x.hi).1 2 b.1 b1 f2 (by decide) (by decide)); (case hf => rfl); (case hc => (cbv <;> trivial)); (case hle => exact u_up); all_goals (first | (intro bb hbb; cbv) | (assumption)))
 (apply E_callX hE (c_r2From 2 (by decide) (by decide)); (case hf => rfl); (case hc => (cbv <;> trivial)); (case hle => exact u_up); all_goals (first | (intro two h2w; cbv) | (assumption)))
 have h2w : two = whN 2 := h2w
 (apply E_callX hE (z_rAdd ((fixV x.hi).1 * 2) 2 bb two hbb h2w f3 f0); (case hf => rfl); (case hc => (cbv <;> trivial)); (case hle => exact u_up); all_goals (first | (intro bc hbc; cbv) | (assumption)))
 (apply E_callX hE (jP); (case hf => rfl); (case hc => (cbv <;> trivial)); (case hle => exact u_up); all_goals (first | (intro bo hbo; cbv) | (assumption)))
 have hlo : bo.1 = whN piLoB := by have k : bo = (whN piLoB, whN piHiB) := hbo; rw [k]
 (apply E_pcallX hE (z_rTimes piLoB 2 bo.1 hlo f4 (by decide) (by decide)); (case hm => rfl); (case hle => exact u_up); all_goals (first | (intro pp hpp; cbv) | (assumption)))
 have hpp : pp = whN (((piLoB * 2).toNat : Nat) : Int) := hpp.trans (by rw [eU.2.1])
 (apply E_pcallX hE (nI ((fixV x.lo).1 * 2) _ eU.2.2 aa pp haa hpp f5 f6); (case hm => rfl); (case hle => exact u_up); all_goals (first | (intro q hq; cbv) | (assumption)))
 have hq : q = whN (firstN x) := hq.trans (congrArg whN fq)
 (apply E_pcallX hE (aSE (firstN x) q hq f7 f8); (case hm => rfl); (case hle => exact u_up); all_goals (first | (intro F hF; cbv) | (assumption)))
 refine E_nm hE fun f hf => ?_
 have hf : f = firstN x := by have k : F = (firstN x, true) := hF; rw [k] at hf; exact hf
 cbv;have I : (E.bin .sub .i64 f 4 = f - 4) := by subst hE; show IntKind.i64.wrap (f - 4) = _; rw [wi64]; omega
 refine E_nm hE fun j0 hj0 => ?_
 have hj0 := hj0.trans I;obtain ⟨ms, em⟩ : ∃ ms : Int × Iv → Nat, ∀ p, ms p = (f + 9 - p.1).toNat := ⟨_, fun _ => rfl⟩
 obtain ⟨ok, eok⟩ : ∃ ok : Int × Iv → Prop, ∀ p, ok p ↔ f - 4 ≤ p.1 ∧ p.1 ≤ f + 9 ∧ p.2 = Iv.hull ([t1, t2] ++ marksTo cs (fixA x) (fixB x) (f - 4) p.1) := ⟨_, fun _ => Bs⟩
 have ok0 : ok (j0, u) := (eok _).2 ⟨by show f - 4 ≤ j0; omega, by show j0 ≤ f + 9; omega, by show u = _; rw [hj0, sO]; exact hu⟩;clear I hj0;cbv;refine E_loop hE hG hm hl (aUA x a.1 b.1 aa bc bo.1 bo.2 cs f) ms ok ⟨(j0, u), ok0, stLe rfl ?_⟩ ?_
 · (repeat' (first | exact bC | apply aV | exact aN | exact aM | exact aI | exact bI | exact aQ | exact (rfl : sle2 .s0 .s0)))
 have FB : aA .add .i64 f 8 = f + 8 := by show IntKind.i64.wrap (f + 8) = _; rw [wi64]; omega
 rw [← hf] at fb;rintro ⟨j, o⟩ hok;have h0 := (eok _).1 hok;have h1 : f - 4 ≤ j := h0.1;have h2 : j ≤ f + 9 := h0.2.1;have h3 : o = Iv.hull ([t1, t2] ++ marksTo cs (fixA x) (fixB x) (f - 4) j) := h0.2.2;clear hok h0;have NX := kS cs (fixA x) (fixB x) (f - 4) j h1;have okl : ∀ y ∈ [t1, t2] ++ marksTo cs (fixA x) (fixB x) (f - 4) j, y.lo.ok ∧ y.hi.ok := by
  intro y hy;rcases List.mem_append.1 hy with hy | hy
  · simp only [List.mem_cons, List.not_mem_nil, or_false] at hy;rcases hy with rfl | rfl
    · exact k1
    · exact k2
  · exact aGA _ _ _ _ _ y hy
 have oo1 : o.lo.ok ∧ o.hi.ok := by rw [h3]; exact Iv.aQA okl
 have okt : (topN j).lo.ok ∧ (topN j).hi.ok := Iv.nK (Num.dA _) (Num.dA _);have OP : ∀ p, p = topN j → p.lo.ok ∧ p.hi.ok := fun p h => by rw [h]; exact okt
 have NO : hitN cs (fixA x) (fixB x) j = false → ∀ j1, j ≤ f + 8 → j1 = j + 1 → ms (j1, o) < ms (j, o) ∧ ok (j1, o) := by
  intro g j1 hle e;subst e;rw [g] at NX;exact ⟨by rw [em, em]; show (f + 9 - (j + 1)).toNat < (f + 9 - j).toNat; omega, (eok _).2 ⟨by show f - 4 ≤ j + 1; omega, by show j + 1 ≤ f + 9; omega, by show o = _; rw [NX, h3]; simp⟩⟩
 have YES : hitN cs (fixA x) (fixB x) j = true → ∀ j1, j ≤ f + 8 → j1 = j + 1 → ∀ p, p = topN j → ∀ q, q = Iv.hull [o, p] → ms (j1, q) < ms (j, o) ∧ ok (j1, q) := by
  intro g j1 hle e p hp q hq;subst e;rw [g] at NX;exact ⟨by rw [em, em]; show (f + 9 - (j + 1)).toNat < (f + 9 - j).toNat; omega, (eok _).2 ⟨by show f - 4 ≤ j + 1; omega, by show j + 1 ≤ f + 9; omega, by show q = _; rw [hq, NX, hp, h3, ← Iv.aJK okl okt]; simp⟩⟩
 have HT : ∀ n, n = eM cs j → decide (halfA n ≤ (fixV x.hi).1 * 2 + 2 ∧ (fixV x.lo).1 * 2 ≤ halfB n) = hitN cs (fixA x) (fixB x) j := by
  intro n e; rw [e]; unfold hitN fixA fixB; rw [At (fixV x.hi).1 2, At (fixV x.lo).1 2]
 have TOPf : ¬ j % 2 = 0 → ∀ v, v = Num.ofInt (-1) → ∀ p, p = Iv.point v → p = topN j := by
  intro g v hv p hp; rw [hp, hv]; unfold topN; rw [if_neg g]
 have TOPt : j % 2 = 0 → ∀ v, v = Num.ofInt 1 → ∀ p, p = Iv.point v → p = topN j := by
  intro g v hv p hp; rw [hp, hv]; unfold topN; rw [if_pos g]
 have OVt : ∀ v, v = Num.ofInt 1 → v.ok := fun v h => by rw [h]; exact Num.dA _
 have OVf : ∀ v, v = Num.ofInt (-1) → v.ok := fun v h => by rw [h]; exact Num.dA _
 have FIN : ¬ j ≤ f + 8 → o = r := by
  intro g;rw [← Y, ← hf, ← show t1 = ofN x.lo cs from ht1, ← show t2 = ofN x.hi cs from ht2, h3];unfold marksTo; rw [show (j - (f - 4)).toNat = 13 by omega]
 clear NX h3 Y eok em okl okt;cbv;refine E_br hE ?_ ?_ <;> intro g <;> cbv
 · have g : j ≤ f + 8 := by subst hE; have k := kI g; rw [show (aB Tryz.prog).bin .add .i64 f 8 = f + 8 from FB] at k; exact k
   have nb := aLL (cs := cs) h1 g fb.1 fb.2;refine E_nm hE fun n hn => ?_
   have hn : n = 2 * j + 1 := hn.trans (by subst hE; show aA .add .i64 (aA .mul .i64 2 j) 1 = _; rw [nb.2.2.2.1]; exact nb.2.2.2.2);cbv;refine E_br hE ?_ ?_ <;> intro g1 <;> cbv
   case' refine_1 =>
    have k1 : cs = true := g1;clear hn;refine E_nm hE fun n1 hn1 => ?_
    have hn1 : n1 = eM cs j := hn1.trans (by subst hE; exact nb.2.2.2.1.trans (by unfold eM; rw [k1]; rfl));cbv
   case' refine_2 =>
    have k1 : cs = false := g1;have hn1 : n = eM cs j := hn.trans (by rw [k1]; rfl);clear hn;generalize n = n1 at *
   all_goals
    rw [← hn1] at nb;have HT := HT _ hn1
    (apply E_callX hE (aFR n1 _ _ aa bc nb.1.1 nb.1.2 nb.2.1 haa hbc f5 f9); (case hf => rfl); (case hc => (cbv <;> trivial)); (case hle => exact u_up); all_goals (first | (intro m hm1; cbv) | (assumption)))
    have hm1 : m = hitN cs (fixA x) (fixB x) j := hm1.trans HT;refine E_br hE ?_ ?_ <;> intro g2 <;> cbv
    · have g2 : hitN cs (fixA x) (fixB x) j = false := by rw [← hm1]; subst hE; cases q : m; rfl; rw [q] at g2; exact absurd g2 (by decide)
      refine E_nm hE fun j1 hj1 => ?_
      have hj1 : j1 = j + 1 := hj1.trans (by subst hE; exact nb.2.2.1);have Q := NO g2 j1 g hj1;cbv;refine ⟨(j1, o), Q.1, Q.2, stLe rfl ?_⟩
      (repeat' (first | exact bC | apply aV | exact aM | exact aI | exact aQ))
    have g2 : hitN cs (fixA x) (fixB x) j = true := by rw [← hm1]; subst hE; cases q : m; rw [q] at g2; exact absurd g2 (by decide); rfl
    refine E_br hE ?_ ?_ <;> intro g3 <;> cbv
    case' refine_1 =>
     have g3 : j % 2 = 0 := by subst hE; have k := cA g3; exact (rem2 j).1 k
     (apply E_pcallX hE (aII); (case hm => rfl); (case hle => (repeat' (first | exact fW | apply dV | apply dR | exact aM | exact dU | exact aI | exact cV | exact aN | exact dY | exact cR | exact gG))); all_goals (first | (intro v hv; cbv) | (assumption)))
     have ov := OVt v hv
     (apply E_pcallX hE (zD ⟨_, _, _, _⟩ ov); (case hm => rfl); (case hle => exact u_up); all_goals (first | (intro p hp; cbv) | (assumption)))
     have hp : p = topN j := TOPt g3 v hv p hp
    case' refine_2 =>
     have g3 : ¬ j % 2 = 0 := by subst hE; have k := eql_f g3; exact fun q => k ((rem2 j).2 q)
     (apply E_pcallX hE (aIN); (case hm => rfl); (case hle => (repeat' (first | exact fW | apply dV | apply dR | exact aM | exact dU | exact aI | exact cV | exact aN | exact dY | exact cR | exact gG))); all_goals (first | (intro v hv; cbv) | (assumption)))
     have ov := OVf v hv
     (apply E_pcallX hE (zD ⟨_, _, _, _⟩ ov); (case hm => rfl); (case hle => exact u_up); all_goals (first | (intro p hp; cbv) | (assumption)))
     have hp : p = topN j := TOPf g3 v hv p hp
    all_goals
     have op := OP p hp
     (apply E_pcallX hE (aBR ⟨_, ⟨_, _, _, _⟩, ⟨_, _, _, _⟩⟩ ⟨_, ⟨_, _, _, _⟩, ⟨_, _, _, _⟩⟩ oo1 op); (case hm => rfl); (case hle => exact u_up); all_goals (first | (intro o2 ho2; cbv) | (assumption)))
     have ho2 : o2 = Iv.hull [o, p] := ho2;refine E_nm hE fun j1 hj1 => ?_
     have hj1 : j1 = j + 1 := hj1.trans (by subst hE; exact nb.2.2.1);have Q := YES g2 j1 g hj1 p hp o2 ho2;cbv;refine ⟨(j1, o2), Q.1, Q.2, stLe rfl ?_⟩
     (repeat' (first | exact bC | apply aV | exact aM | exact aI | exact aQ))
 · have g : ¬ j ≤ f + 8 := by subst hE; have k := bQ g; rw [show (aB Tryz.prog).bin .add .i64 f 8 = f + 8 from FB] at k; exact k
   rw [FIN g]; exact ⟨rfl, rfl, rfl, rfl, rfl, rfl, rfl, rfl, rfl, trivial⟩
end
section
open Go
theorem aUB : (ofN (Num.ofInt 0) false).has (Num.ofInt 0) = true ∧ (Iv.width (ofN (Num.ofInt 0) false)).cmp (Num.ofInt 1) < 0 := by decide +kernel
theorem aUC : (allN (Iv.iO (-1) 1) true).has (Num.ofInt 1) = true ∧ (allN (Iv.iO (-1) 1) true).has (Num.ofInt 0) = false := by decide +kernel
theorem aTJ : allN (Iv.iO 0 7) false = Iv.iO (-1) 1 := by decide +kernel
end
section
open Go Go.Proofs
attribute [local irreducible] Lb whN
theorem c_trSinOf (x : Iv) (o1 : x.lo.ok) (o2 : x.hi.ok) : ∃ t : Iv, t = allN x false ∧ aC Tryz.prog 16 [x.av] t.av := by
 refine ⟨_, rfl, ?_⟩;generalize hr : allN x false = r;refine callsA_o Tryz.func16 fun E hE lp hl => ?_
 cbv
 (refine E_px hE (nR false) ?_; intro t ht; cbv)
 have hlo : t.1 = whN piLoB := by have k : t = (whN piLoB, whN piHiB) := ht; rw [k]
 have hhi : t.2 = whN piHiB := by have k : t = (whN piLoB, whN piHiB) := ht; rw [k]
 (refine E_px hE (aQV ⟨_, ⟨_, _, _, _⟩, ⟨_, _, _, _⟩⟩ o1 o2 t.1 t.2 false hlo hhi) ?_; intro z hz; cbv)
 have k : z = r := Eq.trans hz hr;rw [← k]; exact ⟨rfl, rfl, rfl, rfl, rfl, rfl, rfl, rfl, rfl, trivial⟩
theorem c_trCosOf (x : Iv) (o1 : x.lo.ok) (o2 : x.hi.ok) : ∃ t : Iv, t = allN x true ∧ aC Tryz.prog 18 [x.av] t.av := by
 refine ⟨_, rfl, ?_⟩;generalize hr : allN x true = r;refine callsA_o Tryz.func18 fun E hE lp hl => ?_
 cbv
 (refine E_px hE (nR true) ?_; intro t ht; cbv)
 have hlo : t.1 = whN piLoB := by have k : t = (whN piLoB, whN piHiB) := ht; rw [k]
 have hhi : t.2 = whN piHiB := by have k : t = (whN piLoB, whN piHiB) := ht; rw [k]
 (refine E_px hE (aQV ⟨_, ⟨_, _, _, _⟩, ⟨_, _, _, _⟩⟩ o1 o2 t.1 t.2 true hlo hhi) ?_; intro z hz; cbv)
 have k : z = r := Eq.trans hz hr;rw [← k]; exact ⟨rfl, rfl, rfl, rfl, rfl, rfl, rfl, rfl, rfl, trivial⟩
theorem c_r12SinOf (x : Iv) (o1 : x.lo.ok) (o2 : x.hi.ok) : ∃ t : Iv, t = allN x false ∧ aC Tryz.prog 17 [x.av] t.av := by
 refine ⟨_, rfl, ?_⟩;generalize hr : allN x false = r;refine callsA_o Tryz.func17 fun E hE lp hl => ?_
 cbv
 (refine E_cx hE (aDS ⟨_, ⟨_, _, _, _⟩, ⟨_, _, _, _⟩⟩ o1 o2 false) ?_; intro z hz; cbv)
 have k : z = r := Eq.trans hz hr;rw [← k]; exact ⟨rfl, rfl, rfl, rfl, rfl, rfl, rfl, rfl, rfl, trivial⟩
theorem c_r12CosOf (x : Iv) (o1 : x.lo.ok) (o2 : x.hi.ok) : ∃ t : Iv, t = allN x true ∧ aC Tryz.prog 19 [x.av] t.av := by
 refine ⟨_, rfl, ?_⟩;generalize hr : allN x true = r;refine callsA_o Tryz.func19 fun E hE lp hl => ?_
 cbv
 (refine E_cx hE (aDS ⟨_, ⟨_, _, _, _⟩, ⟨_, _, _, _⟩⟩ o1 o2 true) ?_; intro z hz; cbv)
 have k : z = r := Eq.trans hz hr;rw [← k]; exact ⟨rfl, rfl, rfl, rfl, rfl, rfl, rfl, rfl, rfl, trivial⟩
theorem yJ : ∃ t : Bool, t = true ∧ aC Tryz.prog 15 [] (.bool (.s t)) := by
 refine ⟨true, rfl, ?_⟩;obtain ⟨a1, a2⟩ := aUB;obtain ⟨a3, a4⟩ := aUC;have a5 := aTJ;have q0 : ∀ v, v = Num.ofInt 0 → v.ok := fun v h => by rw [h]; exact Num.dA _
 have q1 : ∀ v, v = Iv.iO (-1) 1 → v.lo.ok ∧ v.hi.ok := fun v h => by rw [h]; exact Iv.zJ _ _
 have q2 : ∀ v, v = Iv.iO 0 7 → v.lo.ok ∧ v.hi.ok := fun v h => by rw [h]; exact Iv.zJ _ _
 have q3 : ∀ v, v = ofN (Num.ofInt 0) false → v.lo.ok ∧ v.hi.ok := fun v h => by rw [h]; exact aMP _ _
 refine callsA_o Tryz.func15 fun E hE lp hl => ?_
 cbv
 (refine E_cx hE (c_Of 0 (by decide) (by decide)) ?_; intro v hv; cbv)
 have ov := q0 v hv
 (refine E_cx hE (c_trSin ⟨_, _, _, _⟩ ov) ?_; intro s hs; cbv)
 have hs : s = ofN (Num.ofInt 0) false := by rw [← hv]; exact hs
 have os := q3 s hs
 (refine E_cx hE (aEY (-1) 1 (by decide) (by decide) (by decide) (by decide)) ?_; intro i1 hi1; cbv)
 have oi1 := q1 i1 hi1
 (refine E_cx hE (c_trCosOf ⟨_, ⟨_, _, _, _⟩, ⟨_, _, _, _⟩⟩ oi1.1 oi1.2) ?_; intro c hc; cbv)
 have hc : c = allN (Iv.iO (-1) 1) true := by rw [← hi1]; exact hc
 (refine E_cx hE (aEY 0 7 (by decide) (by decide) (by decide) (by decide)) ?_; intro i2 hi2; cbv)
 have oi2 := q2 i2 hi2
 (refine E_cx hE (c_trSinOf ⟨_, ⟨_, _, _, _⟩, ⟨_, _, _, _⟩⟩ oi2.1 oi2.2) ?_; intro w hw; cbv)
 have hw : w = allN (Iv.iO 0 7) false := by rw [← hi2]; exact hw
 clear hv hi1 hi2 oi1 oi2
 (refine E_px hE (c_Of 0 (by decide) (by decide)) ?_; intro z0 hz0; cbv)
 (refine E_px hE (c_ivHas ⟨_, ⟨_, _, _, _⟩, ⟨_, _, _, _⟩⟩ ⟨_, _, _, _⟩) ?_; intro h1 hh1; cbv)
 have hh1 : h1 = true := by have k : h1 = s.has z0 := hh1; rw [k, hs, hz0]; exact a1
 refine E_br_t hE hh1 ?_; cbv
 (refine E_px hE (aGO ⟨_, ⟨_, _, _, _⟩, ⟨_, _, _, _⟩⟩ os.1 os.2) ?_; intro wd hwd; cbv)
 (refine E_px hE (c_Of 1 (by decide) (by decide)) ?_; intro z1 hz1; cbv)
 (refine E_px hE (c_Cmp ⟨_, _, _, _⟩ ⟨_, _, _, _⟩) ?_; intro c1 hc1; cbv)
 have hc1 : c1 < 0 := by have k : c1 = wd.cmp z1 := hc1; rw [k, hz1, show wd = Iv.width s from hwd, hs]; exact a2
 refine E_br_t hE (show E.cmp .lss c1 0 = true by subst hE; exact Au hc1) ?_; cbv
 (refine E_px hE (c_Of 1 (by decide) (by decide)) ?_; intro z2 hz2; cbv)
 (refine E_px hE (c_ivHas ⟨_, ⟨_, _, _, _⟩, ⟨_, _, _, _⟩⟩ ⟨_, _, _, _⟩) ?_; intro h2 hh2; cbv)
 have hh2 : h2 = true := by have k : h2 = c.has z2 := hh2; rw [k, hc, hz2]; exact a3
 refine E_br_t hE hh2 ?_; cbv
 (refine E_px hE (c_Of 0 (by decide) (by decide)) ?_; intro z3 hz3; cbv)
 (refine E_px hE (c_ivHas ⟨_, ⟨_, _, _, _⟩, ⟨_, _, _, _⟩⟩ ⟨_, _, _, _⟩) ?_; intro h3 hh3; cbv)
 have hh3 : h3 = false := by have k : h3 = c.has z3 := hh3; rw [k, hc, hz3]; exact a4
 refine E_br_t hE (show E.bnot h3 = true by subst hE; rw [hh3]; rfl) ?_; cbv
 (refine E_px hE (aEY (-1) 1 (by decide) (by decide) (by decide) (by decide)) ?_; intro i3 hi3; cbv)
 exact (ivEq_of hE w i3).trans (Au (by rw [hw, hi3]; exact a5))
theorem aTB (x : Iv) (o1 : x.lo.ok) (o2 : x.hi.ok) : ∃ t : Bool, t = true ∧ aC Tryz.prog 3 [x.av] (.bool (.s t)) := by
 refine ⟨true, rfl, ?_⟩;refine callsA_o Tryz.func3 fun E hE lp hl => ?_
 cbv
 (refine E_cx hE yJ ?_; intro up hup; cbv)
 refine E_br_t hE hup ?_; cbv
 (refine E_px hE (c_trSinOf ⟨_, ⟨_, _, _, _⟩, ⟨_, _, _, _⟩⟩ o1 o2) ?_; intro a ha; cbv)
 (refine E_px hE (c_r12SinOf ⟨_, ⟨_, _, _, _⟩, ⟨_, _, _, _⟩⟩ o1 o2) ?_; intro b hb; cbv)
 refine E_br_t hE ((ivEq_of hE a b).trans (Au (ha.trans hb.symm))) ?_; cbv
 (refine E_px hE (c_trCosOf ⟨_, ⟨_, _, _, _⟩, ⟨_, _, _, _⟩⟩ o1 o2) ?_; intro c hc; cbv)
 (refine E_px hE (c_r12CosOf ⟨_, ⟨_, _, _, _⟩, ⟨_, _, _, _⟩⟩ o1 o2) ?_; intro d hd; cbv)
 exact (ivEq_of hE c d).trans (Au (hc.trans hd.symm))
end
section
open Go Go.ChangeShapes Go.WideShapes Go.RowKit
set_option maxRecDepth 100000
section
variable {H : Type} {enc : TypeId × Value → H} {w : World} {base : Nat} {spare : Nat → Bool} {held : Bool}
theorem wf_u64 {n : Int} (h : (Lit.int .u64 n).wf = true) : 0 ≤ n ∧ n < 18446744073709551616 := by
 simp only [Lit.wf, IntKind.min, IntKind.max, IntKind.signed, IntKind.bits, Aj] at h;have := h.1; have := h.2;simp at *
 omega
theorem wf_i64 {n : Int} (h : (Lit.int .i64 n).wf = true) : -9223372036854775808 ≤ n ∧ n < 9223372036854775808 := by
 simp only [Lit.wf, IntKind.min, IntKind.max, IntKind.signed, IntKind.bits, Aj] at h;have := h.1; have := h.2;simp at *
 omega
def Num.wf (n : Num) : Prop := n.ok ∧ (-9223372036854775808 ≤ n.e ∧ n.e < 9223372036854775808) ∧ (-9223372036854775808 ≤ n.kind ∧ n.kind < 9223372036854775808)
def Num.vals (n : Num) : List Value := [.int .i64 n.kind, .bool n.neg, .int .u64 n.m, .int .i64 n.e]
theorem vT {fuel : Nat} {cs : List Value} {x : DataW H × List MemPlace} (h : DataW.trod enc Tryz.prog w base spare held fuel 24 cs = some x) : ∃ n : Num, cs = n.vals ∧ n.wf := by
 obtain ⟨xs, m, rfl, _, hl, hxs, hf⟩ := DataW.trod_struct Tryz.underlying24 h;rw [show Tryz.prog.cellsOf 24 = 4 by kernel_rfl] at hl;obtain ⟨c0, c1, c2, c3, rfl⟩ : ∃ a b c d, cs = [a, b, c, d] := by
  rcases cs with _ | ⟨a, _ | ⟨b, _ | ⟨c, _ | ⟨d, _ | ⟨e, r⟩⟩⟩⟩⟩ <;> simp at hl
  exact ⟨a, b, c, d, rfl⟩
 have get : ∀ i, i < 4 → ∃ y, xs[i]? = some y := fun i hi => ⟨_, List.getElem?_eq_getElem (by rw [hxs]; exact hi)⟩
 obtain ⟨y0, e0⟩ := get 0 (by omega);obtain ⟨y1, e1⟩ := get 1 (by omega);obtain ⟨y2, e2⟩ := get 2 (by omega);obtain ⟨y3, e3⟩ := get 3 (by omega);have z3 : Tryz.prog.cellsOf 3 = 1 := by kernel_rfl
 have z4 : Tryz.prog.cellsOf 4 = 1 := by kernel_rfl
 have z22 : Tryz.prog.cellsOf 22 = 1 := by kernel_rfl
 have h0 : DataW.trod enc Tryz.prog w base spare held m 3 (([c0, c1, c2, c3].drop 0).take (Tryz.prog.cellsOf 3)) = some y0 := (hf 0 _ rfl).trans e0;have h1 : DataW.trod enc Tryz.prog w base spare held m 4 (([c0, c1, c2, c3].drop 1).take (Tryz.prog.cellsOf 4)) = some y1 := (hf 1 _ rfl).trans e1;have h2 : DataW.trod enc Tryz.prog w base spare held m 22 (([c0, c1, c2, c3].drop 2).take (Tryz.prog.cellsOf 22)) = some y2 := (hf 2 _ rfl).trans e2;have h3 : DataW.trod enc Tryz.prog w base spare held m 3 (([c0, c1, c2, c3].drop 3).take (Tryz.prog.cellsOf 3)) = some y3 := (hf 3 _ rfl).trans e3;rw [z3] at h0 h3;rw [z4] at h1;rw [z22] at h2;obtain ⟨n0, q0, _, w0⟩ := DataW.trod_int Tryz.underlying3 h0;obtain ⟨n1, q1, _⟩ := DataW.trod_bool Tryz.underlying4 h1;obtain ⟨n2, q2, _, w2⟩ := DataW.trod_int Tryz.underlying22 h2;obtain ⟨n3, q3, _, w3⟩ := DataW.trod_int Tryz.underlying3 h3;refine ⟨⟨n0, n1, n2, n3⟩, ?_, wf_u64 w2, wf_i64 w3, wf_i64 w0⟩;obtain ⟨rfl⟩ : c0 = _ := (List.cons.inj q0).1;obtain ⟨rfl⟩ : c1 = _ := (List.cons.inj q1).1;obtain ⟨rfl⟩ : c2 = _ := (List.cons.inj q2).1;obtain ⟨rfl⟩ : c3 = _ := (List.cons.inj q3).1;rfl
def Iv.vals (x : Iv) : List Value := .bool x.empty :: (x.lo.vals ++ x.hi.vals)
theorem aPQ {fuel : Nat} {cs : List Value} {x : DataW H × List MemPlace} (h : DataW.trod enc Tryz.prog w base spare held fuel 26 cs = some x) : ∃ v : Iv, cs = v.vals ∧ v.lo.wf ∧ v.hi.wf := by
 obtain ⟨xs, m, rfl, _, hl, hxs, hf⟩ := DataW.trod_struct Tryz.underlying26 h;rw [show Tryz.prog.cellsOf 26 = 9 by kernel_rfl] at hl;obtain ⟨c0, c1, c2, c3, c4, c5, c6, c7, c8, rfl⟩ : ∃ a b c d e f g i j, cs = [a, b, c, d, e, f, g, i, j] := by
  rcases cs with _ | ⟨a, _ | ⟨b, _ | ⟨c, _ | ⟨d, _ | ⟨e, _ | ⟨f, _ | ⟨g, _ | ⟨i, _ | ⟨j, _ | ⟨k, r⟩⟩⟩⟩⟩⟩⟩⟩⟩⟩ <;> simp at hl
  exact ⟨a, b, c, d, e, f, g, i, j, rfl⟩
 have get : ∀ i, i < 3 → ∃ y, xs[i]? = some y := fun i hi => ⟨_, List.getElem?_eq_getElem (by rw [hxs]; exact hi)⟩
 obtain ⟨y0, e0⟩ := get 0 (by omega);obtain ⟨y1, e1⟩ := get 1 (by omega);obtain ⟨y2, e2⟩ := get 2 (by omega);have z4 : Tryz.prog.cellsOf 4 = 1 := by kernel_rfl
 have z24 : Tryz.prog.cellsOf 24 = 4 := by kernel_rfl
 have h0 : DataW.trod enc Tryz.prog w base spare held m 4 (([c0, c1, c2, c3, c4, c5, c6, c7, c8].drop 0).take (Tryz.prog.cellsOf 4)) = some y0 := (hf 0 _ rfl).trans e0;have h1 : DataW.trod enc Tryz.prog w base spare held m 24 (([c0, c1, c2, c3, c4, c5, c6, c7, c8].drop 1).take (Tryz.prog.cellsOf 24)) = some y1 := (hf 1 _ rfl).trans e1;have h2 : DataW.trod enc Tryz.prog w base spare held m 24 (([c0, c1, c2, c3, c4, c5, c6, c7, c8].drop 5).take (Tryz.prog.cellsOf 24)) = some y2 := (hf 2 _ rfl).trans e2;rw [z4] at h0;rw [z24] at h1 h2;obtain ⟨b, q0, _⟩ := DataW.trod_bool Tryz.underlying4 h0;obtain ⟨lo, q1, w1⟩ := vT h1;obtain ⟨hi, q2, w2⟩ := vT h2;refine ⟨⟨b, lo, hi⟩, ?_, w1, w2⟩;show _ = .bool b :: (lo.vals ++ hi.vals);rw [← q1, ← q2, show c0 = .bool b from (List.cons.inj q0).1];rfl
theorem aSS (O : Nat → Prop) (w : World) (n : Num) (ys : Array Value) (h : ys.toList = n.vals) : RoV O w n.av (.agg ys) := by
 obtain ⟨l⟩ := ys;dsimp only at h;subst h;refine .agg _ _ rfl (fun j c hj => ?_)
 match j, hj with
 | 0, hj => simp at hj; subst hj; exact .int _ _ _ rfl
 | 1, hj => simp at hj; subst hj; exact .bool _ _ rfl
 | 2, hj => simp at hj; subst hj; exact .int _ _ _ rfl
 | 3, hj => simp at hj; subst hj; exact .int _ _ _ rfl
 | j + 4, hj => simp at hj
theorem aTM (O : Nat → Prop) (w : World) (n : Iv) (ys : Array Value) (h : ys.toList = n.vals) : RoV O w n.av (.agg ys) := by
 obtain ⟨l⟩ := ys;dsimp only at h;subst h;refine .agg _ _ rfl (fun j c hj => ?_)
 match j, hj with
 | 0, hj => simp at hj; subst hj; exact .bool _ _ rfl
 | 1, hj => simp at hj; subst hj; exact .int _ _ _ rfl
 | 2, hj => simp at hj; subst hj; exact .bool _ _ rfl
 | 3, hj => simp at hj; subst hj; exact .int _ _ _ rfl
 | 4, hj => simp at hj; subst hj; exact .int _ _ _ rfl
 | 5, hj => simp at hj; subst hj; exact .int _ _ _ rfl
 | 6, hj => simp at hj; subst hj; exact .bool _ _ rfl
 | 7, hj => simp at hj; subst hj; exact .int _ _ _ rfl
 | 8, hj => simp at hj; subst hj; exact .int _ _ _ rfl
 | j + 9, hj => simp at hj
theorem arg_num {r : Reach} {b0 : Nat} {v : Value} {d : DataW H} {ps : List MemPlace} (hval : Value.okWide Tryz.prog w r b0 24 v) (hd : DataW.Trod enc Tryz.prog w base spare held 24 v d ps) :
 ∃ n : Num, n.wf ∧ ∀ O w', RoV O w' n.av v := by
 obtain ⟨cs, rfl, _⟩ := okWide_struct Tryz.underlying24 hval;obtain ⟨fuel, hf⟩ := hd;obtain ⟨n, e, hw⟩ := vT hf;exact ⟨n, hw, fun O w' => aSS O w' n cs e⟩
theorem aUI {r : Reach} {b0 : Nat} {v : Value} {d : DataW H} {ps : List MemPlace} (hval : Value.okWide Tryz.prog w r b0 26 v) (hd : DataW.Trod enc Tryz.prog w base spare held 26 v d ps) :
 ∃ n : Iv, n.lo.wf ∧ n.hi.wf ∧ ∀ O w', RoV O w' n.av v := by
 obtain ⟨cs, rfl, _⟩ := okWide_struct Tryz.underlying26 hval;obtain ⟨fuel, hf⟩ := hd;obtain ⟨n, e, hw⟩ := aPQ hf;exact ⟨n, hw.1, hw.2, fun O w' => aTM O w' n cs e⟩
end
end
section
open Go Go.Proofs
attribute [local irreducible] Lb whN
theorem aPC (n : Num) (on : n.ok) (na : Bool) (a : List Int) (ab : Lb a) (la : a.length < 9223372036854775808) : ∃ t : Bool, t = true ∧ aC Tryz.prog 4 [n.av, .agg [.bool (.s na), .sli .u32 a]] (.bool (.s t)) := by
 refine ⟨_, rfl, ?_⟩;have sl : ∀ t : Bool × List Int, t = whN (serN (wv na a)) → t.2.length < 134217728 := by
  intro t h;rw [h];have := zV (wv na a);unfold wl at this;omega
 refine callsA_o Tryz.func4 fun E hE lp hl' => ?_
 cbv
 (refine E_cx hE yJ ?_; intro up hup; cbv)
 have b0 : E.bnot up = false := by subst hE; rw [hup]; rfl
 refine fD hE b0 ?_; cbv;have la1 : E.cmp .gtr (E.len a) 20 = false → a.length ≤ 1000 := by intro h; subst hE; have : ¬ (a.length : Int) > 20 := Ce h; omega
 refine E_br hE ?_ ?_ <;> intro g1 <;> cbv
 · exact hup
 have la2 := la1 g1
 (refine E_px hE (aCG na a ab la2) ?_; intro x hx; cbv)
 (refine E_px hE (c_r12Series na a ab la2) ?_; intro y hy; cbv)
 have xy : y = x := hy.trans hx.symm;have xl : x.2.length < 134217728 := sl x hx;clear hx hy;subst xy
 (refine E_px hE (aBO y.1 y.2 xl) ?_; intro same hs; cbv)
 refine E_br_t hE hs ?_; cbv
 (refine E_px hE (c_trSin ⟨_, _, _, _⟩ on) ?_; intro i1 h1; cbv)
 (refine E_px hE (c_r12Sin ⟨_, _, _, _⟩ on) ?_; intro i2 h2; cbv)
 refine E_br_t hE ((ivEq_of hE i1 i2).trans (Au (h1.trans h2.symm))) ?_; cbv
 (refine E_px hE (c_trCos ⟨_, _, _, _⟩ on) ?_; intro i3 h3; cbv)
 (refine E_px hE (c_r12Cos ⟨_, _, _, _⟩ on) ?_; intro i4 h4; cbv)
 exact (ivEq_of hE i3 i4).trans (Au (h3.trans h4.symm))
end
section
open Go Go.ChangeShapes Go.WideShapes Go.RowKit
set_option maxRecDepth 100000
theorem aDC {α : Type} {f : Nat → Option α} : ∀ (l : List Nat) (cs : List α), l.mapM f = some cs → cs.length = l.length ∧ ∀ (j i : Nat), l[j]? = some i → ∃ v, f i = some v ∧ cs[j]? = some v
 | [], cs, h => by
  simp at h;subst h;exact ⟨rfl, fun j i hj => by simp at hj⟩
 | x :: r, cs, h => by
  simp only [List.mapM_cons] at h;cases hx : f x with
  | none => rw [hx] at h; simp at h
  | some v =>
   cases hr : r.mapM f with
   | none => rw [hx, hr] at h; simp at h
   | some vs =>
    rw [hx, hr] at h;simp at h;subst h;obtain ⟨e1, e2⟩ := aDC r vs hr;refine ⟨by simp [e1], fun j i hj => ?_⟩;cases j with
    | zero => simp at hj; subst hj; exact ⟨v, hx, by simp⟩
    | succ j => simpa using e2 j i (by simpa using hj)
theorem yK {w : World} {base : Nat} {a : Addr} {n : Nat} {cs : List Value} (h : w.cells? base a n = some cs) : ∀ (j : Nat) (v : Value), cs[j]? = some v → w.cell? (a.add j) = some v := by
 unfold World.cells? at h;split at h
 · obtain ⟨e1, e2⟩ := aDC _ _ h;intro j v hj;have hlt : j < n := by
    have := (List.getElem?_eq_some_iff.1 hj).1
    simpa [e1] using this
   obtain ⟨u, hu, hu2⟩ := e2 j j (by simp [hlt]);rw [hj] at hu2;rw [Option.some.inj hu2]; exact hu
 · cases h
section
variable {H : Type} {enc : TypeId × Value → H} {w : World} {base : Nat} {spare : Nat → Bool} {held : Bool}
end
end
section
open Go Go.ChangeShapes Go.WideShapes Go.RowKit
set_option maxRecDepth 100000
section
variable {H : Type} {enc : TypeId × Value → H} {w : World} {base : Nat} {spare : Nat → Bool} {held : Bool}
theorem wf_u32 {n : Int} (h : (Lit.int .u32 n).wf = true) : 0 ≤ n ∧ n < 4294967296 := by
 simp only [Lit.wf, IntKind.min, IntKind.max, IntKind.signed, IntKind.bits, Aj] at h;have := h.1; have := h.2;simp at *
 omega
theorem aFU {fuel : Nat} {cs : List Value} {x : DataW H × List MemPlace} (h : DataW.trod enc Tryz.prog w base spare held fuel 30 cs = some x) :
 ∃ (l : List Int) (A : Option Addr) (cap : Nat), cs = [.slice A l.length cap] ∧ Lb l ∧ l.length < 9223372036854775808 ∧ RoV (fun k => k < w.heap.size) w (.sli .u32 l) (.slice A l.length cap) := by
 rcases DataW.trod_slice Tryz.underlying30 h with ⟨hcs, _⟩ | ⟨a, len, cap, elems, rest, n, _, hcs, _, _, hl, hm, hlen, hel, _⟩
 · exact ⟨[], none, 0, hcs, Lb.nil, by decide, RoV.sliN _ _ _⟩
 · rcases Ao len with h0 | h0
   · subst h0;exact ⟨[], some a, cap, hcs, Lb.nil, by decide, RoV.sliN _ _ _⟩
   rw [show Tryz.prog.cellsOf 97 = 1 by kernel_rfl] at hel;have key : ∀ i, i < len → ∃ x : Int, (0 ≤ x ∧ x < 4294967296) ∧ w.cells? base (a.add (i * 1)) 1 = some [.int .u32 x] := by
    intro i hi;have h := hel i hi;have hi' : i < elems.length := by omega
    rw [List.getElem?_eq_getElem hi', Option.bind_eq_some_iff] at h;obtain ⟨cs, h1, h2⟩ := h;obtain ⟨x, q, _, hw⟩ := DataW.trod_int Tryz.underlying97 h2;exact ⟨x, wf_u32 hw, by rw [h1, q]⟩
   let g : Nat → Int := fun i => if h : i < len then Classical.choose (key i h) else 0
   have hg : ∀ i, i < len → (0 ≤ g i ∧ g i < 4294967296) ∧ w.cells? base (a.add (i * 1)) 1 = some [.int .u32 (g i)] := by
    intro i h;show (0 ≤ (dite (i < len) _ _ : Int) ∧ (dite (i < len) _ _ : Int) < 4294967296) ∧ w.cells? base (a.add (i * 1)) 1 = some [.int .u32 (dite (i < len) _ _ : Int)];rw [dif_pos h];exact Classical.choose_spec (key i h)
   have c0 := (hg 0 h0).2;have blk : a.block < w.heap.size := World.cells?_block c0 (by decide);have sp : a.spot = none := World.cell?_spot (yK c0 0 (.int .u32 (g 0)) rfl);have len1 : ((List.range len).map g).length = len := by simp
   refine ⟨(List.range len).map g, some a, cap, by rw [len1]; exact hcs, ?_, ?_, ?_⟩
   · intro x hx;obtain ⟨i, hi, rfl⟩ := List.mem_map.1 hx;exact (hg i (Bl.1 hi)).1
   · rw [len1];have : cap ≤ maxLen := hm;have e : maxLen < 9223372036854775808 := by decide
     omega
   · refine RoV.sli _ _ a cap sp blk (by rw [len1]; exact hl) (fun i n hi => ?_);obtain ⟨hi1, hi2⟩ := List.getElem?_eq_some_iff.1 hi;have hi3 : i < len := by rw [len1] at hi1; exact hi1
     have en : n = g i := by rw [← hi2]; simp
     have cc := yK (hg i hi3).2 0 (.int .u32 (g i)) rfl;have ea : (a.add (i * 1)).add 0 = ⟨a.block, a.off + i, none⟩ := by
      have e0 : a = ⟨a.block, a.off, none⟩ := by
       obtain ⟨x, y, z⟩ := a;have sp' : z = none := sp;rw [sp']
      rw [e0];unfold Addr.add;by_cases h1 : i = 0 <;> simp [h1]
     rw [ea] at cc;rw [en]; exact cc
theorem aEU {fuel : Nat} {cs : List Value} {x : DataW H × List MemPlace} (h : DataW.trod enc Tryz.prog w base spare held fuel 32 cs = some x) :
 ∃ (b : Bool) (l : List Int) (A : Option Addr) (cap : Nat), cs = [.bool b, .slice A l.length cap] ∧ Lb l ∧ l.length < 9223372036854775808 ∧ RoV (fun k => k < w.heap.size) w (.sli .u32 l) (.slice A l.length cap) := by
 obtain ⟨xs, m, rfl, _, hl, hxs, hf⟩ := DataW.trod_struct Tryz.underlying32 h;rw [show Tryz.prog.cellsOf 32 = 2 by kernel_rfl] at hl;obtain ⟨c0, c1, rfl⟩ : ∃ a b, cs = [a, b] := by
  rcases cs with _ | ⟨a, _ | ⟨b, _ | ⟨c, r⟩⟩⟩ <;> simp at hl
  exact ⟨a, b, rfl⟩
 have get : ∀ i, i < 2 → ∃ y, xs[i]? = some y := fun i hi => ⟨_, List.getElem?_eq_getElem (by rw [hxs]; exact hi)⟩
 obtain ⟨y0, e0⟩ := get 0 (by omega);obtain ⟨y1, e1⟩ := get 1 (by omega);have z4 : Tryz.prog.cellsOf 4 = 1 := by kernel_rfl
 have z5 : Tryz.prog.cellsOf 30 = 1 := by kernel_rfl
 have h0 : DataW.trod enc Tryz.prog w base spare held m 4 (([c0, c1].drop 0).take (Tryz.prog.cellsOf 4)) = some y0 := (hf 0 _ rfl).trans e0;have h1 : DataW.trod enc Tryz.prog w base spare held m 30 (([c0, c1].drop 1).take (Tryz.prog.cellsOf 30)) = some y1 := (hf 1 _ rfl).trans e1;rw [z4] at h0;rw [z5] at h1;obtain ⟨b, q0, _⟩ := DataW.trod_bool Tryz.underlying4 h0;obtain ⟨l, A, cap, q1, r1, r2, r3⟩ := aFU h1;refine ⟨b, l, A, cap, ?_, r1, r2, r3⟩;obtain ⟨rfl⟩ : c0 = _ := (List.cons.inj q0).1;obtain ⟨rfl⟩ : c1 = _ := (List.cons.inj q1).1;rfl
theorem aTA {r : Reach} {b0 : Nat} {v : Value} {d : DataW H} {ps : List MemPlace} (hval : Value.okWide Tryz.prog w r b0 32 v) (hd : DataW.Trod enc Tryz.prog w base spare held 32 v d ps) :
 ∃ (b : Bool) (l : List Int), Lb l ∧ l.length < 9223372036854775808 ∧ RoV (fun k => k < w.heap.size) w (.agg [.bool (.s b), .sli .u32 l]) v := by
 obtain ⟨cs, rfl, _⟩ := okWide_struct Tryz.underlying32 hval;obtain ⟨fuel, hf⟩ := hd;obtain ⟨b, l, A, cap, e, r1, r2, r3⟩ := aEU hf;refine ⟨b, l, r1, r2, ?_⟩;obtain ⟨ys⟩ := cs;have e : ys = _ := e;subst e;refine .agg _ _ rfl (fun j c hj => ?_)
 match j, hj with
 | 0, hj => simp at hj; subst hj; exact .bool _ _ rfl
 | 1, hj => simp at hj; subst hj; exact r3
 | j + 2, hj => simp at hj
end
end
end Go.Proofs.YtmlcglmbjjmijaaGreatDoor.Ev
