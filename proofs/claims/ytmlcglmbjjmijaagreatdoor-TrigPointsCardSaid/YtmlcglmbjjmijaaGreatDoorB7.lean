/- Texts of the proof, joined and shortened. -/
import Derived.Test.YtmlcglmbjjmijaaGreatDoorB6
import Derived.Laws.Externs
set_option linter.unusedVariables false
set_option linter.unusedSimpArgs false
namespace Go.Proofs.YtmlcglmbjjmijaaGreatDoor.Ev
section
open Go Go.Proofs
attribute [local irreducible] Lb whN
set_option maxHeartbeats 1000000 in
theorem aPZ (na : Bool) (a : List Int) (nb : Bool) (b : List Int) (hna : na = true) (hnb : nb = false) (ha : Lb a) (hb : Lb b) (hla : a.length < 33554432) (hlb : b.length < 33554432) (hb0 : lv b ≠ 0) :
 ∃ t : (Bool × List Int) × (Bool × List Int), t = (whN (-(lv a : Int) / lv b), whN (-(lv a : Int) % lv b)) ∧
  aC Tryz.prog 141 [.agg [.bool (.s na), .sli .u32 a], .agg [.bool (.s nb), .sli .u32 b]] (.tup [.agg [.bool (.s t.1.1), .sli .u32 t.1.2], .agg [.bool (.s t.2.1), .sli .u32 t.2.2], .bool (.s true)]) := by
 subst hna hnb;refine ⟨_, rfl, ?_⟩;generalize hr : (whN (-(lv a : Int) / lv b), whN (-(lv a : Int) % lv b)) = r;have M := oG (lv a) (lv b) hb0;have r0 : lv a % lv b = 0 → whN (-((lv a / lv b : Nat) : Int)) = r.1 ∧ whN 0 = r.2 := by intro z; rw [← hr, (M.1 z).1, (M.1 z).2]; exact ⟨rfl, rfl⟩
 have r1 : lv a % lv b ≠ 0 → whN (-((lv a / lv b : Nat) : Int) + -1) = r.1 ∧ whN (-((lv a % lv b : Nat) : Int) + lv b) = r.2 := by intro z; rw [← hr, (M.2 z).1, (M.2 z).2]; exact ⟨rfl, rfl⟩
 have qn : ∀ (t : Bool × List Int), t = (true && decide (lv a / lv b ≠ 0), lim (lv a / lv b)) → t = whN (-((lv a / lv b : Nat) : Int)) := by
  intro t h; rw [h, cS, if_pos rfl]
 have rn : ∀ (t : Bool × List Int), t = (true && decide (lv a % lv b ≠ 0), lim (lv a % lv b)) → t = whN (-((lv a % lv b : Nat) : Int)) := by
  intro t h; rw [h, cS, if_pos rfl]
 have b1 : b.length < 67108864 := by omega
 have b2 : b.length < 134217728 := by omega
 have l1 : (lim (lv a / lv b)).length < 67108864 := by have := dC (Bo (lv a) (lv b)); have := aO ha; omega
 have l2 : (lim (lv a % lv b)).length < 67108864 := by have := dC (Nat.mod_le (lv a) (lv b)); have := aO ha; omega
 have l4 : (whN (-1)).2.length < 134217728 := Ah (fR (k := 1) (by decide)) (by decide);have wb : wv false b = lv b := rfl;have w1 : whN (-1) = (decide ((-1 : Int) < 0), lim (-1 : Int).natAbs) := by unfold whN; rfl
 clear hr M;refine callsA_o Tryz.func141 fun E hE lp hl' => ?_
 cbv
 (refine E_cx hE (oZ a b ha hb hla hlb) ?_; intro d hd; cbv)
 have hd : d = (lim (lv a / lv b), lim (lv a % lv b), true) := by
  have k : d = (if lv b = 0 then ([], [], false) else (lim (lv a / lv b), lim (lv a % lv b), true)) := hd;rw [k, if_neg hb0]
 have d1 : d.1 = lim (lv a / lv b) := by rw [hd]
 have d2 : d.2.1 = lim (lv a % lv b) := by rw [hd]
 have d3 : d.2.2 = true := by rw [hd]
 have db : Lb d.1 := by rw [d1]; exact lim_lb _
 have dc : Lb d.2.1 := by rw [d2]; exact lim_lb _
 have dl : d.1.length ≤ 268435456 := by rw [d1]; omega
 have dm : d.2.1.length ≤ 268435456 := by rw [d2]; omega
 refine E_br hE (fun g => ?_) (fun g => ?_)
 · exfalso;have k : E.bnot d.2.2 = true := g;rw [d3] at k; subst hE; cases k
 cbv
 (refine E_px hE (c_wMake _ d.1 db dl) ?_; intro x hx; cbv)
 (refine E_px hE (c_wMake _ d.2.1 dc dm) ?_; intro y hy; cbv)
 have ex := qn x (by have k : x = ((E.bnot (E.beq true false)) && decide (lv d.1 ≠ 0), lim (lv d.1)) := hx; rw [k, d1, aJ]; subst hE; rfl);have ey := rn y (by have k : y = (true && decide (lv d.2.1 ≠ 0), lim (lv d.2.1)) := hy; rw [k, d2, aJ]);have x2 : x.2 = lim (lv a / lv b) := by have k : x = ((E.bnot (E.beq true false)) && decide (lv d.1 ≠ 0), lim (lv d.1)) := hx; rw [k, d1, aJ]
 have y0 : y = (true && decide (lv a % lv b ≠ 0), lim (lv a % lv b)) := by have k : y = (true && decide (lv d.2.1 ≠ 0), lim (lv d.2.1)) := hy; rw [k, d2, aJ]
 have yb : Lb y.2 := by rw [y0]; exact lim_lb _
 have yl : y.2.length < 67108864 := by rw [y0]; exact l2
 have yl2 : y.2.length < 134217728 := by omega
 have xb : Lb x.2 := by rw [x2]; exact lim_lb _
 have xl : x.2.length < 134217728 := by rw [x2]; omega
 (refine E_px hE (c_wSign y.1 y.2 yb yl) ?_; intro s hs; cbv)
 (refine E_px hE (c_wSign false b hb b1) ?_; intro z hz; cbv)
 have hs : s = (if lv a % lv b = 0 then 0 else -1) := by
  have k : s = (if lv y.2 = 0 then 0 else if y.1 then -1 else 1) := hs;rw [k, y0, aJ];by_cases z : lv a % lv b = 0
  · rw [if_pos z, if_pos z]
  · rw [if_neg z, if_neg z, if_pos (by simp [z])]
 have hz : z = 1 := by
  have k : z = (if lv b = 0 then 0 else if false then -1 else 1) := hz;rw [k, if_neg hb0]; rfl
 refine E_br hE ?_ ?_ <;> intro g <;> cbv
 · have zz : lv a % lv b ≠ 0 := by
    intro z0;rw [if_pos z0] at hs;subst hE hz hs;exact absurd g (by decide)
   obtain ⟨f1, f2⟩ := r1 zz
   (refine E_px hE (c_wFrom (-1) (by decide) (by decide)) ?_; intro u hu; cbv)
   have hu : u = whN (-1) := by rw [hu, w1]
   have ub : Lb u.2 := by rw [hu]; exact whN_lb _
   have ul : u.2.length < 134217728 := by rw [hu]; exact l4
   (refine E_px hE (c_wAdd x.1 x.2 u.1 u.2 xb ub xl ul) ?_; intro v hv; cbv)
   (refine E_px hE (c_wAdd y.1 y.2 false b yb hb yl2 b2) ?_; intro w hw; cbv)
   have ev : v = r.1 := by
    have k : v = whN (wv x.1 x.2 + wv u.1 u.2) := hv;rw [k, ex, hu, dZ, dZ, f1]
   have ew : w = r.2 := by
    have k : w = whN (wv y.1 y.2 + wv false b) := hw;rw [k, ey, dZ, wb, f2]
   exact ⟨⟨congrArg Prod.fst ev, congrArg Prod.snd ev, trivial⟩, ⟨congrArg Prod.fst ew, congrArg Prod.snd ew, trivial⟩, trivial⟩
 · have zz : lv a % lv b = 0 := by
    by_cases z0 : lv a % lv b = 0
    · exact z0
    · rw [if_neg z0] at hs;subst hE hz hs;exact absurd g (by decide)
   obtain ⟨f1, f2⟩ := r0 zz;have ex2 : x = r.1 := ex.trans f1;have ey2 : y = r.2 := by rw [ey, zz]; exact f2
   exact ⟨⟨congrArg Prod.fst ex2, congrArg Prod.snd ex2, trivial⟩, ⟨congrArg Prod.fst ey2, congrArg Prod.snd ey2, trivial⟩, trivial⟩
theorem aRN (na : Bool) (a : List Int) (nb : Bool) (b : List Int) (hnb : nb = false) (ha : Lb a) (hb : Lb b) (hla : a.length < 33554432) (hlb : b.length < 33554432) (hb0 : lv b ≠ 0) :
 ∃ t : (Bool × List Int) × (Bool × List Int), t = (whN (wv na a / (lv b : Int)), whN (wv na a % (lv b : Int))) ∧
  aC Tryz.prog 141 [.agg [.bool (.s na), .sli .u32 a], .agg [.bool (.s nb), .sli .u32 b]] (.tup [.agg [.bool (.s t.1.1), .sli .u32 t.1.2], .agg [.bool (.s t.2.1), .sli .u32 t.2.2], .bool (.s true)]) := by
 subst hnb;cases na
 · obtain ⟨t, ht, h⟩ := aIL a b ha hb hla hlb hb0;exact ⟨t, ht, h⟩
 · obtain ⟨t, ht, h⟩ := aPZ true a false b rfl rfl ha hb hla hlb hb0;exact ⟨t, ht, h⟩
def wl (z : Int) : Nat := (whN z).2.length
theorem lO (z : Int) : wl z = (lim z.natAbs).length := by unfold wl whN; rfl
theorem aID {y z : Int} (h : y.natAbs ≤ z.natAbs) : wl y ≤ wl z := by rw [lO, lO]; exact dC h
theorem aAD (z : Int) : z.natAbs < 4294967296 ^ wl z := by
 have := bP (lim_lb z.natAbs);rwa [aJ, ← lO] at this
theorem dW {z : Int} {k : Nat} (h : z.natAbs < 4294967296 ^ k) : wl z ≤ k := by rw [lO]; exact lim_length_le h
theorem fU (x y : Int) : wl (x * y) ≤ wl x + wl y := by
 refine dW ?_;rw [Int.natAbs_mul, Ap];exact Nat.mul_lt_mul_of_lt_of_le (aAD x) (Dz (aAD y)) (Bg (n := wl y) (show 0 < 4294967296 by decide))
theorem kD (x : Int) : wl (-x) = wl x := by rw [lO, lO, Int.natAbs_neg]
theorem gB (x y : Int) : wl (x + y) ≤ max (wl x) (wl y) + 1 := by
 refine dW ?_;have a := Av (aAD x) (Ag (show 0 < 4294967296 by decide) (Nat.le_max_left (wl x) (wl y)));have b := Av (aAD y) (Ag (show 0 < 4294967296 by decide) (Nat.le_max_right (wl x) (wl y)));rw [Aq];have := Int.natAbs_add_le x y;omega
theorem lZ (x : Int) {n : Nat} (h : n ≠ 0) : wl (x / n) ≤ wl x := by
 refine aID ?_;obtain ⟨k, hk⟩ | ⟨k, hk⟩ : (∃ k : Nat, x = k) ∨ ∃ k : Nat, x = -(k : Int) := by
  rcases Int.le_total 0 x with z | z
  · exact .inl ⟨x.toNat, by omega⟩
  · exact .inr ⟨(-x).toNat, by omega⟩
 · rw [hk, ← Dp, Ck, Ck]; exact Bo _ _
 · rw [hk, Int.natAbs_neg, Ck];have M := oG k n h;by_cases z : k % n = 0
   · rw [(M.1 z).1, Int.natAbs_neg, Ck]; exact Bo _ _
   · rw [(M.2 z).1];clear hk M;have d := Ch k n;have : k / n + 1 ≤ k := by
      rcases Ar n 2 with g | g
      · have : n = 1 := by omega
        rw [this, Nat.mod_one] at z; exact absurd rfl z
      · have := Ai (k / n) g;omega
     exact Ae (Nat.le_of_eq (show (-((k / n : Nat) : Int) + -1).natAbs = k / n + 1 by obtain ⟨q, hq⟩ : ∃ q, k / n = q := ⟨_, rfl⟩; rw [hq]; clear this hq; omega)) this
theorem dL {a : Bool × List Int} {x : Int} (ha : a = whN x) : wv a.1 a.2 = x ∧ Lb a.2 ∧ a.2.length = wl x := by rw [ha]; exact ⟨dZ x, whN_lb x, rfl⟩
theorem z_wMul (x y : Int) (a b : Bool × List Int) (ha : a = whN x) (hb : b = whN y) (la : wl x ≤ 90000) (lb : wl y ≤ 90000) :
 ∃ t : Bool × List Int, t = whN (x * y) ∧ aC Tryz.prog 65 [.slc 2 (.l 2) (fun i => iM [[.bool (.s a.1), .sli .u32 a.2], [.bool (.s b.1), .sli .u32 b.2]] (Int.ofNat i))] (.agg [.bool (.s t.1), .sli .u32 t.2]) := by
 obtain ⟨va, ba, ea⟩ := dL ha;obtain ⟨vb, bb, eb⟩ := dL hb;obtain ⟨t, ht, h⟩ := aIE a.1 a.2 b.1 b.2 ba bb (by omega) (by omega);exact ⟨t, by rw [ht, mulN, va, vb], h⟩
theorem z_wAdd (x y : Int) (a b : Bool × List Int) (ha : a = whN x) (hb : b = whN y) (la : wl x ≤ 90000) (lb : wl y ≤ 90000) :
 ∃ t : Bool × List Int, t = whN (x + y) ∧ aC Tryz.prog 70 [.agg [.bool (.s a.1), .sli .u32 a.2], .agg [.bool (.s b.1), .sli .u32 b.2]] (.agg [.bool (.s t.1), .sli .u32 t.2]) := by
 obtain ⟨va, ba, ea⟩ := dL ha;obtain ⟨vb, bb, eb⟩ := dL hb;obtain ⟨t, ht, h⟩ := c_wAdd a.1 a.2 b.1 b.2 ba bb (by omega) (by omega);exact ⟨t, by rw [ht, va, vb], h⟩
theorem z_wSub (x y : Int) (a b : Bool × List Int) (ha : a = whN x) (hb : b = whN y) (la : wl x ≤ 90000) (lb : wl y ≤ 90000) :
 ∃ t : Bool × List Int, t = whN (x - y) ∧ aC Tryz.prog 163 [.agg [.bool (.s a.1), .sli .u32 a.2], .agg [.bool (.s b.1), .sli .u32 b.2]] (.agg [.bool (.s t.1), .sli .u32 t.2]) := by
 obtain ⟨va, ba, ea⟩ := dL ha;obtain ⟨vb, bb, eb⟩ := dL hb;obtain ⟨t, ht, h⟩ := aFK a.1 a.2 b.1 b.2 ba bb (by omega) (by omega);exact ⟨t, by rw [ht, va, vb], h⟩
theorem z_wNeg (x : Int) (a : Bool × List Int) (ha : a = whN x) (la : wl x ≤ 90000) :
 ∃ t : Bool × List Int, t = whN (-x) ∧ aC Tryz.prog 68 [.agg [.bool (.s a.1), .sli .u32 a.2]] (.agg [.bool (.s t.1), .sli .u32 t.2]) := by
 obtain ⟨va, ba, ea⟩ := dL ha;obtain ⟨t, ht, h⟩ := aAR a.1 a.2 ba (by omega);refine ⟨t, ?_, h⟩;rw [ht, cS, ← va];unfold wv;congr 1;cases a.1 <;> simp
theorem aSY (x : Int) (n : Nat) (hn : n ≠ 0) (a b : Bool × List Int) (ha : a = whN x) (hb : b = whN (n : Int)) (la : wl x ≤ 90000) (lb : wl n ≤ 90000) :
 ∃ t : (Bool × List Int) × (Bool × List Int), t = (whN (x / n), whN (x % n)) ∧ aC Tryz.prog 141 [.agg [.bool (.s a.1), .sli .u32 a.2], .agg [.bool (.s b.1), .sli .u32 b.2]] (.tup [.agg [.bool (.s t.1.1), .sli .u32 t.1.2], .agg [.bool (.s t.2.1), .sli .u32 t.2.2], .bool (.s true)]) := by
 obtain ⟨va, ba, ea⟩ := dL ha;obtain ⟨vb, bb, eb⟩ := dL hb;have b1 : b.1 = false := by rw [hb, bD]
 have b2 : lv b.2 = n := by rw [hb, bD]; exact aJ n
 obtain ⟨t, ht, h⟩ := aRN a.1 a.2 b.1 b.2 b1 ba bb (by omega) (by omega) (by omega);exact ⟨t, by rw [ht, va, b2], h⟩
theorem z_wCmp (x y : Int) (a b : Bool × List Int) (ha : a = whN x) (hb : b = whN y) (la : wl x ≤ 90000) (lb : wl y ≤ 90000) :
 ∃ t : Int, t = (if x < y then -1 else if y < x then 1 else 0) ∧ aC Tryz.prog 67 [.agg [.bool (.s a.1), .sli .u32 a.2], .agg [.bool (.s b.1), .sli .u32 b.2]] (.int .i64 (.s t)) := by
 obtain ⟨va, ba, ea⟩ := dL ha;obtain ⟨vb, bb, eb⟩ := dL hb;obtain ⟨t, ht, h⟩ := aSL a.1 a.2 b.1 b.2 ba bb (by omega) (by omega);exact ⟨t, by rw [ht, va, vb], h⟩
def serT (m t : Int) (k : Nat) : Int := -(t * m / piOne * m / piOne / ((2 * k * (2 * k + 1) : Nat) : Int))
def cH (m : Int) : Nat → Int × Int
 | 0 => (m, m)
 | k + 1 => (serT m (cH m k).1 (k + 1), (cH m k).2 + serT m (cH m k).1 (k + 1))
def serN (m : Int) : Int := if 4 * (piOne : Int) < m ∨ 4 * (piOne : Int) < -m then 0 else (cH m 40).2
theorem piOne_ne : piOne ≠ 0 := by decide +kernel
theorem kU : wl (piOne : Int) ≤ 7 := by rw [lO, Ck]; exact lim_length_le (by decide +kernel)
theorem aAN {m : Int} (h : ¬ (4 * (piOne : Int) < m ∨ 4 * (piOne : Int) < -m)) : wl m ≤ 7 := by
 refine dW ?_;have e : 4 * piOne < 4294967296 ^ 7 := by decide +kernel
 omega
theorem wl_t {m t : Int} {k : Nat} (hm : wl m ≤ 7) (hk : k ≠ 0) : wl (t * m) ≤ wl t + 7 ∧ wl (t * m / piOne) ≤ wl t + 7 ∧ wl (t * m / piOne * m) ≤ wl t + 14 ∧ wl (t * m / piOne * m / piOne) ≤ wl t + 14 ∧
 wl (t * m / piOne * m / piOne / ((2 * k * (2 * k + 1) : Nat) : Int)) ≤ wl t + 14 ∧ wl (serT m t k) ≤ wl t + 14 := by
 have a1 := fU t m;have a2 := lZ (t * m) piOne_ne;have a3 := fU (t * m / piOne) m;have a4 := lZ (t * m / piOne * m) piOne_ne;have n : 2 * k * (2 * k + 1) ≠ 0 := Nat.mul_ne_zero (by omega) (by omega);have a5 := lZ (t * m / piOne * m / piOne) n;refine ⟨by omega, by omega, by omega, by omega, by omega, ?_⟩;unfold serT; rw [kD]; omega
theorem aMX {m : Int} (hm : wl m ≤ 7) : ∀ k : Nat, wl (cH m k).1 ≤ 7 + 14 * k ∧ wl (cH m k).2 ≤ 7 + 15 * k
 | 0 => ⟨by show wl m ≤ _; omega, by show wl m ≤ _; omega⟩
 | k + 1 => by
  obtain ⟨h1, h2⟩ := aMX hm k;have h3 := (wl_t (t := (cH m k).1) (k := k + 1) hm (by omega)).2.2.2.2.2;have h4 := gB (cH m k).2 (serT m (cH m k).1 (k + 1));refine ⟨by show wl (serT m (cH m k).1 (k + 1)) ≤ _; omega, ?_⟩;show wl ((cH m k).2 + serT m (cH m k).1 (k + 1)) ≤ _;omega
theorem c_trDown (x : Int) (n : Nat) (hn : n ≠ 0) (a b : Bool × List Int) (ha : a = whN x) (hb : b = whN (n : Int)) (la : wl x ≤ 90000) (lb : wl n ≤ 90000) :
 ∃ t : Bool × List Int, t = whN (x / n) ∧ aC Tryz.prog 69 [.agg [.bool (.s a.1), .sli .u32 a.2], .agg [.bool (.s b.1), .sli .u32 b.2]] (.agg [.bool (.s t.1), .sli .u32 t.2]) := by
 refine ⟨_, rfl, ?_⟩;generalize hr : whN (x / n) = r;refine callsA_o Tryz.func69 fun E hE lp hl' => ?_
 cbv
 (refine E_cx hE (aSY x n hn a b ha hb la lb) ?_; intro d hd; cbv)
 have k : d.1 = r := by have k : d = (whN (x / n), whN (x % n)) := hd; rw [k, hr]
 exact ⟨congrArg Prod.fst k, congrArg Prod.snd k, trivial⟩
def trS (m s w : Bool × List Int) : Int × (Bool × List Int) × (Bool × List Int) → St
 | (k, t, u) => ⟨[(1, .ptr 0 2 (.l 0) 0), (2, .ptr 1 2 (.l 0) 0), (3, .ptr 2 2 (.l 0) 0), (5, .ptr 4 2 (.l 0) 0), (6, .ptr 5 2 (.l 0) 0), (7, .int .i64 (.s k))],
   [.rows true 2 [.bool (.l false), .s0] [[.bool (.s m.1), .sli .u32 m.2]], .rows true 2 [.bool (.l false), .s0] [[.bool (.l false), .s0]], .rows true 2 [.bool (.l false), .s0] [[.bool (.s s.1), .sli .u32 s.2]], .rows true 2 [.bool (.l false), .s0] [[.bool (.s w.1), .sli .u32 w.2]], .rows true 2 [.bool (.l false), .s0] [[.bool (.s t.1), .sli .u32 t.2]], .rows true 2 [.bool (.l false), .s0] [[.bool (.s u.1), .sli .u32 u.2]]]⟩
theorem gP {x y c : Int} (h : c = (if x < y then -1 else if y < x then 1 else 0)) : 0 < c ↔ y < x := by
 rw [h];by_cases h1 : x < y
 · rw [if_pos h1]; omega
 · rw [if_neg h1];by_cases h2 : y < x
   · rw [if_pos h2]; omega
   · rw [if_neg h2]; omega
structure SerB (z k : Int) (t u : Bool × List Int) (ms : Int × (Bool × List Int) × (Bool × List Int) → Nat) (ok : Int × (Bool × List Int) × (Bool × List Int) → Prop) : Prop where
 ht : t = whN (cH z (k.toNat - 1)).1
 hu : u = whN (cH z (k.toNat - 1)).2
 l1 : wl (cH z (k.toNat - 1)).1 ≤ 90000
 lu : wl (cH z (k.toNat - 1)).2 ≤ 90000
 l2 : wl ((cH z (k.toNat - 1)).1 * z) ≤ 90000
 l3 : wl ((cH z (k.toNat - 1)).1 * z / piOne) ≤ 90000
 l4 : wl ((cH z (k.toNat - 1)).1 * z / piOne * z) ≤ 90000
 l5 : wl ((cH z (k.toNat - 1)).1 * z / piOne * z / piOne) ≤ 90000
 l6 : wl ((cH z (k.toNat - 1)).1 * z / piOne * z / piOne / ((2 * k.toNat * (2 * k.toNat + 1) : Nat) : Int)) ≤ 90000
 l7 : wl (-((cH z (k.toNat - 1)).1 * z / piOne * z / piOne / ((2 * k.toNat * (2 * k.toNat + 1) : Nat) : Int))) ≤ 90000
 n0 : 2 * k.toNat * (2 * k.toNat + 1) ≠ 0
 nl : wl ((2 * k.toNat * (2 * k.toNat + 1) : Nat) : Int) ≤ 90000
 nv : IntKind.i64.wrap (IntKind.i64.wrap (2 * k) * IntKind.i64.wrap (IntKind.i64.wrap (2 * k) + 1)) = ((2 * k.toNat * (2 * k.toNat + 1) : Nat) : Int)
 nb : -9223372036854775808 ≤ ((2 * k.toNat * (2 * k.toNat + 1) : Nat) : Int) ∧ ((2 * k.toNat * (2 * k.toNat + 1) : Nat) : Int) < 9223372036854775808
 next : ∀ t' u', t' = whN (-((cH z (k.toNat - 1)).1 * z / piOne * z / piOne / ((2 * k.toNat * (2 * k.toNat + 1) : Nat) : Int))) → u' = whN ((cH z (k.toNat - 1)).2 + -((cH z (k.toNat - 1)).1 * z / piOne * z / piOne / ((2 * k.toNat * (2 * k.toNat + 1) : Nat) : Int))) →
  ms (IntKind.i64.wrap (k + 1), t', u') < ms (k, t, u) ∧ ok (IntKind.i64.wrap (k + 1), t', u')
theorem zO {z : Int} {m : Bool × List Int} (ok : Int × (Bool × List Int) × (Bool × List Int) → Prop)
 (eok : ∀ p, ok p ↔ (1 ≤ p.1 ∧ p.1 ≤ 41 ∧ p.2.1 = whN (cH z (p.1.toNat - 1)).1 ∧ p.2.2 = whN (cH z (p.1.toNat - 1)).2)) (h : m = whN z) : ok (1, m, m) :=
 (eok _).2 ⟨by show (1 : Int) ≤ 1; decide, by show (1 : Int) ≤ 41; decide, h, h⟩
theorem aEF {z : Int} {r : Bool × List Int} (ok : Int × (Bool × List Int) × (Bool × List Int) → Prop)
 (eok : ∀ p, ok p ↔ (1 ≤ p.1 ∧ p.1 ≤ 41 ∧ p.2.1 = whN (cH z (p.1.toNat - 1)).1 ∧ p.2.2 = whN (cH z (p.1.toNat - 1)).2)) (h : whN (cH z 40).2 = r) : ∀ k t u, ok (k, t, u) → ¬ k ≤ 40 → u = r := by
 intro k t u hk h2;obtain ⟨a, b, c, d⟩ := (eok _).1 hk;dsimp only at a b c d;rw [d, show k.toNat - 1 = 40 by omega, h]
theorem aCT {z : Int} (ms : Int × (Bool × List Int) × (Bool × List Int) → Nat) (em : ∀ p, ms p = (41 - p.1).toNat) (ok : Int × (Bool × List Int) × (Bool × List Int) → Prop)
 (eok : ∀ p, ok p ↔ (1 ≤ p.1 ∧ p.1 ≤ 41 ∧ p.2.1 = whN (cH z (p.1.toNat - 1)).1 ∧ p.2.2 = whN (cH z (p.1.toNat - 1)).2)) (hz : wl z ≤ 7) : ∀ k t u, ok (k, t, u) → k ≤ 40 → SerB z k t u ms ok := by
 intro k t u hk h2;obtain ⟨a, b, c, d⟩ := (eok _).1 hk;dsimp only at a b c d;obtain ⟨K, hK⟩ : ∃ K : Nat, k = ((K + 1 : Nat) : Int) := ⟨k.toNat - 1, by omega⟩
 have e1 : k.toNat = K + 1 := by omega
 have e2 : k.toNat - 1 = K := by omega
 have G := aMX hz K;have W := wl_t (t := (cH z K).1) (k := K + 1) hz (by omega);have N : 2 * (K + 1) * (2 * (K + 1) + 1) ≤ 80 * 81 := Di (by omega) (by omega);rw [e2] at c d;constructor;all_goals (try rw [e2]) <;> (try rw [e1])
 · exact c
 · exact d
 · omega
 · omega
 · omega
 · omega
 · omega
 · omega
 · omega
 · rw [kD]; omega
 · exact Nat.mul_ne_zero (by omega) (by omega)
 · refine Ae (dW (k := 1) ?_) (by decide);rw [Ck]; omega
 · rw [wi64_in (n := 2 * k) (by omega) (by omega), wi64_in (n := 2 * k + 1) (by omega) (by omega)];have e : 2 * k * (2 * k + 1) = ((2 * (K + 1) * (2 * (K + 1) + 1) : Nat) : Int) := by
    subst hK; simp only [Bp, Int.natCast_add, Int.natCast_one]; rfl
   rw [e, wi64_in (by omega) (by omega)]
 · omega
 · intro t' u' ht hu;rw [wi64_in (by omega) (by omega)];refine ⟨by rw [em, em]; dsimp only; omega, (eok _).2 ⟨by dsimp only; omega, by dsimp only; omega, ?_, ?_⟩⟩
   · dsimp only; rw [show (k + 1).toNat - 1 = K + 1 by omega, ht]; rfl
   · dsimp only; rw [show (k + 1).toNat - 1 = K + 1 by omega, hu]; rfl
set_option maxHeartbeats 4000000 in
theorem aCG (na : Bool) (a : List Int) (ab : Lb a) (al : a.length ≤ 1000) :
 ∃ t : Bool × List Int, t = whN (serN (wv na a)) ∧ aC Tryz.prog 21 [.agg [.bool (.s na), .sli .u32 a]] (.agg [.bool (.s t.1), .sli .u32 t.2]) := by
 refine ⟨_, rfl, ?_⟩;obtain ⟨z, hz⟩ : ∃ z, wv na a = z := ⟨_, rfl⟩
 rw [hz];generalize hr : whN (serN z) = r;obtain ⟨ms, em⟩ : ∃ ms : Int × (Bool × List Int) × (Bool × List Int) → Nat, ∀ p, ms p = (41 - p.1).toNat := ⟨_, fun _ => rfl⟩
 obtain ⟨ok, eok⟩ : ∃ ok : Int × (Bool × List Int) × (Bool × List Int) → Prop, ∀ p, ok p ↔ (1 ≤ p.1 ∧ p.1 ≤ 41 ∧ p.2.1 = whN (cH z (p.1.toNat - 1)).1 ∧ p.2.2 = whN (cH z (p.1.toNat - 1)).2) := ⟨_, fun _ => Bs⟩
 have al2 : a.length ≤ 268435456 := by omega
 have mz : ∀ m : Bool × List Int, m = (na && decide (lv a ≠ 0), lim (lv a)) → m = whN z := by
  intro m h; rw [h, cS, ← hz]; rfl
 have zl : wl z ≤ 1000 := by
  rw [lO, ← hz];have e : (wv na a).natAbs = lv a := by unfold wv; split <;> omega
  rw [e]; exact Ae (aO ab) al
 have zl2 : wl z ≤ 90000 := by omega
 have zn : wl (-z) ≤ 90000 := by rw [kD]; exact zl2
 have l4 : wl 4 ≤ 90000 := Ae (dW (k := 1) (by decide)) (by decide);have w4 : whN 4 = (decide ((4 : Int) < 0), lim (4 : Int).natAbs) := by unfold whN; rfl
 have lo : wl (piOne : Int) ≤ 90000 := Ae kU (by decide);have lm : wl ((piOne : Int) * 4) ≤ 90000 := by have := fU (piOne : Int) 4; have := kU; have : wl 4 ≤ 1 := dW (k := 1) (by decide); omega
 have F1 : (piOne : Int) * 4 < z → whN 0 = r := by intro h; rw [← hr]; unfold serN; rw [if_pos (.inl (by omega))]
 have F2 : (piOne : Int) * 4 < -z → whN 0 = r := by intro h; rw [← hr]; unfold serN; rw [if_pos (.inr (by omega))]
 have w0 : whN 0 = (false, []) := by unfold whN; rfl
 have F3 : ¬ (piOne : Int) * 4 < z → ¬ (piOne : Int) * 4 < -z → wl z ≤ 7 ∧ whN (cH z 40).2 = r := by
  intro h1 h2;have h : ¬ (4 * (piOne : Int) < z ∨ 4 * (piOne : Int) < -z) := by omega
  refine ⟨aAN h, ?_⟩;rw [← hr]; unfold serN; rw [if_neg h]
 clear hr;refine callsA_o Tryz.func21 fun E hE lp hl => ?_
 cbv
 (refine E_cx hE iW ?_; intro s hs; cbv)
 (refine E_cx hE (c_wMake na a ab al2) ?_; intro m hm_; cbv)
 have hm_ := mz m hm_
 (refine E_px hE (c_wFrom 4 (by decide) (by decide)) ?_; intro q hq; cbv)
 have hq : q = whN 4 := by rw [w4]; exact hq
 apply E_pcallX hE (z_wMul piOne 4 s q hs hq lo l4)
 case hm => rfl
 case hle => exact ⟨bK, trivial⟩
 intro w hw;cbv
 (refine E_px hE (z_wCmp z (piOne * 4) m w hm_ hw zl2 lm) ?_; intro c1 hc1; cbv)
 refine E_br hE ?_ ?_ <;> intro g1 <;> cbv
 · have g := (gP hc1).1 (show 0 < c1 by subst hE; exact cU g1);rw [← F1 g, w0]; exact ⟨rfl, rfl, trivial⟩
 (refine E_px hE (z_wNeg z m hm_ zl2) ?_; intro nm hnm; cbv)
 (refine E_px hE (z_wCmp (-z) (piOne * 4) nm w hnm hw zn lm) ?_; intro c2 hc2; cbv)
 refine E_br hE ?_ ?_ <;> intro g2 <;> cbv
 · have g := (gP hc2).1 (show 0 < c2 by subst hE; exact cU g2);rw [← F2 g, w0]; exact ⟨rfl, rfl, trivial⟩
 have n1 := fun h => (show ¬ 0 < c1 by subst hE; exact dB g1) ((gP hc1).2 h)
 have n2 := fun h => (show ¬ 0 < c2 by subst hE; exact dB g2) ((gP hc2).2 h)
 have F := F3 n1 n2;clear F1 F2 F3 n1 n2 g1 g2 hc1 hc2 hnm;have body := aCT ms em ok eok F.1;have stop := aEF ok eok F.2;have start := zO ok eok hm_;refine E_loop hE hG hm hl (trS m s w) ms ok ⟨(1, m, m), start, stLe rfl ?_⟩ ?_
 · (repeat' (first | exact bC | apply aV | exact aN | exact aM | exact aI | exact (rfl : sle2 (.ptr 0 2 (.l 0) 0) (.ptr 0 2 (.l 0) 0)) | exact (rfl : sle2 (.ptr 1 2 (.l 0) 0) (.ptr 1 2 (.l 0) 0)) | exact (rfl : sle2 (.ptr 2 2 (.l 0) 0) (.ptr 2 2 (.l 0) 0)) | exact (rfl : sle2 (.ptr 3 2 (.l 0) 0) (.ptr 3 2 (.l 0) 0)) | exact (rfl : sle2 (.ptr 4 2 (.l 0) 0) (.ptr 4 2 (.l 0) 0)) | exact (rfl : sle2 (.ptr 5 2 (.l 0) 0) (.ptr 5 2 (.l 0) 0))))
 rintro ⟨k, t, u⟩ hok;have B := body k t u hok;have sp := stop k t u hok;clear body stop start hok F;cbv;refine E_br hE ?_ ?_ <;> intro g <;> cbv
 · have g' : k ≤ 40 := by subst hE; exact kI g
   have B := B g';apply E_pcallX hE (z_wMul _ z t m B.ht hm_ B.l1 zl2)
   case hm => rfl
   case hle => exact ⟨bK, trivial⟩
   intro v1 hv1;cbv
   (refine E_px hE (c_trDown _ piOne piOne_ne v1 s hv1 hs B.l2 lo) ?_; intro v2 hv2; cbv)
   apply E_pcallX hE (z_wMul _ z v2 m hv2 hm_ B.l3 zl2)
   case hm => rfl
   case hle => exact ⟨bK, trivial⟩
   intro v3 hv3;cbv
   (refine E_px hE (c_trDown _ piOne piOne_ne v3 s hv3 hs B.l4 lo) ?_; intro v4 hv4; cbv)
   have en : (E.bin .mul .i64 (E.bin .mul .i64 2 k) (E.bin .add .i64 (E.bin .mul .i64 2 k) 1)) = ((2 * k.toNat * (2 * k.toNat + 1) : Nat) : Int) := by subst hE; exact B.nv
   have eb1 : -9223372036854775808 ≤ (E.bin .mul .i64 (E.bin .mul .i64 2 k) (E.bin .add .i64 (E.bin .mul .i64 2 k) 1)) := by rw [en]; exact B.nb.1
   have eb2 : (E.bin .mul .i64 (E.bin .mul .i64 2 k) (E.bin .add .i64 (E.bin .mul .i64 2 k) 1)) < 9223372036854775808 := by rw [en]; exact B.nb.2
   (refine E_px hE (c_wFrom (E.bin .mul .i64 (E.bin .mul .i64 2 k) (E.bin .add .i64 (E.bin .mul .i64 2 k) 1)) eb1 eb2) ?_; intro nn hnn; cbv)
   have hnn : nn = (decide ((E.bin .mul .i64 (E.bin .mul .i64 2 k) (E.bin .add .i64 (E.bin .mul .i64 2 k) 1)) < 0), lim (E.bin .mul .i64 (E.bin .mul .i64 2 k) (E.bin .add .i64 (E.bin .mul .i64 2 k) 1)).natAbs) := hnn;have hn2 : nn = whN ((2 * k.toNat * (2 * k.toNat + 1) : Nat) : Int) := by rw [hnn, en]; exact (bA _).symm
   (refine E_px hE (c_trDown _ _ B.n0 v4 nn hv4 hn2 B.l5 B.nl) ?_; intro v5 hv5; cbv)
   (refine E_px hE (z_wNeg _ v5 hv5 B.l6) ?_; intro v6 hv6; cbv)
   (refine E_cx hE (z_wAdd _ _ u v6 B.hu hv6 B.lu B.l7) ?_; intro v7 hv7; cbv)
   have q := B.next v6 v7 hv6 hv7
   refine E_nm hE (fun k' hk' => ?_); cbv;have hk' : k' = IntKind.i64.wrap (k + 1) := by subst hE; exact hk'
   rw [← hk'] at q;refine ⟨(k', v6, v7), q.1, q.2, stLe rfl ?_⟩
   · (repeat' (first | exact bC | apply aV | exact aN | exact aM | exact aI | exact (rfl : sle2 (.ptr 0 2 (.l 0) 0) (.ptr 0 2 (.l 0) 0)) | exact (rfl : sle2 (.ptr 1 2 (.l 0) 0) (.ptr 1 2 (.l 0) 0)) | exact (rfl : sle2 (.ptr 2 2 (.l 0) 0) (.ptr 2 2 (.l 0) 0)) | exact (rfl : sle2 (.ptr 3 2 (.l 0) 0) (.ptr 3 2 (.l 0) 0)) | exact (rfl : sle2 (.ptr 4 2 (.l 0) 0) (.ptr 4 2 (.l 0) 0)) | exact (rfl : sle2 (.ptr 5 2 (.l 0) 0) (.ptr 5 2 (.l 0) 0))))
 · have g' : ¬ k ≤ 40 := by subst hE; exact bQ g
   have sp := sp g';rw [← sp]; exact ⟨rfl, rfl, trivial⟩
theorem xB (x y : Int) (a b : Bool × List Int) (ha : a = whN x) (hb : b = whN y) (la : wl x ≤ 90000) (lb : wl y ≤ 90000) : ∃ t : Bool × List Int, t = whN (x * y) ∧ aC Tryz.prog 147 [.agg [.bool (.s a.1), .sli .u32 a.2], .agg [.bool (.s b.1), .sli .u32 b.2]] (.agg [.bool (.s t.1), .sli .u32 t.2]) := by
 obtain ⟨va, ba, ea⟩ := dL ha;obtain ⟨vb, bb, eb⟩ := dL hb;obtain ⟨t, ht, h⟩ := aIF a.1 a.2 b.1 b.2 ba bb (by omega) (by omega);exact ⟨t, by rw [ht, mulN, va, vb], h⟩
theorem z_rAdd (x y : Int) (a b : Bool × List Int) (ha : a = whN x) (hb : b = whN y) (la : wl x ≤ 90000) (lb : wl y ≤ 90000) : ∃ t : Bool × List Int, t = whN (x + y) ∧ aC Tryz.prog 79 [.agg [.bool (.s a.1), .sli .u32 a.2], .agg [.bool (.s b.1), .sli .u32 b.2]] (.agg [.bool (.s t.1), .sli .u32 t.2]) := by
 obtain ⟨va, ba, ea⟩ := dL ha;obtain ⟨vb, bb, eb⟩ := dL hb;obtain ⟨t, ht, h⟩ := c_r2Add a.1 a.2 b.1 b.2 ba bb (by omega) (by omega);exact ⟨t, by rw [ht, eP, va, vb], h⟩
theorem kY (x y : Int) (a b : Bool × List Int) (ha : a = whN x) (hb : b = whN y) (la : wl x ≤ 90000) (lb : wl y ≤ 90000) : ∃ t : Bool × List Int, t = whN (x - y) ∧ aC Tryz.prog 146 [.agg [.bool (.s a.1), .sli .u32 a.2], .agg [.bool (.s b.1), .sli .u32 b.2]] (.agg [.bool (.s t.1), .sli .u32 t.2]) := by
 obtain ⟨va, ba, ea⟩ := dL ha;obtain ⟨vb, bb, eb⟩ := dL hb;obtain ⟨t, ht, h⟩ := aAV a.1 a.2 b.1 b.2 ba bb (by omega) (by omega);exact ⟨t, by rw [ht, va, vb], h⟩
theorem z_rNeg (x : Int) (a : Bool × List Int) (ha : a = whN x) (la : wl x ≤ 90000) :
 ∃ t : Bool × List Int, t = whN (-x) ∧ aC Tryz.prog 76 [.agg [.bool (.s a.1), .sli .u32 a.2]] (.agg [.bool (.s t.1), .sli .u32 t.2]) := by
 obtain ⟨va, ba, ea⟩ := dL ha;obtain ⟨t, ht, h⟩ := uA a.1 a.2 ba (by omega);exact ⟨t, by rw [ht, va], h⟩
theorem z_rTimes (x : Int) (n : Int) (a : Bool × List Int) (ha : a = whN x) (la : wl x ≤ 90000) (h1 : -9223372036854775808 ≤ n) (h2 : n < 9223372036854775808) :
 ∃ t : Bool × List Int, t = whN (x * n) ∧ aC Tryz.prog 73 [.agg [.bool (.s a.1), .sli .u32 a.2], .int .i64 (.s n)] (.agg [.bool (.s t.1), .sli .u32 t.2]) := by
 obtain ⟨va, ba, ea⟩ := dL ha;obtain ⟨t, ht, h⟩ := c_r11Times a.1 a.2 n ba (by omega) h1 h2;exact ⟨t, by rw [ht, va], h⟩
theorem aPT (x : Int) (a : Bool × List Int) (ha : a = whN x) (la : wl x ≤ 90000) :
 ∃ t : Int, t = (if x < 0 then -1 else if 0 < x then 1 else 0) ∧ aC Tryz.prog 145 [.agg [.bool (.s a.1), .sli .u32 a.2]] (.int .i64 (.s t)) := by
 obtain ⟨va, ba, ea⟩ := dL ha;obtain ⟨t, ht, h⟩ := gM a.1 a.2 ba (by omega);refine ⟨t, ?_, h⟩;have e1 : a.1 = decide (x < 0) := by rw [ha, bA]
 have e2 : lv a.2 = x.natAbs := by rw [ha, bA]; exact aJ _
 rw [ht, e1, e2];by_cases z : x < 0
 · rw [if_neg (by omega), if_pos (by simp [z]), if_pos z]
 · by_cases z2 : 0 < x
   · rw [if_neg (by omega), if_neg (by simp [z]), if_neg z, if_pos z2]
   · rw [if_pos (by omega), if_neg z, if_neg z2]
theorem oU (x y : Int) (a b : Bool × List Int) (ha : a = whN x) (hb : b = whN y) (la : wl x ≤ 90000) (lb : wl y ≤ 90000) : ∃ t : Int, t = (if x < y then -1 else if y < x then 1 else 0) ∧ aC Tryz.prog 72 [.agg [.bool (.s a.1), .sli .u32 a.2], .agg [.bool (.s b.1), .sli .u32 b.2]] (.int .i64 (.s t)) := by
 refine ⟨_, rfl, ?_⟩;generalize hr : (if x < y then -1 else if y < x then 1 else 0 : Int) = r;have ld : wl (x - y) ≤ 90001 := by have := gB x (-y); rw [kD, ← Int.sub_eq_add_neg] at this; omega
 have fin : ∀ t : Int, t = (if x - y < 0 then -1 else if 0 < x - y then 1 else 0) → t = r := by
  intro t h;rw [h, ← hr];by_cases h1 : x < y
  · rw [if_pos h1, if_pos (by omega)]
  · by_cases h2 : y < x
    · rw [if_neg h1, if_pos h2, if_neg (by omega), if_pos (by omega)]
    · rw [if_neg h1, if_neg h2, if_neg (by omega), if_neg (by omega)]
 have sg : ∀ d : Bool × List Int, d = whN (x - y) → Lb d.2 ∧ d.2.length ≤ 268435456 ∧ ∀ t : Int, t = (if lv d.2 = 0 then 0 else if d.1 = true then -1 else 1) → t = r := by
  intro d hd;have e1 : d.1 = decide (x - y < 0) := by rw [hd, bA]
  have e2 : lv d.2 = (x - y).natAbs := by rw [hd, bA]; exact aJ _
  obtain ⟨_, b, l⟩ := dL hd;refine ⟨b, by omega, fun t ht => fin t ?_⟩;rw [ht, e1, e2];by_cases z : x - y < 0
  · rw [if_neg (by omega), if_pos (by simp [z]), if_pos z]
  · by_cases z2 : 0 < x - y
    · rw [if_neg (by omega), if_neg (by simp [z]), if_neg z, if_pos z2]
    · rw [if_pos (by omega), if_neg z, if_neg z2]
 clear hr fin;refine callsA_o Tryz.func72 fun E hE lp hl' => ?_
 cbv
 (refine E_cx hE (kY x y a b ha hb la lb) ?_; intro d hd; cbv)
 obtain ⟨d1, d2, d3⟩ := sg d hd
 (refine E_cx hE (gM d.1 d.2 d1 d2) ?_; intro s hs; cbv)
 have k := d3 s hs
 (try (refine E_nm hE fun s1 hs1 => ?_; cbv))
 first | exact k | exact hs1.trans k
theorem nI (x : Int) (n : Nat) (hn : n ≠ 0) (a b : Bool × List Int) (ha : a = whN x) (hb : b = whN (n : Int)) (la : wl x ≤ 90000) (lb : wl n ≤ 90000) :
 ∃ t : Bool × List Int, t = whN (x / n) ∧ aC Tryz.prog 77 [.agg [.bool (.s a.1), .sli .u32 a.2], .agg [.bool (.s b.1), .sli .u32 b.2]] (.agg [.bool (.s t.1), .sli .u32 t.2]) := by
 refine ⟨_, rfl, ?_⟩;generalize hr : whN (x / n) = r;obtain ⟨va, ba, ea⟩ := dL ha;obtain ⟨vb, bb, eb⟩ := dL hb;have b1 : b.1 = false := by rw [hb, bD]
 have b2 : lv b.2 = n := by rw [hb, bD]; exact aJ n
 have la2 : a.2.length ≤ 90000 := by omega
 have lb2 : b.2.length ≤ 90000 := by omega
 have b3 : lv b.2 ≠ 0 := by omega
 have fin : whN (wv a.1 a.2 / (lv b.2 : Int)) = r := by rw [va, b2, hr]
 clear hr;refine callsA_o Tryz.func77 fun E hE lp hl' => ?_
 cbv
 (refine E_cx hE (aIO a.1 a.2 b.1 b.2 b1 ba bb la2 lb2 b3) ?_; intro d hd; cbv)
 have k : d.1 = r := by have k : d = (whN (wv a.1 a.2 / (lv b.2 : Int)), whN (wv a.1 a.2 % (lv b.2 : Int))) := hd; rw [k]; exact fin
 exact ⟨congrArg Prod.fst k, congrArg Prod.snd k, trivial⟩
theorem z_scaled (x y : Int) (a b : Bool × List Int) (ha : a = whN x) (hb : b = whN y) (la : wl x ≤ 90000) (lb : wl y ≤ 90000) (lm : wl (x * y) ≤ 90000) : ∃ t : Bool × List Int, t = whN (x * y / piOne) ∧ aC Tryz.prog 75 [.agg [.bool (.s a.1), .sli .u32 a.2], .agg [.bool (.s b.1), .sli .u32 b.2]] (.agg [.bool (.s t.1), .sli .u32 t.2]) := by
 refine ⟨_, rfl, ?_⟩;generalize hr : whN (x * y / piOne) = r;refine yA hG hm Tryz.func75 (by kernel_rfl) ?_;have lo : wl (piOne : Int) ≤ 90000 := Ae kU (by decide);intro E hE lp hl';cbv
 (refine E_cx hE (xB x y a b ha hb la lb) ?_; intro p hp; cbv)
 (refine E_cx hE cZ ?_; intro s hs; cbv)
 (refine E_cx hE (nI _ piOne piOne_ne p s hp hs lm lo) ?_; intro d hd; cbv)
 have k : d = r := by rw [← hr]; exact hd
 rw [← k]; exact ⟨rfl, rfl, trivial⟩
def rsS (a m f : Bool × List Int) : Int × (Bool × List Int) × (Bool × List Int) → St := fun p =>
 ⟨[(1, .ptr 0 2 (.l 0) 0), (2, .ptr 1 2 (.l 0) 0), (3, .ptr 2 2 (.l 0) 0), (5, .ptr 4 2 (.l 0) 0), (6, .ptr 5 2 (.l 0) 0), (7, .int .i64 (.s p.1))],
   [.rows true 2 [.bool (.l false), .s0] [[.bool (.s a.1), .sli .u32 a.2]], .rows true 2 [.bool (.l false), .s0] [[.bool (.l false), .s0]], .rows true 2 [.bool (.l false), .s0] [[.bool (.s m.1), .sli .u32 m.2]], .rows true 2 [.bool (.l false), .s0] [[.bool (.s f.1), .sli .u32 f.2]], .rows true 2 [.bool (.l false), .s0] [[.bool (.s p.2.1.1), .sli .u32 p.2.1.2]], .rows true 2 [.bool (.l false), .s0] [[.bool (.s p.2.2.1), .sli .u32 p.2.2.2]]]⟩
set_option maxHeartbeats 4000000 in
theorem c_r12Series (na : Bool) (a : List Int) (ab : Lb a) (al : a.length ≤ 1000) :
 ∃ t : Bool × List Int, t = whN (serN (wv na a)) ∧ aC Tryz.prog 22 [.agg [.bool (.s na), .sli .u32 a]] (.agg [.bool (.s t.1), .sli .u32 t.2]) := by
 refine ⟨_, rfl, ?_⟩;obtain ⟨z, hz⟩ : ∃ z, wv na a = z := ⟨_, rfl⟩
 rw [hz];generalize hr : whN (serN z) = r;obtain ⟨ms, em⟩ : ∃ ms : Int × (Bool × List Int) × (Bool × List Int) → Nat, ∀ p, ms p = (41 - p.1).toNat := ⟨_, fun _ => rfl⟩
 obtain ⟨ok, eok⟩ : ∃ ok : Int × (Bool × List Int) × (Bool × List Int) → Prop, ∀ p, ok p ↔ (1 ≤ p.1 ∧ p.1 ≤ 41 ∧ p.2.1 = whN (cH z (p.1.toNat - 1)).1 ∧ p.2.2 = whN (cH z (p.1.toNat - 1)).2) := ⟨_, fun _ => Bs⟩
 have al2 : a.length ≤ 268435456 := by omega
 have zl : wl z ≤ 1000 := by
  rw [lO, ← hz];have e : (wv na a).natAbs = lv a := by unfold wv; split <;> omega
  rw [e]; exact Ae (aO ab) al
 have zl2 : wl z ≤ 90000 := by omega
 have mz : ∀ m : Bool × List Int, m = (na && decide (lv a ≠ 0), lim (lv a)) → m = whN z ∧ Lb m.2 ∧ m.2.length ≤ 268435456 ∧ lv m.2 = z.natAbs := by
  intro m h;have e : m = whN z := by rw [h, cS, ← hz]; rfl
  obtain ⟨_, b, l⟩ := dL e;exact ⟨e, b, by omega, by rw [e, bA]; exact aJ _⟩
 have fz : ∀ (k : Nat) (f : Bool × List Int), k = z.natAbs → f = (false && decide (k ≠ 0), lim k) → f = whN (z.natAbs : Int) := by
  intro k f hk h; rw [h, hk, bD]; rfl
 have fl : wl (z.natAbs : Int) ≤ 90000 := by have := aID (y := (z.natAbs : Int)) (z := z) (by rw [Ck]; exact Ba _); omega
 have lo : wl (piOne : Int) ≤ 90000 := Ae kU (by decide);have lm : wl ((piOne : Int) * 4) ≤ 90000 := by have := fU (piOne : Int) 4; have := kU; have : wl 4 ≤ 1 := dW (k := 1) (by decide); omega
 have F1 : (piOne : Int) * 4 < (z.natAbs : Int) → whN 0 = r := by intro h; rw [← hr]; unfold serN; rw [if_pos (by omega)]
 have w0 : whN 0 = (false, []) := by unfold whN; rfl
 have F3 : ¬ (piOne : Int) * 4 < (z.natAbs : Int) → wl z ≤ 7 ∧ whN (cH z 40).2 = r := by
  intro h1;have h : ¬ (4 * (piOne : Int) < z ∨ 4 * (piOne : Int) < -z) := by omega
  refine ⟨aAN h, ?_⟩;rw [← hr]; unfold serN; rw [if_neg h]
 clear hr;refine callsA_o Tryz.func22 fun E hE lp hl => ?_
 cbv
 (refine E_cx hE (c_r2Make na a ab al2) ?_; intro m hm_; cbv)
 obtain ⟨hm2, m1, m2, m3⟩ := mz m hm_
 (refine E_cx hE (c_r2Make false m.2 m1 m2) ?_; intro f hf; cbv)
 have hf := fz _ f m3 hf
 (refine E_px hE cZ ?_; intro s hs; cbv)
 (refine E_px hE (z_rTimes piOne 4 s hs lo (by decide) (by decide)) ?_; intro w hw; cbv)
 (refine E_px hE (oU _ (piOne * 4) f w hf hw fl lm) ?_; intro c1 hc1; cbv)
 refine E_br hE ?_ ?_ <;> intro g1 <;> cbv
 · have g := (gP hc1).1 (show 0 < c1 by subst hE; exact cU g1);rw [← F1 g, w0]; exact ⟨rfl, rfl, trivial⟩
 have n1 := fun h => (show ¬ 0 < c1 by subst hE; exact dB g1) ((gP hc1).2 h)
 have F := F3 n1;clear F1 F3 n1 g1 hc1 fz mz;have body := aCT ms em ok eok F.1;have stop := aEF ok eok F.2;have start := zO ok eok hm2;refine E_loopM hE hG hm hl (rsS (na, a) m f) ms ok ⟨(1, m, m), [0, 1, 2, 3, 4, 5], start, bV (by repeat' (first | exact trivial | exact rfl | apply And.intro)) rfl rfl rfl (by repeat' (first | exact trivial | exact rfl | apply And.intro)) (by (repeat' (first | exact bW | refine bE ?_ rfl ?_ | exact aM | exact aI | exact aQ | exact lR | exact (rfl : sle2 _ _))))⟩ ?_;rintro ⟨k, t, u⟩ hok;have B := body k t u hok;have sp := stop k t u hok;clear body stop start hok F;cbv;refine E_br hE ?_ ?_ <;> intro g <;> cbv
 · have g' : k ≤ 40 := by subst hE; exact kI g
   have B := B g'
   (refine E_cx hE (z_scaled _ z t m B.ht hm2 B.l1 zl2 B.l2) ?_; intro v1 hv1; cbv)
   (refine E_cx hE (z_scaled _ z v1 m hv1 hm2 B.l3 zl2 B.l4) ?_; intro v2 hv2; cbv)
   have en : (E.bin .mul .i64 (E.bin .mul .i64 2 k) (E.bin .add .i64 (E.bin .mul .i64 2 k) 1)) = ((2 * k.toNat * (2 * k.toNat + 1) : Nat) : Int) := by subst hE; exact B.nv
   have eb1 : -9223372036854775808 ≤ (E.bin .mul .i64 (E.bin .mul .i64 2 k) (E.bin .add .i64 (E.bin .mul .i64 2 k) 1)) := by rw [en]; exact B.nb.1
   have eb2 : (E.bin .mul .i64 (E.bin .mul .i64 2 k) (E.bin .add .i64 (E.bin .mul .i64 2 k) 1)) < 9223372036854775808 := by rw [en]; exact B.nb.2
   (refine E_px hE (c_r2From (E.bin .mul .i64 (E.bin .mul .i64 2 k) (E.bin .add .i64 (E.bin .mul .i64 2 k) 1)) eb1 eb2) ?_; intro nn hnn; cbv)
   have hn2 : nn = whN ((2 * k.toNat * (2 * k.toNat + 1) : Nat) : Int) := by
    have k1 : nn = whN (E.bin .mul .i64 (E.bin .mul .i64 2 k) (E.bin .add .i64 (E.bin .mul .i64 2 k) 1)) := hnn;rw [k1, en]
   (refine E_px hE (nI _ _ B.n0 v2 nn hv2 hn2 B.l5 B.nl) ?_; intro v5 hv5; cbv)
   (refine E_px hE (z_rNeg _ v5 hv5 B.l6) ?_; intro v6 hv6; cbv)
   (refine E_cx hE (z_rAdd _ _ u v6 B.hu hv6 B.lu B.l7) ?_; intro v7 hv7; cbv)
   have q := B.next v6 v7 hv6 hv7
   refine E_nm hE (fun k' hk' => ?_); cbv;have hk' : k' = IntKind.i64.wrap (k + 1) := by subst hE; exact hk'
   rw [← hk'] at q;exact ⟨(k', v6, v7), [0, 1, 2, 3, 4, 5], q.1, q.2, bV (by repeat' (first | exact trivial | exact rfl | apply And.intro)) rfl rfl rfl (by repeat' (first | exact trivial | exact rfl | apply And.intro)) (by (repeat' (first | exact bW | refine bE ?_ rfl ?_ | exact aM | exact aI | exact aQ | exact lR | exact (rfl : sle2 _ _))))⟩
 · have g' : ¬ k ≤ 40 := by subst hE; exact bQ g
   have sp := sp g';rw [← sp]; exact ⟨rfl, rfl, trivial⟩
theorem uB {x y c : Int} (h : c = (if x < y then -1 else if y < x then 1 else 0)) : c < 0 ↔ x < y := by
 rw [h];by_cases h1 : x < y
 · rw [if_pos h1]; omega
 · rw [if_neg h1];by_cases h2 : y < x
   · rw [if_pos h2]; omega
   · rw [if_neg h2]; omega
theorem aPO (x y : Int) (a b : Bool × List Int) (ha : a = whN x) (hb : b = whN y) (la : wl x ≤ 80000) (lb : wl y ≤ 80000) :
 ∃ t : (Bool × List Int) × (Bool × List Int), (t.1 = whN (-y) ∧ t.2 = whN (-x)) ∧ aC Tryz.prog 199 [.agg [.bool (.s a.1), .sli .u32 a.2, .bool (.s b.1), .sli .u32 b.2]] (.agg [.bool (.s t.1.1), .sli .u32 t.1.2, .bool (.s t.2.1), .sli .u32 t.2.2]) := by
 refine ⟨(whN (-y), whN (-x)), ⟨rfl, rfl⟩, ?_⟩;generalize hr1 : whN (-y) = r1;generalize hr2 : whN (-x) = r2;have la2 : wl x ≤ 90000 := by omega
 have lb2 : wl y ≤ 90000 := by omega
 refine callsA_o Tryz.func199 fun E hE lp hl => ?_
 cbv
 (refine E_px hE (z_wNeg y b hb lb2) ?_; intro u hu; cbv)
 (refine E_px hE (z_wNeg x a ha la2) ?_; intro v hv; cbv)
 have ku : u = r1 := by rw [← hr1]; exact hu
 have kv : v = r2 := by rw [← hr2]; exact hv
 rw [← ku, ← kv]; exact ⟨rfl, rfl, rfl, rfl, trivial⟩
theorem c_trBound (x : Int) (a : Bool × List Int) (ha : a = whN x) (la : wl x ≤ 80000) :
 ∃ t : Bool × List Int, t = whN (if (piOne : Int) < x then piOne else if x < -(piOne : Int) then -piOne else x) ∧ aC Tryz.prog 200 [.agg [.bool (.s a.1), .sli .u32 a.2]] (.agg [.bool (.s t.1), .sli .u32 t.2]) := by
 refine ⟨_, rfl, ?_⟩;generalize hr : whN (if (piOne : Int) < x then piOne else if x < -(piOne : Int) then -piOne else x) = r;have la2 : wl x ≤ 90000 := by omega
 have lo : wl (piOne : Int) ≤ 90000 := Ae kU (by decide);have ln : wl (-(piOne : Int)) ≤ 90000 := by rw [kD]; exact lo
 have f1 : (piOne : Int) < x → whN piOne = r := by intro h; rw [← hr, if_pos h]
 have f2 : ¬ (piOne : Int) < x → x < -(piOne : Int) → whN (-piOne) = r := by intro h g; rw [← hr, if_neg h, if_pos g]
 have f3 : ¬ (piOne : Int) < x → ¬ x < -(piOne : Int) → whN x = r := by intro h g; rw [← hr, if_neg h, if_neg g]
 clear hr;refine callsA_o Tryz.func200 fun E hE lp hl => ?_
 cbv
 (refine E_cx hE iW ?_; intro s hs; cbv)
 (refine E_cx hE (z_wCmp x piOne a s ha hs la2 lo) ?_; intro c1 hc1; cbv)
 refine E_br hE ?_ ?_ <;> intro g1 <;> cbv
 · have g := (gP hc1).1 (show 0 < c1 by subst hE; exact cU g1);have k : s = r := by rw [← f1 g]; exact hs
   rw [← k]; exact ⟨rfl, rfl, trivial⟩
 have n1 := fun h => (show ¬ 0 < c1 by subst hE; exact dB g1) ((gP hc1).2 h)
 (refine E_px hE (z_wNeg piOne s hs lo) ?_; intro ng hng; cbv)
 (refine E_px hE (z_wCmp x (-piOne) a ng ha hng la2 ln) ?_; intro c2 hc2; cbv)
 refine E_br hE ?_ ?_ <;> intro g2 <;> cbv
 · have g := (uB hc2).1 (show c2 < 0 by subst hE; exact bF g2)
   (refine E_cx hE (z_wNeg piOne s hs lo) ?_; intro v hv; cbv)
   have k : v = r := by rw [← f2 n1 g]; exact hv
   rw [← k]; exact ⟨rfl, rfl, trivial⟩
 have n2 := fun h => (show ¬ c2 < 0 by subst hE; exact aW g2) ((uB hc2).2 h)
 have k : a = r := by rw [← f3 n1 n2]; exact ha
 rw [← k]; exact ⟨rfl, rfl, trivial⟩
theorem cY (x l h : Int) (a b c : Bool × List Int) (ha : a = whN x) (hb : b = whN l) (hc : c = whN h) (la : wl x ≤ 80000) (lb : wl l ≤ 80000) (lc : wl h ≤ 80000) :
 ∃ t : Bool × List Int, t = whN (if x < l then l else if h < x then h else x) ∧ aC Tryz.prog 201 [.agg [.bool (.s a.1), .sli .u32 a.2], .agg [.bool (.s b.1), .sli .u32 b.2], .agg [.bool (.s c.1), .sli .u32 c.2]] (.agg [.bool (.s t.1), .sli .u32 t.2]) := by
 refine ⟨_, rfl, ?_⟩;generalize hr : whN (if x < l then l else if h < x then h else x) = r;have la2 : wl x ≤ 90000 := by omega
 have lb2 : wl l ≤ 90000 := by omega
 have lc2 : wl h ≤ 90000 := by omega
 have f1 : x < l → whN l = r := by intro h; rw [← hr, if_pos h]
 have f2 : ¬ x < l → h < x → whN h = r := by intro q g; rw [← hr, if_neg q, if_pos g]
 have f3 : ¬ x < l → ¬ h < x → whN x = r := by intro q g; rw [← hr, if_neg q, if_neg g]
 clear hr;refine callsA_o Tryz.func201 fun E hE lp hl => ?_
 cbv
 (refine E_cx hE (oU x l a b ha hb la2 lb2) ?_; intro c1 hc1; cbv)
 refine E_br hE ?_ ?_ <;> intro g1 <;> cbv
 · have g := (uB hc1).1 (show c1 < 0 by subst hE; exact bF g1);have k : b = r := by rw [← f1 g]; exact hb
   rw [← k]; exact ⟨rfl, rfl, trivial⟩
 have n1 := fun h => (show ¬ c1 < 0 by subst hE; exact aW g1) ((uB hc1).2 h)
 (refine E_cx hE (oU x h a c ha hc la2 lc2) ?_; intro c2 hc2; cbv)
 refine E_br hE ?_ ?_ <;> intro g2 <;> cbv
 · have g := (gP hc2).1 (show 0 < c2 by subst hE; exact cU g2);have k : c = r := by rw [← f2 n1 g]; exact hc
   rw [← k]; exact ⟨rfl, rfl, trivial⟩
 have n2 := fun h => (show ¬ 0 < c2 by subst hE; exact dB g2) ((gP hc2).2 h)
 have k : a = r := by rw [← f3 n1 n2]; exact ha
 rw [← k]; exact ⟨rfl, rfl, trivial⟩
theorem aQB (x : Int) (a : Bool × List Int) (ha : a = whN x) (la : wl x ≤ 90000) :
 ∃ t : Int, t = (if x < 0 then -1 else if 0 < x then 1 else 0) ∧ aC Tryz.prog 139 [.agg [.bool (.s a.1), .sli .u32 a.2]] (.int .i64 (.s t)) := by
 obtain ⟨va, ba, ea⟩ := dL ha;obtain ⟨t, ht, h⟩ := c_wSign a.1 a.2 ba (by omega);refine ⟨t, ?_, h⟩;have e1 : a.1 = decide (x < 0) := by rw [ha, bA]
 have e2 : lv a.2 = x.natAbs := by rw [ha, bA]; exact aJ _
 rw [ht, e1, e2];by_cases z : x < 0
 · rw [if_neg (by omega), if_pos (by simp [z]), if_pos z]
 · by_cases z2 : 0 < x
   · rw [if_neg (by omega), if_neg (by simp [z]), if_neg z, if_pos z2]
   · rw [if_pos (by omega), if_neg z, if_neg z2]
set_option maxHeartbeats 1000000 in
theorem aLZ (x y q l h : Int) (a b qq c d : Bool × List Int) (ha : a = whN x) (hb : b = whN y) (hq : qq = whN q) (hc : c = whN l) (hd : d = whN h) (la : wl x ≤ 80000) (lb : wl y ≤ 80000) (lq : wl q ≤ 30000) (lc : wl l ≤ 30000) (ld : wl h ≤ 30000) :
 ∃ t : (Bool × List Int) × (Bool × List Int), (t.1 = whN (if q < 0 then x - q * l else x - q * h) ∧ t.2 = whN (if q < 0 then y - q * h else y - q * l)) ∧
  aC Tryz.prog 198 [.agg [.bool (.s a.1), .sli .u32 a.2, .bool (.s b.1), .sli .u32 b.2], .agg [.bool (.s qq.1), .sli .u32 qq.2], .agg [.bool (.s c.1), .sli .u32 c.2, .bool (.s d.1), .sli .u32 d.2]] (.agg [.bool (.s t.1.1), .sli .u32 t.1.2, .bool (.s t.2.1), .sli .u32 t.2.2]) := by
 refine ⟨(whN (if q < 0 then x - q * l else x - q * h), whN (if q < 0 then y - q * h else y - q * l)), ⟨rfl, rfl⟩, ?_⟩;generalize hr1 : whN (if q < 0 then x - q * l else x - q * h) = r1;generalize hr2 : whN (if q < 0 then y - q * h else y - q * l) = r2;have la2 : wl x ≤ 90000 := by omega
 have lb2 : wl y ≤ 90000 := by omega
 have lq2 : wl q ≤ 90000 := by omega
 have lc2 : wl l ≤ 90000 := by omega
 have ld2 : wl h ≤ 90000 := by omega
 have m1 : wl (q * l) ≤ 90000 := by have := fU q l; omega
 have m2 : wl (q * h) ≤ 90000 := by have := fU q h; omega
 have f1 : q < 0 → ∀ v w : Bool × List Int, v = whN (x - q * l) → w = whN (y - q * h) → v = r1 ∧ w = r2 := by
  intro g v w hv hw; rw [hv, hw, ← hr1, ← hr2, if_pos g, if_pos g]; exact ⟨rfl, rfl⟩
 have f2 : ¬ q < 0 → ∀ v w : Bool × List Int, v = whN (x - q * h) → w = whN (y - q * l) → v = r1 ∧ w = r2 := by
  intro g v w hv hw; rw [hv, hw, ← hr1, ← hr2, if_neg g, if_neg g]; exact ⟨rfl, rfl⟩
 have sg : ∀ s : Int, s = (if q < 0 then -1 else if 0 < q then 1 else 0) → (s < 0 ↔ q < 0) := by
  intro s h; rw [h];by_cases h1 : q < 0
  · rw [if_pos h1]; omega
  · rw [if_neg h1];by_cases h2 : 0 < q
    · rw [if_pos h2]; omega
    · rw [if_neg h2]; omega
 clear hr1 hr2;refine callsA_o Tryz.func198 fun E hE lp hl => ?_
 cbv
 (refine E_cx hE (aQB q qq hq lq2) ?_; intro s hs; cbv)
 have S := sg s hs;refine E_br hE ?_ ?_ <;> intro g <;> cbv
 · have g := S.1 (show s < 0 by subst hE; exact bF g);have F := f1 g;apply E_pcallX hE (z_wMul q l qq c hq hc lq2 lc2)
   case hm => rfl
   case hle => exact ⟨bK, trivial⟩
   intro u hu;cbv
   (refine E_px hE (z_wSub x (q * l) a u ha hu la2 m1) ?_; intro v hv; cbv)
   apply E_pcallX hE (z_wMul q h qq d hq hd lq2 ld2)
   case hm => rfl
   case hle => exact ⟨bK, trivial⟩
   intro u2 hu2;cbv
   (refine E_px hE (z_wSub y (q * h) b u2 hb hu2 lb2 m2) ?_; intro w hw; cbv)
   obtain ⟨k1, k2⟩ := F v w hv hw;rw [← k1, ← k2]; exact ⟨rfl, rfl, rfl, rfl, trivial⟩
 · have g := fun z => (show ¬ s < 0 by subst hE; exact aW g) (S.2 z)
   have F := f2 g;apply E_pcallX hE (z_wMul q h qq d hq hd lq2 ld2)
   case hm => rfl
   case hle => exact ⟨bK, trivial⟩
   intro u hu;cbv
   (refine E_px hE (z_wSub x (q * h) a u ha hu la2 m2) ?_; intro v hv; cbv)
   apply E_pcallX hE (z_wMul q l qq c hq hc lq2 lc2)
   case hm => rfl
   case hle => exact ⟨bK, trivial⟩
   intro u2 hu2;cbv
   (refine E_px hE (z_wSub y (q * l) b u2 hb hu2 lb2 m1) ?_; intro w hw; cbv)
   obtain ⟨k1, k2⟩ := F v w hv hw;rw [← k1, ← k2]; exact ⟨rfl, rfl, rfl, rfl, trivial⟩
end
section
open Go Go.Proofs
attribute [local irreducible] Lb
theorem yM (m : List Int) (hm_ : Lb m) (hl : m.length ≤ 524288) : ∃ t : Nat × Int × Bool, t = natu (lv m) ∧ aC Tryz.prog 218 [.sli .u32 m] (.tup [.int .u64 (.s (t.1 : Int)), .int .i64 (.s t.2.1), .bool (.s t.2.2)]) := by
 refine ⟨_, rfl, ?_⟩;generalize hr : natu (lv m) = r;obtain ⟨L, eL⟩ : ∃ L : Int, L = blen (lv m : Int) := ⟨_, rfl⟩
 have bL : L ≤ 16777216 := by have := gI hm_; omega
 have b0 : 0 ≤ L := by rw [eL]; exact aX _
 have lo : L ≤ 64 → r = (lv m * 2 ^ (64 - L).toNat, L - 64, false) := fun h => by rw [← hr, eL]; unfold natu; rw [if_pos (eL ▸ h)]
 have hi : 64 < L → r = (lv m / 2 ^ (L - 64).toNat, L - 64, decide (lv m / 2 ^ (L - 64).toNat * 2 ^ (L - 64).toNat ≠ lv m)) := fun h => by rw [← hr, eL]; unfold natu; rw [if_neg (by omega)]
 have l64 : L ≤ 64 → lv m * 2 ^ (64 - L).toNat < 2 ^ 64 := fun h => by rw [eL]; exact aPB (eL ▸ h)
 have h64 : 64 < L → lv m / 2 ^ (L - 64).toNat < 2 ^ 64 := fun h => by rw [eL]; exact aOI (eL ▸ h)
 have ml : m.length < 67108864 := by omega
 clear hr;refine callsA_o Tryz.func218 fun E hE lp hl' => ?_
 cbv
 (refine E_cx hE (pR m hm_ ml) ?_; intro t ht; cbv)
 have et : t = L := Eq.trans ht eL.symm;clear ht eL;have eb : E.bin .sub .i64 t 64 = L - 64 := by subst hE; show IntKind.i64.wrap (t - 64) = _; rw [et, wi64_in (by omega) (by omega)]
 refine E_nm hE (fun y hy' => ?_); cbv;have hy : y = L - 64 := hy'.trans eb;clear eb hy' et;refine E_br hE ?_ ?_ <;> intro g <;> cbv
 · have g : y ≤ 0 := by subst hE; exact kI g
   have en : E.bin .sub .i64 0 y = 64 - L := by subst hE; show IntKind.i64.wrap (0 - y) = _; rw [wi64_in (by omega) (by omega)]; omega
   have l64 := l64 (by omega);have sh : (if 64 - L < 1 then lim (lv m) else if 16777216 < 64 - L then [] else lim (lv m * 2 ^ (64 - L).toNat)) = lim (lv m * 2 ^ (64 - L).toNat) := by
    split
    · rw [show (64 - L).toNat = 0 by omega, Ct, By]
    · rw [if_neg (by omega)]
   have R := lo (by omega)
   (refine E_cx hE (jM m _ hm_ ml) ?_; intro u hu; cbv)
   have hu : u = lim (lv m * 2 ^ (64 - L).toNat) := by
    have k : u = (if E.bin .sub .i64 0 y < 1 then lim (lv m) else if 16777216 < E.bin .sub .i64 0 y then [] else lim (lv m * 2 ^ (E.bin .sub .i64 0 y).toNat)) := hu;rw [en] at k;exact k.trans sh
   have ul : Lb u := by rw [hu]; exact lim_lb _
   have u2 : u.length ≤ 2 := by rw [hu]; exact aQW l64
   (refine E_cx hE (aLT u ul u2) ?_; intro v hv; cbv)
   have hv : v = ((lv m * 2 ^ (64 - L).toNat : Nat) : Int) := by have k : v = lv u := hv; rw [k, hu, aJ]
   refine E_nm hE fun q1 h1q => ?_; cbv
   refine E_nm hE fun q2 h2q => ?_; cbv
   rw [R];exact ⟨h1q.trans hv, h2q.trans hy, rfl, trivial⟩
 · have g : ¬ y ≤ 0 := by subst hE; exact bQ g
   have R := hi (by omega);have h64 := h64 (by omega);rw [← hy] at R h64;have yb : y ≤ 16777216 := by omega
   have y1 : ¬ y < 1 := by omega
   (refine E_cx hE (c_natShr m y hm_ ml) ?_; intro u hu; cbv)
   have hu : u = lim (lv m / 2 ^ y.toNat) := hu;have u2 : u.length ≤ 2 := by rw [hu]; exact aQW h64
   have ul : Lb u := by rw [hu]; exact lim_lb _
   have uv : lv u = lv m / 2 ^ y.toNat := by rw [hu, aJ]
   have uk : u.length < 67108864 := by omega
   (refine E_cx hE (aLT u ul u2) ?_; intro v hv; cbv)
   have hv : v = ((lv m / 2 ^ y.toNat : Nat) : Int) := by have k : v = lv u := hv; rw [k, uv]
   (refine E_cx hE (jM u y ul uk) ?_; intro s hs; cbv)
   have hs : s = lim (lv m / 2 ^ y.toNat * 2 ^ y.toNat) := by
    have k : s = (if y < 1 then lim (lv u) else if 16777216 < y then [] else lim (lv u * 2 ^ y.toNat)) := hs;rw [k, if_neg y1, if_neg (by omega), uv]
   have sl : s.length ≤ 268435456 := by
    have := dC (Ee (lv m) (2 ^ y.toNat));have := aO hm_;rw [hs]; omega
   have sb : Lb s := by rw [hs]; exact lim_lb _
   have ml2 : m.length ≤ 268435456 := by omega
   (refine E_cx hE (c_natCmp s m sb hm_ sl ml2) ?_; intro c hc; cbv)
   refine E_nm hE fun q1 h1q => ?_; cbv
   refine E_nm hE fun q2 h2q => ?_; cbv
   rw [R];refine ⟨h1q.trans hv, h2q, ?_, trivial⟩;have hc : c = (if lv s < lv m then -1 else if lv m < lv s then 1 else 0 : Int) := hc;rw [hs, aJ] at hc;subst hE;show cmpR .neq c 0 = decide (lv m / 2 ^ y.toNat * 2 ^ y.toNat ≠ lv m);rw [aH];apply Bk.2;have := Ee (lv m) (2 ^ y.toNat);generalize lv m / 2 ^ y.toNat * 2 ^ y.toNat = q at *
   rw [hc];split
   · constructor <;> intro _ <;> omega
   · rw [if_neg (by omega)]; constructor
     · intro h; exact absurd rfl h
     · intro h; omega
theorem c_qRatio (na : Bool) (a : List Int) (nb : Bool) (b : List Int) (up : Bool) (ha : Lb a) (hb : Lb b) (hla : a.length ≤ 100000) (hlb : b.length ≤ 100000) :
 ∃ t : Num, t = bH na (lv a) nb (lv b) up ∧ aC Tryz.prog 179 [.agg [.bool (.s na), .sli .u32 a], .agg [.bool (.s nb), .sli .u32 b], .bool (.s up)] t.av := by
 refine ⟨_, rfl, ?_⟩;generalize hr : bH na (lv a) nb (lv b) up = r;obtain ⟨LA, eA⟩ : ∃ L : Int, L = blen (lv a : Int) := ⟨_, rfl⟩
 obtain ⟨LB, eB⟩ : ∃ L : Int, L = blen (lv b : Int) := ⟨_, rfl⟩
 have ba : LA ≤ 3200000 := by have := gI ha; omega
 have bb : LB ≤ 3200000 := by have := gI hb; omega
 have ba0 : 0 ≤ LA := by rw [eA]; exact aX _
 have bb0 : 0 ≤ LB := by rw [eB]; exact aX _
 have la1 : a.length < 67108864 := by omega
 have lb1 : b.length < 67108864 := by omega
 have lb2 : b.length < 33554432 := by omega
 have fb : lv b = 0 → r = Num.inf (!up) := fun h => by rw [← hr]; unfold bH; rw [if_pos h]
 have fa : lv b ≠ 0 → lv a = 0 → Num.zero = r := fun h k => by rw [← hr]; unfold bH; rw [if_neg h, if_pos k]
 have fin0 : lv b ≠ 0 → lv a ≠ 0 → ∀ B : Int, B = max 0 (65 + LB - LA) → r = Num.grow (na != nb) ((natu (lv a * 2 ^ B.toNat / lv b)).1 : Int) ((natu (lv a * 2 ^ B.toNat / lv b)).2.1 - B) ((natu (lv a * 2 ^ B.toNat / lv b)).2.2 || decide (lv a * 2 ^ B.toNat % lv b ≠ 0)) (up != (na != nb)) :=
  fun h k B hB => by rw [← hr, hB, eA, eB]; unfold bH; rw [if_neg h, if_neg k]
 clear hr;refine callsA_o Tryz.func179 fun E hE lp hl' => ?_
 have ex : ∀ x y : Int, 0 ≤ x → x ≤ 3200000 → 0 ≤ y → y ≤ 3200000 → E.bin .sub .i64 (E.bin .add .i64 65 x) y = 65 + x - y := by
  intro x y h1 h2 h3 h4;subst hE;show IntKind.i64.wrap (IntKind.i64.wrap (65 + x) - y) = _;rw [wi64_in (n := 65 + x) (by omega) (by omega), wi64_in (by omega) (by omega)]
 cbv
 (refine E_cx hE (c_wSign nb b hb lb1) ?_; intro s hs; cbv)
 have hs : s = (if lv b = 0 then 0 else if nb then -1 else 1) := hs;refine E_br hE ?_ ?_ <;> intro g <;> cbv
 · have nb0 : lv b = 0 := by
    have g : s = 0 := by subst hE; exact cA g
    rw [hs] at g;by_cases h : lv b = 0
    · exact h
    · rw [if_neg h] at g; split at g <;> cases g
   (refine E_cx hE (yL _) ?_; intro z hz; cbv)
   rw [fb nb0, ← show z = Num.inf (!up) by subst hE; exact hz];exact ⟨rfl, rfl, rfl, rfl, trivial⟩
 have nb0 : lv b ≠ 0 := by
  intro h;have g : ¬ s = 0 := by subst hE; exact eql_f g
  rw [hs, if_pos h] at g; exact g rfl
 clear hs g
 (refine E_cx hE (c_wSign na a ha la1) ?_; intro s2 hs2; cbv)
 have hs2 : s2 = (if lv a = 0 then 0 else if na then -1 else 1) := hs2;refine E_br hE ?_ ?_ <;> intro g <;> cbv
 · have na0 : lv a = 0 := by
    have g : s2 = 0 := by subst hE; exact cA g
    rw [hs2] at g;by_cases h : lv a = 0
    · exact h
    · rw [if_neg h] at g; split at g <;> cases g
   rw [← fa nb0 na0];exact ⟨rfl, rfl, rfl, rfl, trivial⟩
 have na0 : lv a ≠ 0 := by
  intro h;have g : ¬ s2 = 0 := by subst hE; exact eql_f g
  rw [hs2, if_pos h] at g; exact g rfl
 clear hs2 g;have fin := fin0 nb0 na0;clear fin0 fa fb
 (refine E_px hE (pR b hb lb1) ?_; intro tb htb; cbv)
 have htb : tb = LB := Eq.trans htb eB.symm
 (refine E_px hE (pR a ha la1) ?_; intro ta hta; cbv)
 have hta : ta = LA := Eq.trans hta eA.symm;rw [← htb, ← hta] at fin;have eX := ex tb ta (by omega) (by omega) (by omega) (by omega);obtain ⟨B, eB⟩ : ∃ B, B = max 0 (65 + tb - ta) := ⟨_, rfl⟩
 have hB := eB;have B0 : 0 ≤ B := by omega
 have B1 : B ≤ 3200065 := by omega
 refine E_br hE ?_ ?_ <;> intro g <;> cbv
 · have g : 0 < 65 + tb - ta := by rw [← eX]; subst hE; exact cU g
   refine E_nm hE fun y hy => ?_; cbv
   have eB : B = y := by have k : y = 65 + tb - ta := hy.trans eX; omega
   (refine E_px hE (jM a y ha la1) ?_; intro u hu; cbv)
   have hu : u = lim (lv a * 2 ^ B.toNat) := by
    have k : u = (if y < 1 then lim (lv a) else if 16777216 < y then [] else lim (lv a * 2 ^ (y : Int).toNat)) := hu;rw [k, eB];split
    · rw [show (y : Int).toNat = 0 by omega, Ct, By]
    · rw [if_neg (by omega)]
   have lu : Lb u := by rw [hu]; exact lim_lb _
   have vu : lv u = lv a * 2 ^ B.toNat := by rw [hu, aJ]
   have uu : u.length ≤ 200004 := by
    have k : ∀ M : Nat, B.toNat ≤ 32 * M → u.length ≤ a.length + M := by
     intro M hM;rw [hu];refine lim_length_le ?_;have h1 := bP ha
     calc lv a * 2 ^ B.toNat < 4294967296 ^ a.length * 2 ^ B.toNat := Cg h1 (Bf _)
      _ ≤ 4294967296 ^ a.length * 2 ^ (32 * M) := As _ (Ag (by decide) hM)
      _ = 4294967296 ^ (a.length + M) := by rw [Cj, show (2 : Nat) ^ 32 = 4294967296 by rfl, Ap]
    have := k 100003 (by omega);omega
   have ul1 : u.length < 33554432 := by omega
   (refine E_px hE (oZ u b lu hb ul1 lb2) ?_; intro t ht; cbv)
   have ht : t = (lim (lv u / lv b), lim (lv u % lv b), true) := by
    have k : t = (if lv b = 0 then ([], [], false) else (lim (lv u / lv b), lim (lv u % lv b), true)) := ht;rw [k, if_neg nb0]
   have lq : Lb t.1 := by rw [ht]; exact lim_lb _
   have qq : t.1.length ≤ 200004 := by
    rw [ht]; show (lim (lv u / lv b)).length ≤ 200004; have := dC (Bo (lv u) (lv b)); have := aO lu; omega
   have vq : lv t.1 = lv a * 2 ^ B.toNat / lv b := by rw [ht, aJ, vu]
   have nq := aLB (n := lv t.1) (Ae (aO lq) qq);have ql1 : t.1.length ≤ 524288 := by omega
   (refine E_cx hE (yM t.1 lq ql1) ?_; intro n hn; cbv)
   have hn : n = natu (lv a * 2 ^ B.toNat / lv b) := by have k : n = natu (lv t.1) := hn; rw [k, vq]
   rw [vq, ← hn] at nq;have F := fin B hB;rw [← hn] at F;refine E_nm hE fun q1 h1q => ?_; cbv
   refine E_nm hE fun q2 h2q => ?_; cbv
   have h1q : q1 = (n.1 : Int) := h1q;have h2q : q2 = n.2.1 := h2q;have ee : E.bin .sub .i64 q2 y = n.2.1 - B := by subst hE; rw [eB, h2q]; show IntKind.i64.wrap (n.2.1 - y) = _; rw [wi64_in (by omega) (by omega)]
   have rr : E.cmp .gtr (E.len t.2.1) 0 = decide (lv a * 2 ^ B.toNat % lv b ≠ 0) := by
    subst hE;show decide ((0 : Int) < (t.2.1.length : Int)) = _;rw [ht, vu];apply Bk.2;have := limp (lv a * 2 ^ B.toNat % lv b);constructor
    · intro h; exact this.1 (by exact_mod_cast h)
    · intro h; exact_mod_cast this.2 h
   refine E_br hE ?_ ?_ <;> intro c <;> cbv
   · rw [c, Bool.true_or, ← ee, ← h1q] at F
     (refine E_cx hE (rN _ _ _ _ _) ?_; intro z hz; cbv)
     have k : z = r := hz.trans (F.trans (by subst hE; rfl)).symm;rw [← k];exact ⟨rfl, rfl, rfl, rfl, trivial⟩
   · rw [c, Bool.false_or, ← rr, ← ee, ← h1q] at F
     (refine E_cx hE (rN _ _ _ _ _) ?_; intro z hz; cbv)
     have k : z = r := hz.trans (F.trans (by subst hE; rfl)).symm;rw [← k];exact ⟨rfl, rfl, rfl, rfl, trivial⟩
 · have g : ¬ 0 < 65 + tb - ta := by rw [← eX]; subst hE; exact dB g
   have eB : B = 0 := by omega
   (refine E_px hE (jM a 0 ha la1) ?_; intro u hu; cbv)
   have hu : u = lim (lv a * 2 ^ B.toNat) := by
    have k : u = (if 0 < 1 then lim (lv a) else if 16777216 < 0 then [] else lim (lv a * 2 ^ (0 : Int).toNat)) := hu;rw [k, eB];split
    · rw [show (0 : Int).toNat = 0 by omega, Ct, By]
    · rw [if_neg (by omega)]
   have lu : Lb u := by rw [hu]; exact lim_lb _
   have vu : lv u = lv a * 2 ^ B.toNat := by rw [hu, aJ]
   have uu : u.length ≤ 200004 := by
    have k : ∀ M : Nat, B.toNat ≤ 32 * M → u.length ≤ a.length + M := by
     intro M hM;rw [hu];refine lim_length_le ?_;have h1 := bP ha
     calc lv a * 2 ^ B.toNat < 4294967296 ^ a.length * 2 ^ B.toNat := Cg h1 (Bf _)
      _ ≤ 4294967296 ^ a.length * 2 ^ (32 * M) := As _ (Ag (by decide) hM)
      _ = 4294967296 ^ (a.length + M) := by rw [Cj, show (2 : Nat) ^ 32 = 4294967296 by rfl, Ap]
    have := k 100003 (by omega);omega
   have ul1 : u.length < 33554432 := by omega
   (refine E_px hE (oZ u b lu hb ul1 lb2) ?_; intro t ht; cbv)
   have ht : t = (lim (lv u / lv b), lim (lv u % lv b), true) := by
    have k : t = (if lv b = 0 then ([], [], false) else (lim (lv u / lv b), lim (lv u % lv b), true)) := ht;rw [k, if_neg nb0]
   have lq : Lb t.1 := by rw [ht]; exact lim_lb _
   have qq : t.1.length ≤ 200004 := by
    rw [ht]; show (lim (lv u / lv b)).length ≤ 200004; have := dC (Bo (lv u) (lv b)); have := aO lu; omega
   have vq : lv t.1 = lv a * 2 ^ B.toNat / lv b := by rw [ht, aJ, vu]
   have nq := aLB (n := lv t.1) (Ae (aO lq) qq);have ql1 : t.1.length ≤ 524288 := by omega
   (refine E_cx hE (yM t.1 lq ql1) ?_; intro n hn; cbv)
   have hn : n = natu (lv a * 2 ^ B.toNat / lv b) := by have k : n = natu (lv t.1) := hn; rw [k, vq]
   rw [vq, ← hn] at nq;have F := fin B hB;rw [← hn] at F;refine E_nm hE fun q1 h1q => ?_; cbv
   refine E_nm hE fun q2 h2q => ?_; cbv
   have h1q : q1 = (n.1 : Int) := h1q;have h2q : q2 = n.2.1 := h2q;have ee : E.bin .sub .i64 q2 0 = n.2.1 - B := by subst hE; rw [eB, h2q]; show IntKind.i64.wrap (n.2.1 - 0) = _; rw [wi64_in (by omega) (by omega)]
   have rr : E.cmp .gtr (E.len t.2.1) 0 = decide (lv a * 2 ^ B.toNat % lv b ≠ 0) := by
    subst hE;show decide ((0 : Int) < (t.2.1.length : Int)) = _;rw [ht, vu];apply Bk.2;have := limp (lv a * 2 ^ B.toNat % lv b);constructor
    · intro h; exact this.1 (by exact_mod_cast h)
    · intro h; exact_mod_cast this.2 h
   refine E_br hE ?_ ?_ <;> intro c <;> cbv
   · rw [c, Bool.true_or, ← ee, ← h1q] at F
     (refine E_cx hE (rN _ _ _ _ _) ?_; intro z hz; cbv)
     have k : z = r := hz.trans (F.trans (by subst hE; rfl)).symm;rw [← k];exact ⟨rfl, rfl, rfl, rfl, trivial⟩
   · rw [c, Bool.false_or, ← rr, ← ee, ← h1q] at F
     (refine E_cx hE (rN _ _ _ _ _) ?_; intro z hz; cbv)
     have k : z = r := hz.trans (F.trans (by subst hE; rfl)).symm;rw [← k];exact ⟨rfl, rfl, rfl, rfl, trivial⟩
theorem aHJ (n : Nat) : ∀ f j, piKf n f j ≤ f + j
 | 0, j => by unfold piKf; omega
 | f + 1, j => by
  unfold piKf;split
  · omega
  · have := aHJ n f (j + 1); omega
theorem aMZ (n : Nat) : piK n ≤ 98 := aHJ n 98 0
theorem aQU : 98 * piOne + 99 < 4294967296 ^ 7 := by unfold piOne; decide +kernel
theorem aKY (n : Nat) : (piLo n).natAbs ≤ 98 * piOne + 99 := by
 have h1 := vN n (piK n);have h2 := aMZ n;have h3 : piK n * piOne ≤ 98 * piOne := Ai _ h2;unfold piLo; omega
theorem aNN (n : Nat) : (piHi n).natAbs ≤ 98 * piOne + 99 := by
 have h1 := vN n (piK n);have h2 := aMZ n;have h3 : piK n * piOne ≤ 98 * piOne := Ai _ h2;unfold piHi; omega
def piLoB : Int := piLo 5 * 16 - piHi 239 * 4
def piHiB : Int := piHi 5 * 16 - piLo 239 * 4
end
section
open Go Go.Proofs
attribute [local irreducible] Lb whN piOne piLo piHi
theorem wn {u : Bool × List Int} {z : Int} (k : Nat) (h : u = whN z) (hz : z.natAbs < 4294967296 ^ k) : Lb u.2 ∧ u.2.length ≤ k ∧ wv u.1 u.2 = z := by
 rw [h]; exact ⟨whN_lb _, fR hz, dZ _⟩
theorem wnB {z : Int} {n : Int} (h : z.natAbs < 4294967296 ^ 7) (hn : n.natAbs ≤ 100) : (z * n).natAbs < 4294967296 ^ 8 := by
 rw [Int.natAbs_mul];exact Ah (Di (Dz h) hn) (by decide +kernel)
theorem lo7 (n : Nat) : (piLo n).natAbs < 4294967296 ^ 7 := Ah (aKY n) aQU
theorem hi7 (n : Nat) : (piHi n).natAbs < 4294967296 ^ 7 := Ah (aNN n) aQU
theorem aFB : ∃ t : (Bool × List Int) × (Bool × List Int), t = (whN piLoB, whN piHiB) ∧ aC Tryz.prog 122 [] (.tup [.agg [.bool (.s t.1.1), .sli .u32 t.1.2], .agg [.bool (.s t.2.1), .sli .u32 t.2.2]]) := by
 refine ⟨_, rfl, ?_⟩;generalize hr : (whN piLoB, whN piHiB) = r;have r1 : whN (piLo 5 * 16 - piHi 239 * 4) = r.1 := by rw [← hr]; rfl
 have r2 : whN (piHi 5 * 16 - piLo 239 * 4) = r.2 := by rw [← hr]; rfl
 clear hr;refine callsA_o Tryz.func122 fun E hE lp hl' => ?_
 cbv
 (refine E_cx hE (sX 5 (by decide) (by decide) 5 rfl) ?_; intro x hx; cbv)
 have x1 : x.1 = whN (piLo 5) := by rw [show x = (whN (piLo 5), whN (piHi 5)) from hx]
 have x2 : x.2 = whN (piHi 5) := by rw [show x = (whN (piLo 5), whN (piHi 5)) from hx]
 (refine E_cx hE (sX 239 (by decide) (by decide) 239 rfl) ?_; intro y hy; cbv)
 have y1 : y.1 = whN (piLo 239) := by rw [show y = (whN (piLo 239), whN (piHi 239)) from hy]
 have y2 : y.2 = whN (piHi 239) := by rw [show y = (whN (piLo 239), whN (piHi 239)) from hy]
 obtain ⟨xb, xl, xw⟩ := wn 7 x1 (lo7 5);obtain ⟨Xb, Xl, Xw⟩ := wn 7 x2 (hi7 5);obtain ⟨yb, yl, yw⟩ := wn 7 y1 (lo7 239);obtain ⟨Yb, Yl, Yw⟩ := wn 7 y2 (hi7 239);have xl : x.1.2.length < 60000000 := by omega
 have Xl : x.2.2.length < 60000000 := by omega
 have yl : y.1.2.length < 60000000 := by omega
 have Yl : y.2.2.length < 60000000 := by omega
 (refine E_px hE (gF x.1.1 x.1.2 16 xb xl (by decide) (by decide)) ?_; intro a ha; cbv)
 have ha : a = whN (piLo 5 * 16) := by rw [← xw]; exact ha
 (refine E_px hE (gF y.2.1 y.2.2 4 Yb Yl (by decide) (by decide)) ?_; intro b hb; cbv)
 have hb : b = whN (piHi 239 * 4) := by rw [← Yw]; exact hb
 obtain ⟨ab, al, aw⟩ := wn 8 ha (wnB (lo7 5) (by decide));obtain ⟨bb, bl, bw⟩ := wn 8 hb (wnB (hi7 239) (by decide));have al : a.2.length < 134217728 := by omega
 have bl : b.2.length < 134217728 := by omega
 (refine E_px hE (aFK a.1 a.2 b.1 b.2 ab bb al bl) ?_; intro c hc; cbv)
 have hc : c = r.1 := by rw [← r1, ← aw, ← bw]; exact hc
 (refine E_px hE (gF x.2.1 x.2.2 16 Xb Xl (by decide) (by decide)) ?_; intro d hd; cbv)
 have hd : d = whN (piHi 5 * 16) := by rw [← Xw]; exact hd
 (refine E_px hE (gF y.1.1 y.1.2 4 yb yl (by decide) (by decide)) ?_; intro e he; cbv)
 have he : e = whN (piLo 239 * 4) := by rw [← yw]; exact he
 obtain ⟨db, dl, dw⟩ := wn 8 hd (wnB (hi7 5) (by decide));obtain ⟨eb, el, ew⟩ := wn 8 he (wnB (lo7 239) (by decide));have dl : d.2.length < 134217728 := by omega
 have el : e.2.length < 134217728 := by omega
 (refine E_px hE (aFK d.1 d.2 e.1 e.2 db eb dl el) ?_; intro f hf; cbv)
 have hf : f = r.2 := by rw [← r2, ← dw, ← ew]; exact hf
 exact ⟨⟨congrArg Prod.fst hc, congrArg Prod.snd hc, trivial⟩, ⟨congrArg Prod.fst hf, congrArg Prod.snd hf, trivial⟩, trivial⟩
theorem aCA (a b : Bool × List Int) (za zb : Int) (ha : a = whN za) (hb : b = whN zb) (la : a.2.length ≤ 100000) (lb : b.2.length ≤ 100000) :
 ∃ t : Iv, t = Iv.make (bH (decide (za < 0)) za.natAbs false piOne false) (bH (decide (zb < 0)) zb.natAbs false piOne true) ∧
  aC Tryz.prog 121 [.agg [.bool (.s a.1), .sli .u32 a.2], .agg [.bool (.s b.1), .sli .u32 b.2]] t.av := by
 refine ⟨_, rfl, ?_⟩;generalize hr : Iv.make (bH (decide (za < 0)) za.natAbs false piOne false) (bH (decide (zb < 0)) zb.natAbs false piOne true) = r;have ab : Lb a.2 := by rw [ha]; exact whN_lb _
 have bb : Lb b.2 := by rw [hb]; exact whN_lb _
 have sd : ∀ s : Bool × List Int, s = whN (piOne : Int) → s.1 = false ∧ lv s.2 = piOne ∧ Lb s.2 ∧ s.2.length ≤ 100000 := by
  intro s h; rw [h, bD]; exact ⟨rfl, aJ _, lim_lb _, Ae (cE jF) (by decide)⟩
 have vd : ∀ (u : Bool × List Int) (z : Int), u = whN z → u.1 = decide (z < 0) ∧ lv u.2 = z.natAbs := by
  intro u z h; rw [h, whN_def]; exact ⟨rfl, aJ _⟩
 refine callsA_o Tryz.func121 fun E hE lp hl' => ?_
 cbv
 (refine E_px hE iW ?_; intro s hs; cbv)
 obtain ⟨s1, s2, s3, s4⟩ := sd s hs
 (refine E_px hE (c_qRatio a.1 a.2 s.1 s.2 false ab s3 la s4) ?_; intro x hx; cbv)
 have hx : x = bH (decide (za < 0)) za.natAbs false piOne false := by
  have k : x = bH a.1 (lv a.2) s.1 (lv s.2) false := hx;rw [k, s1, s2, (vd a za ha).1, (vd a za ha).2]
 (refine E_px hE iW ?_; intro u hu; cbv)
 obtain ⟨u1, u2, u3, u4⟩ := sd u hu
 (refine E_px hE (c_qRatio b.1 b.2 u.1 u.2 true bb u3 lb u4) ?_; intro y hy; cbv)
 have hy : y = bH (decide (zb < 0)) zb.natAbs false piOne true := by
  have k : y = bH b.1 (lv b.2) u.1 (lv u.2) true := hy;rw [k, u1, u2, (vd b zb hb).1, (vd b zb hb).2]
 (refine E_px hE (c_ivMake ⟨_, _, _, _⟩ ⟨_, _, _, _⟩) ?_; intro z hz; cbv)
 have k : z = r := by
  have k : z = Iv.make x y := hz;rw [k, hx, hy, hr]
 rw [← k];exact ⟨rfl, rfl, rfl, rfl, rfl, rfl, rfl, rfl, rfl, trivial⟩
end
section
open Go Go.Proofs
theorem aRP (j : Nat) (h : j ≤ 97) : decide ((j : Int) < 200) = true := Au (by omega)
attribute [local irreducible] Lb whN piOne
def riS (N : Int) : Nat × Option (Bool × List Int) × (Bool × List Int) → St := fun p =>
 ⟨[(0, .int .i64 (.s N)), (2, .ptr 0 2 (.l 0) 0), (3, .ptr 1 2 (.l 0) 0), (5, .ptr 3 2 (.l 0) 0), (6, .ptr 4 2 (.l 0) 0), (7, .int .i64 (.s (p.1 : Int)))], [zwB, zwB, zwB, sumB p.2.1, pwB p.2.2]⟩
def riOK (n : Nat) (p : Nat × Option (Bool × List Int) × (Bool × List Int)) : Prop :=
 p.1 ≤ 97 ∧ piKf n (98 - p.1) p.1 = piK n ∧ (match p.2.1 with | none => p.1 = 0 | some s => s = whN (piSum n p.1)) ∧ p.2.2 = whN ((n ^ (2 * p.1 + 1) : Nat) : Int)
set_option maxHeartbeats 4000000 in
theorem pD (n : Nat) (hn1 : 2 ≤ n) (hn2 : n ≤ 1000) (N : Int) (hN : N = n) : ∃ t : (Bool × List Int) × (Bool × List Int), t = (whN (piLo n), whN (piHi n)) ∧
 aC Tryz.prog 187 [.int .i64 (.s N)] (.tup [.agg [.bool (.s t.1.1), .sli .u32 t.1.2], .agg [.bool (.s t.2.1), .sli .u32 t.2.2]]) := by
 refine ⟨_, rfl, ?_⟩;generalize hr : (whN (piLo n), whN (piHi n)) = r;have N1 : -9223372036854775808 ≤ N := by omega
 have N2 : N < 9223372036854775808 := by omega
 have hp0 : ∀ p, p = whN N → p = whN ((n ^ (2 * 0 + 1) : Nat) : Int) := by intro p h; rw [h, hN, Cp, Be, Nat.pow_one]
 obtain ⟨m, em⟩ : ∃ m : Nat × Option (Bool × List Int) × (Bool × List Int) → Nat, ∀ p, m p = 98 - p.1 := ⟨_, fun _ => rfl⟩
 obtain ⟨ok, eok⟩ : ∃ ok : Nat × Option (Bool × List Int) × (Bool × List Int) → Prop, ∀ p, ok p ↔ riOK n p := ⟨_, fun _ => Bs⟩
 refine callsA_o Tryz.func187 fun E hE lp hl' => ?_
 have f1 : E.cmp .lss N 2 = false := by subst hE; exact Az (by omega)
 have f2 : E.cmp .gtr N 1000 = false := by subst hE; exact Az (by omega)
 cbv;repeat' (first | (apply fD hE; assumption; cbv) | fail)
 (refine E_cx hE (c_r2From N N1 N2) ?_; intro p0 hp; cbv)
 refine E_loopM hE hG hm hl' (riS N) m ok ⟨(0, none, p0), [0, 1, 2, 3, 4], (eok _).2 ⟨by show 0 ≤ 97; decide, rfl, rfl, hp0 p0 hp⟩, bV (by repeat' (first | exact trivial | exact rfl | apply And.intro)) rfl rfl rfl (by repeat' (first | exact trivial | exact rfl | apply And.intro)) (by (repeat' (first | exact bW | refine bE ?_ rfl ?_ | exact aM | exact aI | exact aQ | exact lR | exact (rfl : sle2 _ _))))⟩ ?_;rintro ⟨j, so, p⟩ hok;have hok := (eok _).1 hok;obtain ⟨hj, hk, hs, hp⟩ := hok;dsimp only at hj hk hs hp;have pb : Lb p.2 := by rw [hp]; exact whN_lb _
 have p2 : lv p.2 = n ^ (2 * j + 1) := by rw [hp, bD, aJ]
 have wp : wv p.1 p.2 = ((n ^ (2 * j + 1) : Nat) : Int) := by rw [hp]; exact vG _
 have pl : p.2.length < 60000000 := by rw [hp, bD]; exact Ah (cE (Ae (nN hn1 hn2 (by omega)) (iU (by decide)))) (by decide)
 have nn : (n : Int) * n = ((n * n : Nat) : Int) := (Bp n n).symm;have nk : n * n ≤ 1000000 := Di hn2 hn2;have n2 : E.bin .mul .i64 N N = ((n * n : Nat) : Int) := by
  subst hE;show IntKind.i64.wrap (N * N) = _;rw [hN, nn, wi64_in (by omega) (by omega)]
 have o1 : E.bin .add .i64 (E.bin .mul .i64 2 (j : Int)) 1 = 2 * (j : Int) + 1 := by
  subst hE;show IntKind.i64.wrap (IntKind.i64.wrap (2 * (j : Int)) + 1) = _;rw [wi64_in (n := 2 * (j : Int)) (by omega) (by omega), wi64_in (by omega) (by omega)]
 have e5 : -9223372036854775808 ≤ E.bin .add .i64 (E.bin .mul .i64 2 (j : Int)) 1 := by rw [o1]; omega
 have e6 : E.bin .add .i64 (E.bin .mul .i64 2 (j : Int)) 1 < 9223372036854775808 := by rw [o1]; omega
 have e7 : -9223372036854775808 ≤ E.bin .mul .i64 N N := by rw [n2]; omega
 have e8 : E.bin .mul .i64 N N < 9223372036854775808 := by rw [n2]; omega
 have nextp : ∀ q : Bool × List Int, q = whN (wv p.1 p.2 * E.bin .mul .i64 N N) → q = whN ((n ^ (2 * (j + 1) + 1) : Nat) : Int) := by
  intro q hq;rw [hq, n2, wp];exact congrArg _ (by rw [← Bp, show 2 * (j + 1) + 1 = (2 * j + 1) + 2 by omega, Ap n (2 * j + 1) 2, show n * n = n ^ 2 from (Nat.pow_two n).symm])
 have dis : ∀ d : Bool × List Int, d = whN (wv p.1 p.2 * E.bin .add .i64 (E.bin .mul .i64 2 (j : Int)) 1) → d = (false, lim (n ^ (2 * j + 1) * (2 * j + 1))) := by
  intro d hd;rw [hd, o1, wp, show ((n ^ (2 * j + 1) : Nat) : Int) * (2 * (j : Int) + 1) = ((n ^ (2 * j + 1) * (2 * j + 1) : Nat) : Int) by push_cast; rfl, bD]
 have side : ∀ sc d : Bool × List Int, sc = whN (piOne : Int) → d = whN (wv p.1 p.2 * E.bin .add .i64 (E.bin .mul .i64 2 (j : Int)) 1) → sc.1 = false ∧ d.1 = false ∧ Lb sc.2 ∧ Lb d.2 ∧ sc.2.length < 67108864 ∧ d.2.length < 67108864 ∧ lv d.2 ≠ 0 := by
  intro sc d hsc hd;rw [dis d hd, hsc, bD];refine ⟨rfl, rfl, (lim_lb piOne : Lb (lim piOne)), lim_lb _, Ah (cE jF) (by decide), Ah (cE ?_) (by decide), ?_⟩
  · calc n ^ (2 * j + 1) * (2 * j + 1) ≤ 4294967296 ^ 80 * 4294967296 ^ 1 := Di (nN hn1 hn2 (by omega)) (by rw [Nat.pow_one]; omega)
     _ = 4294967296 ^ 81 := by rw [← Ap]
     _ ≤ 4294967296 ^ 100 := iU (by decide)
  · rw [aJ];exact Nat.pos_iff_ne_zero.1 (Dw (Bg (by omega)) (by omega))
 have tis : ∀ sc d t : Bool × List Int, sc = whN (piOne : Int) → d = whN (wv p.1 p.2 * E.bin .add .i64 (E.bin .mul .i64 2 (j : Int)) 1) → t = whN ((lv sc.2 / lv d.2 : Nat) : Int) → t = whN (piTerm n j : Int) := by
  intro sc d t hsc hd ht;have e1 : lv sc.2 = piOne := by rw [hsc, bD, aJ]
  have e2 : lv d.2 = n ^ (2 * j + 1) * (2 * j + 1) := by rw [dis d hd, aJ]
  rw [ht, e1, e2]; rfl
 have tf : ∀ t : Bool × List Int, t = whN (piTerm n j : Int) → Lb t.2 ∧ t.2.length ≤ 101 ∧ wv t.1 t.2 = (piTerm n j : Int) ∧ t.1 = false ∧ lv t.2 = piTerm n j := by
  intro t ht;refine ⟨by rw [ht]; exact whN_lb _, by rw [ht]; exact uT n j, by rw [ht]; exact vG _, by rw [ht, bD], by rw [ht, bD, aJ]⟩
 have negl : (whN (-(piTerm n j : Int))).2.length ≤ 100000 := by
  rw [whN_def, Int.natAbs_neg, Ck];exact Ae (cE (Ae (sE n j) jF)) (by decide)
 have fin : ∀ x y : Bool × List Int, piTerm n j = 0 → x = whN (piSum n j + (-(j : Int) - 1)) → y = whN (piSum n j + ((j : Int) + 1)) → x = r.1 ∧ y = r.2 := by
  intro x y z hx hy;have kj : piK n = j := hk.symm.trans (aBX hj z);rw [← hr];show x = whN (piLo n) ∧ y = whN (piHi n);unfold piLo piHi;rw [kj, hx, hy];exact ⟨congrArg _ (by omega), congrArg _ (by omega)⟩
 have step : piTerm n j ≠ 0 → ∀ s1 p' : Bool × List Int, s1 = whN (piSum n (j + 1)) → p' = whN ((n ^ (2 * (j + 1) + 1) : Nat) : Int) → m (j + 1, some s1, p') < m (j, so, p) ∧ ok (j + 1, some s1, p') := by
  intro nz s1 p' h1 h3;have j96 : j ≤ 96 := by
   by_cases e : j = 97
   · exact absurd (by rw [e]; exact aBU hn1) nz
   · omega
  exact ⟨by rw [em, em]; show 98 - (j + 1) < 98 - j; omega, (eok _).2 ⟨by show j + 1 ≤ 97; omega, (aHX hj nz).symm.trans hk, h1, h3⟩⟩
 have so1 : j % 2 = 1 → piSum n (j + 1) = piSum n j + -(piTerm n j : Int) := by intro h; show piSum n j + _ = _; rw [if_pos h]
 have so0 : j % 2 ≠ 1 → piSum n (j + 1) = piSum n j + (piTerm n j : Int) := by intro h; show piSum n j + _ = _; rw [if_neg h]
 have jr : E.bin .rem .i64 (j : Int) 2 = ((j % 2 : Nat) : Int) := by
  subst hE;show (j : Int).tmod 2 = _;rw [Bx (by omega)]; omega
 have j1 : E.bin .add .i64 (j : Int) 1 = ((j + 1 : Nat) : Int) := by
  subst hE;show IntKind.i64.wrap ((j : Int) + 1) = _;rw [wi64_in (by omega) (by omega)]; omega
 have jm : E.bin .sub .i64 (E.bin .sub .i64 0 (j : Int)) 1 = -(j : Int) - 1 := by
  subst hE;show IntKind.i64.wrap (IntKind.i64.wrap (0 - (j : Int)) - 1) = _;rw [wi64_in (n := 0 - (j : Int)) (by omega) (by omega), wi64_in (by omega) (by omega)]; omega
 have e1 : -9223372036854775808 ≤ E.bin .sub .i64 (E.bin .sub .i64 0 (j : Int)) 1 := by rw [jm]; omega
 have e2 : E.bin .sub .i64 (E.bin .sub .i64 0 (j : Int)) 1 < 9223372036854775808 := by rw [jm]; omega
 have e3 : -9223372036854775808 ≤ E.bin .add .i64 (j : Int) 1 := by rw [j1]; omega
 have e4 : E.bin .add .i64 (j : Int) 1 < 9223372036854775808 := by rw [j1]; omega
 have fl : ∀ (a : Bool × List Int) (z : Int), a = whN z → z.natAbs < 1000 → Lb a.2 ∧ a.2.length ≤ 100000 ∧ wv a.1 a.2 = z := by
  intro a z h hz;rw [h];exact ⟨whN_lb _, Ae (fR (k := 1) (by rw [Nat.pow_one]; omega)) (by decide), dZ _⟩
 have nz_of : ∀ (l : List Int) (b : Bool) (sg : Int), b = false → lv l = piTerm n j → sg = (if lv l = 0 then 0 else if b = true then -1 else 1) → (sg = 0 ↔ piTerm n j = 0) := by
  intro l b sg hb hl h;rw [h, hl, hb];by_cases z : piTerm n j = 0
  · rw [if_pos z]; exact ⟨fun _ => z, fun _ => rfl⟩
  · rw [if_neg z]; exact ⟨fun h => absurd h (by decide), fun h => absurd h z⟩
 have b200 : E.cmp .lss (j : Int) 200 = true := by
  rw [hE];have k : (aB Tryz.prog).cmp = cmpR := rfl;rw [k, aG];exact aRP j hj
 have jl : j ≤ 98 := by omega
 have od_of : E.bin .rem .i64 (j : Int) 2 = 1 → j % 2 = 1 := by rw [jr]; intro k; omega
 have ev_of : ¬ E.bin .rem .i64 (j : Int) 2 = 1 → j % 2 ≠ 1 := by rw [jr]; intro k; omega
 have ja : (E.bin .sub .i64 (E.bin .sub .i64 0 (j : Int)) 1).natAbs < 1000 := by rw [jm]; omega
 have jb : (E.bin .add .i64 (j : Int) 1).natAbs < 1000 := by rw [j1]; omega
 clear hp hok em eok hr hk;cases so with
 | none =>
  have j0 : j = 0 := hs;have sb : Lb ([] : List Int) := Lb.nil;have sl : ([] : List Int).length ≤ 100000 := by decide
  have ws : wv false [] = piSum n j := by rw [j0]; rfl
  clear hs;cbv;refine E_br_t hE b200 ?_; cbv
  (refine E_px hE cZ ?_; intro sc hsc; cbv)
  (refine E_px hE (c_r11Times p.1 p.2 (E.bin .add .i64 (E.bin .mul .i64 2 (j : Int)) 1) pb pl e5 e6) ?_; intro d hd; cbv)
  obtain ⟨a1, a2, a3, a4, a5, a6, a7⟩ := side sc d hsc hd
  (refine E_px hE (zA sc.1 sc.2 d.1 d.2 a1 a2 a3 a4 a5 a6 a7) ?_; intro t ht; cbv)
  have ht : t = whN (piTerm n j : Int) := tis sc d t hsc hd ht;obtain ⟨tb, tl0, wt, t1, lt⟩ := tf t ht;have tl : t.2.length ≤ 100000 := Ae tl0 (by decide);have tl2 : t.2.length ≤ 268435456 := Ae tl0 (by decide)
  (refine E_cx hE (gM t.1 t.2 tb tl2) ?_; intro sg hsg; cbv)
  have zz := nz_of t.2 t.1 sg t1 lt hsg;refine E_br hE ?_ ?_ <;> intro g <;> cbv
  · have z : piTerm n j = 0 := zz.1 (by subst hE; exact cA g)
    (refine E_px hE (c_r2From (E.bin .sub .i64 (E.bin .sub .i64 0 (j : Int)) 1) e1 e2) ?_; intro a ha; cbv)
    obtain ⟨ab, al, wa⟩ := fl a _ ha ja
    (apply E_pcallX hE (c_r2Add false [] a.1 a.2 sb ab sl al); (case hm => rfl); (case hle => (repeat' (first | exact fW | apply dV | apply dR | exact aM | exact dU | exact aI | exact cV | exact aN | exact dY | exact cR | exact gG))); all_goals (first | (intro x hx; cbv) | (assumption)))
    (refine E_px hE (c_r2From (E.bin .add .i64 (j : Int) 1) e3 e4) ?_; intro b hb; cbv)
    obtain ⟨bb, bl, wb⟩ := fl b _ hb jb
    (apply E_pcallX hE (c_r2Add false [] b.1 b.2 sb bb sl bl); (case hm => rfl); (case hle => (repeat' (first | exact fW | apply dV | apply dR | exact aM | exact dU | exact aI | exact cV | exact aN | exact dY | exact cR | exact gG))); all_goals (first | (intro y hy; cbv) | (assumption)))
    have F := fin x y z (by have k : x = _ := hx; rw [k, eP, ws, wa, jm]) (by have k : y = _ := hy; rw [k, eP, ws, wb, j1]; rfl);exact ⟨⟨congrArg Prod.fst F.1, congrArg Prod.snd F.1, trivial⟩, ⟨congrArg Prod.fst F.2, congrArg Prod.snd F.2, trivial⟩, trivial⟩
  · have nz : piTerm n j ≠ 0 := fun z => (show ¬ sg = 0 by subst hE; exact eql_f g) (zz.2 z)
    refine E_br hE ?_ ?_ <;> intro q <;> cbv
    · have od : j % 2 = 1 := od_of (by subst hE; exact cA q)
      (refine E_cx hE (uA t.1 t.2 tb tl2) ?_; intro u hu; cbv)
      have hu : u = whN (-(piTerm n j : Int)) := by
       have k : u = whN (- wv t.1 t.2) := hu;rw [k, wt]
      have ub : Lb u.2 := by rw [hu]; exact whN_lb _
      have ul : u.2.length ≤ 100000 := by rw [hu]; exact negl
      have wu : wv u.1 u.2 = -(piTerm n j : Int) := by rw [hu]; exact dZ _
      (apply E_callX hE (c_r2Add false [] u.1 u.2 sb ub sl ul); (case hf => rfl); (case hc => (cbv <;> trivial)); (case hle => (repeat' (first | exact fW | apply dV | apply dR | exact aM | exact dU | exact aI | exact cV | exact aN | exact dY | exact cR | exact gG))); all_goals (first | (intro s1 hs1; cbv) | (assumption)))
      have hs1 : s1 = whN (piSum n (j + 1)) := by
       have k : s1 = _ := hs1;rw [k, eP, ws, wu, so1 od]
      (refine E_cx hE (c_r11Times p.1 p.2 (E.bin .mul .i64 N N) pb pl e7 e8) ?_; intro p' hp'; cbv)
      have hp' : p' = whN ((n ^ (2 * (j + 1) + 1) : Nat) : Int) := nextp p' hp';refine E_nm hE fun kk hkk => ?_; cbv
      have hkk : kk = ((j + 1 : Nat) : Int) := Eq.trans hkk j1;exact ⟨(j + 1, some s1, p'), [0, 1, 2, 3, 4], (step nz s1 p' hs1 hp').1, (step nz s1 p' hs1 hp').2, bV (by repeat' (first | exact trivial | exact rfl | apply And.intro)) rfl rfl rfl (by repeat' (first | exact trivial | exact rfl | apply And.intro)) (by (repeat' (first | exact bW | refine bE ?_ rfl ?_ | exact aM | exact aI | exact aQ | exact lR | exact (rfl : sle2 _ _) | exact ⟨rfl, hkk⟩)))⟩
    · have od : j % 2 ≠ 1 := ev_of (by subst hE; exact eql_f q)
      (apply E_callX hE (c_r2Add false [] t.1 t.2 sb tb sl tl); (case hf => rfl); (case hc => (cbv <;> trivial)); (case hle => (repeat' (first | exact fW | apply dV | apply dR | exact aM | exact dU | exact aI | exact cV | exact aN | exact dY | exact cR | exact gG))); all_goals (first | (intro s1 hs1; cbv) | (assumption)))
      have hs1 : s1 = whN (piSum n (j + 1)) := by
       have k : s1 = _ := hs1;rw [k, eP, ws, wt, so0 od]
      (refine E_cx hE (c_r11Times p.1 p.2 (E.bin .mul .i64 N N) pb pl e7 e8) ?_; intro p' hp'; cbv)
      have hp' : p' = whN ((n ^ (2 * (j + 1) + 1) : Nat) : Int) := nextp p' hp';refine E_nm hE fun kk hkk => ?_; cbv
      have hkk : kk = ((j + 1 : Nat) : Int) := Eq.trans hkk j1;exact ⟨(j + 1, some s1, p'), [0, 1, 2, 3, 4], (step nz s1 p' hs1 hp').1, (step nz s1 p' hs1 hp').2, bV (by repeat' (first | exact trivial | exact rfl | apply And.intro)) rfl rfl rfl (by repeat' (first | exact trivial | exact rfl | apply And.intro)) (by (repeat' (first | exact bW | refine bE ?_ rfl ?_ | exact aM | exact aI | exact aQ | exact lR | exact (rfl : sle2 _ _) | exact ⟨rfl, hkk⟩)))⟩
 | some s =>
  have sb : Lb s.2 := by rw [show s = whN (piSum n j) from hs]; exact whN_lb _
  have sl : s.2.length ≤ 100000 := by rw [show s = whN (piSum n j) from hs]; exact Ae (yO jl) (by decide)
  have ws : wv s.1 s.2 = piSum n j := by rw [show s = whN (piSum n j) from hs]; exact dZ _
  clear hs;cbv;refine E_br_t hE b200 ?_; cbv
  (refine E_px hE cZ ?_; intro sc hsc; cbv)
  (refine E_px hE (c_r11Times p.1 p.2 (E.bin .add .i64 (E.bin .mul .i64 2 (j : Int)) 1) pb pl e5 e6) ?_; intro d hd; cbv)
  obtain ⟨a1, a2, a3, a4, a5, a6, a7⟩ := side sc d hsc hd
  (refine E_px hE (zA sc.1 sc.2 d.1 d.2 a1 a2 a3 a4 a5 a6 a7) ?_; intro t ht; cbv)
  have ht : t = whN (piTerm n j : Int) := tis sc d t hsc hd ht;obtain ⟨tb, tl0, wt, t1, lt⟩ := tf t ht;have tl : t.2.length ≤ 100000 := Ae tl0 (by decide);have tl2 : t.2.length ≤ 268435456 := Ae tl0 (by decide)
  (refine E_cx hE (gM t.1 t.2 tb tl2) ?_; intro sg hsg; cbv)
  have zz := nz_of t.2 t.1 sg t1 lt hsg;refine E_br hE ?_ ?_ <;> intro g <;> cbv
  · have z : piTerm n j = 0 := zz.1 (by subst hE; exact cA g)
    (refine E_px hE (c_r2From (E.bin .sub .i64 (E.bin .sub .i64 0 (j : Int)) 1) e1 e2) ?_; intro a ha; cbv)
    obtain ⟨ab, al, wa⟩ := fl a _ ha ja
    (refine E_px hE (c_r2Add s.1 s.2 a.1 a.2 sb ab sl al) ?_; intro x hx; cbv)
    (refine E_px hE (c_r2From (E.bin .add .i64 (j : Int) 1) e3 e4) ?_; intro b hb; cbv)
    obtain ⟨bb, bl, wb⟩ := fl b _ hb jb
    (refine E_px hE (c_r2Add s.1 s.2 b.1 b.2 sb bb sl bl) ?_; intro y hy; cbv)
    have F := fin x y z (by have k : x = _ := hx; rw [k, eP, ws, wa, jm]) (by have k : y = _ := hy; rw [k, eP, ws, wb, j1]; rfl);exact ⟨⟨congrArg Prod.fst F.1, congrArg Prod.snd F.1, trivial⟩, ⟨congrArg Prod.fst F.2, congrArg Prod.snd F.2, trivial⟩, trivial⟩
  · have nz : piTerm n j ≠ 0 := fun z => (show ¬ sg = 0 by subst hE; exact eql_f g) (zz.2 z)
    refine E_br hE ?_ ?_ <;> intro q <;> cbv
    · have od : j % 2 = 1 := od_of (by subst hE; exact cA q)
      (refine E_cx hE (uA t.1 t.2 tb tl2) ?_; intro u hu; cbv)
      have hu : u = whN (-(piTerm n j : Int)) := by
       have k : u = whN (- wv t.1 t.2) := hu;rw [k, wt]
      have ub : Lb u.2 := by rw [hu]; exact whN_lb _
      have ul : u.2.length ≤ 100000 := by rw [hu]; exact negl
      have wu : wv u.1 u.2 = -(piTerm n j : Int) := by rw [hu]; exact dZ _
      (refine E_cx hE (c_r2Add s.1 s.2 u.1 u.2 sb ub sl ul) ?_; intro s1 hs1; cbv)
      have hs1 : s1 = whN (piSum n (j + 1)) := by
       have k : s1 = _ := hs1;rw [k, eP, ws, wu, so1 od]
      (refine E_cx hE (c_r11Times p.1 p.2 (E.bin .mul .i64 N N) pb pl e7 e8) ?_; intro p' hp'; cbv)
      have hp' : p' = whN ((n ^ (2 * (j + 1) + 1) : Nat) : Int) := nextp p' hp';refine E_nm hE fun kk hkk => ?_; cbv
      have hkk : kk = ((j + 1 : Nat) : Int) := Eq.trans hkk j1;exact ⟨(j + 1, some s1, p'), [0, 1, 2, 3, 4], (step nz s1 p' hs1 hp').1, (step nz s1 p' hs1 hp').2, bV (by repeat' (first | exact trivial | exact rfl | apply And.intro)) rfl rfl rfl (by repeat' (first | exact trivial | exact rfl | apply And.intro)) (by (repeat' (first | exact bW | refine bE ?_ rfl ?_ | exact aM | exact aI | exact aQ | exact lR | exact (rfl : sle2 _ _) | exact ⟨rfl, hkk⟩)))⟩
    · have od : j % 2 ≠ 1 := ev_of (by subst hE; exact eql_f q)
      (refine E_cx hE (c_r2Add s.1 s.2 t.1 t.2 sb tb sl tl) ?_; intro s1 hs1; cbv)
      have hs1 : s1 = whN (piSum n (j + 1)) := by
       have k : s1 = _ := hs1;rw [k, eP, ws, wt, so0 od]
      (refine E_cx hE (c_r11Times p.1 p.2 (E.bin .mul .i64 N N) pb pl e7 e8) ?_; intro p' hp'; cbv)
      have hp' : p' = whN ((n ^ (2 * (j + 1) + 1) : Nat) : Int) := nextp p' hp';refine E_nm hE fun kk hkk => ?_; cbv
      have hkk : kk = ((j + 1 : Nat) : Int) := Eq.trans hkk j1;exact ⟨(j + 1, some s1, p'), [0, 1, 2, 3, 4], (step nz s1 p' hs1 hp').1, (step nz s1 p' hs1 hp').2, bV (by repeat' (first | exact trivial | exact rfl | apply And.intro)) rfl rfl rfl (by repeat' (first | exact trivial | exact rfl | apply And.intro)) (by (repeat' (first | exact bW | refine bE ?_ rfl ?_ | exact aM | exact aI | exact aQ | exact lR | exact (rfl : sle2 _ _) | exact ⟨rfl, hkk⟩)))⟩
end
section
open Go Go.Proofs
attribute [local irreducible] Lb whN piOne piLo piHi
theorem jP : ∃ t : (Bool × List Int) × (Bool × List Int), t = (whN piLoB, whN piHiB) ∧ aC Tryz.prog 132 [] (.tup [.agg [.bool (.s t.1.1), .sli .u32 t.1.2], .agg [.bool (.s t.2.1), .sli .u32 t.2.2]]) := by
 refine ⟨_, rfl, ?_⟩;generalize hr : (whN piLoB, whN piHiB) = r;have r1 : whN (piLo 5 * 16 - piHi 239 * 4) = r.1 := by rw [← hr]; rfl
 have r2 : whN (piHi 5 * 16 - piLo 239 * 4) = r.2 := by rw [← hr]; rfl
 clear hr;refine callsA_o Tryz.func132 fun E hE lp hl' => ?_
 cbv
 (refine E_cx hE (pD 5 (by decide) (by decide) 5 rfl) ?_; intro x hx; cbv)
 have x1 : x.1 = whN (piLo 5) := by rw [show x = (whN (piLo 5), whN (piHi 5)) from hx]
 have x2 : x.2 = whN (piHi 5) := by rw [show x = (whN (piLo 5), whN (piHi 5)) from hx]
 (refine E_cx hE (pD 239 (by decide) (by decide) 239 rfl) ?_; intro y hy; cbv)
 have y1 : y.1 = whN (piLo 239) := by rw [show y = (whN (piLo 239), whN (piHi 239)) from hy]
 have y2 : y.2 = whN (piHi 239) := by rw [show y = (whN (piLo 239), whN (piHi 239)) from hy]
 obtain ⟨xb, xl, xw⟩ := wn 7 x1 (lo7 5);obtain ⟨Xb, Xl, Xw⟩ := wn 7 x2 (hi7 5);obtain ⟨yb, yl, yw⟩ := wn 7 y1 (lo7 239);obtain ⟨Yb, Yl, Yw⟩ := wn 7 y2 (hi7 239);have xl : x.1.2.length < 60000000 := by omega
 have Xl : x.2.2.length < 60000000 := by omega
 have yl : y.1.2.length < 60000000 := by omega
 have Yl : y.2.2.length < 60000000 := by omega
 (refine E_px hE (c_r11Times x.1.1 x.1.2 16 xb xl (by decide) (by decide)) ?_; intro a ha; cbv)
 have ha : a = whN (piLo 5 * 16) := by rw [← xw]; exact ha
 (refine E_px hE (c_r11Times y.2.1 y.2.2 4 Yb Yl (by decide) (by decide)) ?_; intro b hb; cbv)
 have hb : b = whN (piHi 239 * 4) := by rw [← Yw]; exact hb
 obtain ⟨ab, al, aw⟩ := wn 8 ha (wnB (lo7 5) (by decide));obtain ⟨bb, bl, bw⟩ := wn 8 hb (wnB (hi7 239) (by decide));have al : a.2.length ≤ 100000 := by omega
 have bl : b.2.length ≤ 100000 := by omega
 (refine E_px hE (aAV a.1 a.2 b.1 b.2 ab bb al bl) ?_; intro c hc; cbv)
 have hc : c = r.1 := by rw [← r1, ← aw, ← bw]; exact hc
 (refine E_px hE (c_r11Times x.2.1 x.2.2 16 Xb Xl (by decide) (by decide)) ?_; intro d hd; cbv)
 have hd : d = whN (piHi 5 * 16) := by rw [← Xw]; exact hd
 (refine E_px hE (c_r11Times y.1.1 y.1.2 4 yb yl (by decide) (by decide)) ?_; intro e he; cbv)
 have he : e = whN (piLo 239 * 4) := by rw [← yw]; exact he
 obtain ⟨db, dl, dw⟩ := wn 8 hd (wnB (hi7 5) (by decide));obtain ⟨eb, el, ew⟩ := wn 8 he (wnB (lo7 239) (by decide));have dl : d.2.length ≤ 100000 := by omega
 have el : e.2.length ≤ 100000 := by omega
 (refine E_px hE (aAV d.1 d.2 e.1 e.2 db eb dl el) ?_; intro f hf; cbv)
 have hf : f = r.2 := by rw [← r2, ← dw, ← ew]; exact hf
 exact ⟨⟨congrArg Prod.fst hc, congrArg Prod.snd hc, trivial⟩, ⟨congrArg Prod.fst hf, congrArg Prod.snd hf, trivial⟩, trivial⟩
theorem aJO (a : List Int) (hl : a.length < 134217728) : ∃ t : Bool, t = true ∧ aC Tryz.prog 62 [.sli .u32 a, .sli .u32 a] (.bool (.s t)) := by
 refine ⟨_, rfl, ?_⟩;obtain ⟨m, em⟩ : ∃ m : Int → Nat, ∀ i, m i = ((a.length : Int) - i).toNat := ⟨_, fun _ => rfl⟩
 obtain ⟨ok, eok⟩ : ∃ ok : Int → Prop, ∀ i, ok i ↔ 0 ≤ i ∧ i ≤ a.length := ⟨_, fun _ => Bs⟩
 have rng : ∀ i, ok i → 0 ≤ i ∧ i ≤ a.length := fun i h => (eok i).1 h
 have nx : ∀ i j : Int, ok i → i < a.length → j = IntKind.i64.wrap (i + 1) → m j < m i ∧ ok j := by
  intro i j hi h hj;obtain ⟨i0, i1⟩ := rng i hi;rw [wi64_in (by omega) (by omega)] at hj;exact ⟨by rw [em, em]; omega, (eok _).2 ⟨by omega, by omega⟩⟩
 have start : ok 0 := (eok 0).2 ⟨by omega, by omega⟩;refine callsA_o Tryz.func62 fun E hE lp hl' => ?_
 have ne : ∀ x : Int, E.cmp .neq x x = false := by intro x; subst hE; show cmpR .neq x x = false; rw [aH]; exact Az (fun h => h rfl)
 cbv;refine fD hE (ne _) ?_; cbv;refine E_loop hE hG hm hl' (fun i : Int => (⟨[(0, .sli .u32 a), (1, .sli .u32 a), (5, .int .i64 (.s i))], []⟩ : St)) m ok ⟨0, start, stLe rfl ?_⟩ ?_
 · (repeat' (first | exact bC | apply aV | exact aN | exact aM | exact aI | exact bI | exact aQ | exact (rfl : sle2 .s0 .s0)))
 intro i hi;obtain ⟨i0, i1⟩ := rng i hi;cbv;repeat' (first
   | (refine E_br hE ?_ ?_ <;> intro h <;> cbv)
   | (refine E_nm hE fun v hv => ?_; cbv)
   | (refine aT hE (fun b hb => ?_); cbv)
   | fail)
 all_goals (try (exact absurd ((ne _).symm.trans ‹_›) (by decide)))
 all_goals (try (have L : i < a.length := (by have k := ‹E.cmp .lss i (E.len a) = true›; subst hE; exact bF k)))
 all_goals (try (have V : v = IntKind.i64.wrap (i + 1) := (by rw [hv]; subst hE; rfl); refine ⟨v, (nx i v hi L V).1, (nx i v hi L V).2, stLe rfl ?_⟩; (repeat' (first | exact bC | apply aV | exact aN | exact aM | exact aI | exact bI | exact aQ | exact (rfl : sle2 .s0 .s0)))))
 all_goals (first | rfl | (subst hE; simp only [NatCast.natCast, Ac, aB, aE, aH, aG, aF, aK, aL, aA, Ab, Aa, SI.val, SB.val, Num.eta, Iv.eta] at *; omega) | trace_state)
end
section
open Go Go.Proofs
attribute [local irreducible] Lb whN piOne piLo piHi piLoB piHiB
theorem aBO (na : Bool) (a : List Int) (hl : a.length < 134217728) : ∃ t : Bool, t = true ∧ aC Tryz.prog 20 [.agg [.bool (.s na), .sli .u32 a], .agg [.bool (.s na), .sli .u32 a]] (.bool (.s t)) := by
 refine ⟨_, rfl, ?_⟩;refine callsA_o Tryz.func20 fun E hE lp hl' => ?_
 have be : E.beq na na = true := by subst hE; exact beq_self_eq_true na
 cbv
 (refine E_cx hE (aJO a hl) ?_; intro t ht; cbv)
 refine E_br_t hE ht ?_; cbv;exact be
theorem c_r7Ratio (na : Bool) (a : List Int) (nb : Bool) (b : List Int) (up : Bool) (ha : Lb a) (hb : Lb b) (hla : a.length ≤ 1000) (hlb : b.length ≤ 1000) :
 ∃ t : Num, t = fT na (lv a) nb (lv b) 0 up ∧ aC Tryz.prog 202 [.agg [.bool (.s na), .sli .u32 a], .agg [.bool (.s nb), .sli .u32 b], .bool (.s up)] t.av := by
 refine ⟨_, rfl, ?_⟩;generalize hr : fT na (lv a) nb (lv b) 0 up = r;refine callsA_o Tryz.func202 fun E hE lp hl' => ?_
 cbv
 (refine E_cx hE (aKC na a nb b 0 up ha hb hla hlb (by decide)) ?_; intro t ht; cbv)
 have k : t = r := Eq.trans ht hr;rw [← k]; exact ⟨rfl, rfl, rfl, rfl, trivial⟩
end
section
open Go
attribute [local irreducible] Lb whN
def bB (x : Int) : Int := (x * 2 + piLoB) / ((piLoB * 2).toNat : Int)
def sineLo (x : Int) : Int := if bB x < 0 then x - bB x * piLoB else x - bB x * piHiB
def sineHi (x y : Int) : Int := if bB x < 0 then y - bB x * piHiB else y - bB x * piLoB
def dN (x y : Int) : Int := sineHi x y - sineLo x + 200
def bnd1 (x : Int) : Int := if (piOne : Int) < x then piOne else if x < -(piOne : Int) then -piOne else x
def sineA (x y : Int) : Int := if bB x % 2 = 0 then serN (sineLo x) - dN x y else -(serN (sineLo x) + dN x y)
def sineB (x y : Int) : Int := if bB x % 2 = 0 then serN (sineLo x) + dN x y else -(serN (sineLo x) - dN x y)
def eF (x y : Int) : Int × Int := (bnd1 (sineA x y), bnd1 (sineB x y))
theorem eU : 0 < piLoB ∧ (((piLoB * 2).toNat : Nat) : Int) = piLoB * 2 ∧ (piLoB * 2).toNat ≠ 0 := by decide +kernel
theorem pC : wl piLoB ≤ 9 ∧ wl piHiB ≤ 9 ∧ wl (piLoB * 2) ≤ 10 := by
 have a : wl piLoB ≤ 9 := dW (by decide +kernel);have b : wl piHiB ≤ 9 := dW (by decide +kernel);have c := fU piLoB 2;have d : wl 2 ≤ 1 := dW (k := 1) (by decide);exact ⟨a, b, by omega⟩
theorem qX (x y : Int) : wl (x - y) ≤ max (wl x) (wl y) + 1 := by
 have := gB x (-y);rw [kD, ← Int.sub_eq_add_neg] at this;exact this
theorem zV (z : Int) : wl (serN z) ≤ 607 := by
 unfold serN;split
 · exact Ae (dW (k := 1) (by decide)) (by decide)
 · rename_i h;have := (aMX (aAN h) 40).2;omega
theorem uF {x y : Int} (hx : wl x ≤ 100) (hy : wl y ≤ 100) : wl (x * 2) ≤ 101 ∧ wl (x * 2 + piLoB) ≤ 102 ∧ wl (bB x) ≤ 102 ∧ wl (sineLo x) ≤ 112 ∧ wl (sineHi x y) ≤ 112 ∧ wl (sineHi x y - sineLo x) ≤ 113 ∧ wl (dN x y) ≤ 114 ∧
 wl (serN (sineLo x) - dN x y) ≤ 608 ∧ wl (serN (sineLo x) + dN x y) ≤ 608 ∧ wl (sineA x y) ≤ 608 ∧ wl (sineB x y) ≤ 608 := by
 obtain ⟨p1, p2, p3⟩ := pC;have d : wl 2 ≤ 1 := dW (k := 1) (by decide);have d2 : wl 200 ≤ 1 := dW (k := 1) (by decide);have a1 := fU x 2;have a2 := gB (x * 2) piLoB;have a3 : wl (bB x) ≤ 102 := by
  unfold bB;have := lZ (x * 2 + piLoB) eU.2.2;omega
 have m1 := fU (bB x) piLoB;have m2 := fU (bB x) piHiB;have a4 : wl (sineLo x) ≤ 112 := by
  unfold sineLo;have := qX x (bB x * piLoB);have := qX x (bB x * piHiB);split <;> omega
 have a5 : wl (sineHi x y) ≤ 112 := by
  unfold sineHi;have := qX y (bB x * piLoB);have := qX y (bB x * piHiB);split <;> omega
 have a6 := qX (sineHi x y) (sineLo x);have a7 : wl (dN x y) ≤ 114 := by
  unfold dN;have := gB (sineHi x y - sineLo x) 200;omega
 have s := zV (sineLo x);have a8 := qX (serN (sineLo x)) (dN x y);have a9 := gB (serN (sineLo x)) (dN x y);refine ⟨by omega, by omega, a3, a4, a5, by omega, a7, by omega, by omega, ?_, ?_⟩
 · unfold sineA; split
   · omega
   · rw [kD]; omega
 · unfold sineB; split
   · omega
   · rw [kD]; omega
end
section
open Go Go.Proofs
attribute [local irreducible] Lb whN
set_option maxHeartbeats 4000000 in
theorem aMB (x y : Int) (a b lo hi : Bool × List Int) (cs : Bool) (ha : a = whN x) (hb : b = whN y) (hlo : lo = whN piLoB) (hhi : hi = whN piHiB) (la : wl x ≤ 100) (lb : wl y ≤ 100) :
 ∃ t : (Bool × List Int) × (Bool × List Int), (t.1 = whN (eF x y).1 ∧ t.2 = whN (eF x y).2) ∧
  aC Tryz.prog 152 [.agg [.bool (.s lo.1), .sli .u32 lo.2, .bool (.s hi.1), .sli .u32 hi.2, .bool (.s cs)], .agg [.bool (.s a.1), .sli .u32 a.2, .bool (.s b.1), .sli .u32 b.2]] (.agg [.bool (.s t.1.1), .sli .u32 t.1.2, .bool (.s t.2.1), .sli .u32 t.2.2]) := by
 refine ⟨(whN (eF x y).1, whN (eF x y).2), ⟨rfl, rfl⟩, ?_⟩;generalize hr1 : whN (eF x y).1 = r1;generalize hr2 : whN (eF x y).2 = r2;obtain ⟨p1, p2, p3⟩ := pC;obtain ⟨w1, w2, w3, w4, w5, w6, w7, w8, w9, w10, w11⟩ := uF la lb;have l2 : wl 2 ≤ 90000 := Ae (dW (k := 1) (by decide)) (by decide);have l200 : wl 200 ≤ 90000 := Ae (dW (k := 1) (by decide)) (by decide);have i2 : whN 2 = (decide ((2 : Int) < 0), lim (2 : Int).natAbs) := bA 2;have i200 : whN 200 = (decide ((200 : Int) < 0), lim (200 : Int).natAbs) := bA 200;have nn := eU.2.2;have ne : whN (piLoB * 2) = whN (((piLoB * 2).toNat : Nat) : Int) := by rw [eU.2.1]
 have nl : wl (((piLoB * 2).toNat : Nat) : Int) ≤ 90000 := by rw [eU.2.1]; omega
 have x1 : wl x ≤ 90000 := by omega
 have x2 : wl (x * 2) ≤ 90000 := by omega
 have x3 : wl piLoB ≤ 90000 := by omega
 have x4 : wl (x * 2 + piLoB) ≤ 90000 := by omega
 have y1 : wl x ≤ 80000 := by omega
 have y2 : wl y ≤ 80000 := by omega
 have y3 : wl (bB x) ≤ 30000 := by omega
 have y4 : wl piLoB ≤ 30000 := by omega
 have y5 : wl piHiB ≤ 30000 := by omega
 have z1 : wl (sineHi x y) ≤ 90000 := by omega
 have z2 : wl (sineLo x) ≤ 90000 := by omega
 have z3 : wl (sineHi x y - sineLo x) ≤ 90000 := by omega
 have z4 : wl (dN x y) ≤ 90000 := by omega
 have z5 : wl (serN (sineLo x)) ≤ 90000 := Ae (zV _) (by decide);have R : ∀ r : Bool × List Int, r = whN (sineLo x) → Lb r.2 ∧ r.2.length ≤ 1000 ∧ wv r.1 r.2 = sineLo x := by
  intro r h; obtain ⟨v, b, l⟩ := dL h; exact ⟨b, by omega, v⟩
 have PA : ∀ q : Bool × List Int, q = whN (bB x) → 0 < q.2.length → (aA .and .u32 (q.2.getD 0 0) 1 = 1 ↔ ¬ bB x % 2 = 0) := by
  intro q h hp;have bq : Lb q.2 := by rw [h]; exact whN_lb _
  have v : lv q.2 = (bB x).natAbs := by rw [h, bA]; exact aJ _
  have m := aAH bq hp;have g := bq.getD 0;rw [aHV g.1 g.2];rw [v] at m;omega
 have PB : ∀ q : Bool × List Int, q = whN (bB x) → ¬ 0 < q.2.length → bB x % 2 = 0 := by
  intro q h hp;have v : lv q.2 = (bB x).natAbs := by rw [h, bA]; exact aJ _
  have e : q.2 = [] := List.length_eq_zero_iff.1 (by omega);rw [e] at v;have : lv ([] : List Int) = 0 := rfl;omega
 have A0 : bB x % 2 = 0 → whN (serN (sineLo x) - dN x y) = whN (sineA x y) ∧ whN (serN (sineLo x) + dN x y) = whN (sineB x y) := by
  intro h; unfold sineA sineB; rw [if_pos h, if_pos h]; exact ⟨rfl, rfl⟩
 have A1 : ¬ bB x % 2 = 0 → whN (-(serN (sineLo x) + dN x y)) = whN (sineA x y) ∧ whN (-(serN (sineLo x) - dN x y)) = whN (sineB x y) := by
  intro h; unfold sineA sineB; rw [if_neg h, if_neg h]; exact ⟨rfl, rfl⟩
 have v1 : wl (serN (sineLo x) - dN x y) ≤ 80000 := by omega
 have v2 : wl (serN (sineLo x) + dN x y) ≤ 80000 := by omega
 have v3 : wl (sineA x y) ≤ 80000 := by omega
 have v4 : wl (sineB x y) ≤ 80000 := by omega
 have B1 : ∀ v : Bool × List Int, v = whN (bnd1 (sineA x y)) → v = r1 := by intro v h; rw [h, ← hr1]; rfl
 have B2 : ∀ v : Bool × List Int, v = whN (bnd1 (sineB x y)) → v = r2 := by intro v h; rw [h, ← hr2]; rfl
 clear hr1 hr2;refine callsA_o Tryz.func152 fun E hE lp hl => ?_
 cbv
 (refine E_cx hE (c_wFrom 2 (by decide) (by decide)) ?_; intro two h2; cbv)
 have h2 : two = whN 2 := by rw [i2]; exact h2
 apply E_pcallX hE (z_wMul x 2 a two ha h2 x1 l2)
 case hm => rfl
 case hle => exact ⟨bK, trivial⟩
 intro u1 hu1;cbv
 (refine E_px hE (z_wAdd _ piLoB u1 lo hu1 hlo x2 x3) ?_; intro u2 hu2; cbv)
 apply E_pcallX hE (z_wMul piLoB 2 lo two hlo h2 x3 l2)
 case hm => rfl
 case hle => exact ⟨bK, trivial⟩
 intro u3 hu3;cbv;have hu3 := Eq.trans hu3 ne
 (refine E_px hE (c_trDown _ _ nn u2 u3 hu2 hu3 x4 nl) ?_; intro q hq; cbv)
 have hq : q = whN (bB x) := hq
 (refine E_cx hE (aLZ x y (bB x) piLoB piHiB a b q lo hi ha hb hq hlo hhi y1 y2 y3 y4 y5) ?_; intro r hr_; cbv)
 have rl : r.1 = whN (sineLo x) := hr_.1;have rh : r.2 = whN (sineHi x y) := hr_.2;obtain ⟨R1, R2, R3⟩ := R _ rl
 (refine E_cx hE (aCG r.1.1 r.1.2 R1 R2) ?_; intro s hs; cbv)
 have hs : s = whN (serN (sineLo x)) := by have k : s = whN (serN (wv r.1.1 r.1.2)) := hs; rw [k, R3]
 (refine E_cx hE (z_wSub _ _ r.2 r.1 rh rl z1 z2) ?_; intro d hd; cbv)
 (refine E_cx hE (c_wFrom 200 (by decide) (by decide)) ?_; intro th h200; cbv)
 have h200 : th = whN 200 := by rw [i200]; exact h200
 (refine E_cx hE (z_wAdd _ 200 d th hd h200 z3 l200) ?_; intro e he; cbv)
 have he : e = whN (dN x y) := he
 (refine E_px hE (z_wSub _ _ s e hs he z5 z4) ?_; intro o1 ho1; cbv)
 (refine E_px hE (z_wAdd _ _ s e hs he z5 z4) ?_; intro o2 ho2; cbv)
 refine E_br hE ?_ ?_ <;> intro g <;> cbv
 · have ql : 0 < q.2.length := by
    have k : (0 : Int) < (q.2.length : Int) := by subst hE; exact cU g
    omega
   have pa := PA q hq ql;refine E_br hE ?_ ?_ <;> intro g2 <;> cbv
   · refine E_br hE ?_ ?_ <;> intro g3 <;> cbv
     · have od := pa.1 (by subst hE; exact cA g3)
       (refine E_cx hE (aPO _ _ o1 o2 ho1 ho2 v1 v2) ?_; intro t ht; cbv)
       have eA := Eq.trans ht.1 (A1 od).1;have eB := Eq.trans ht.2 (A1 od).2
       (refine E_px hE (c_trBound (sineA x y) t.1 eA v3) ?_; intro v hv; cbv)
       (refine E_px hE (c_trBound (sineB x y) t.2 eB v4) ?_; intro w hw; cbv)
       have k1 := B1 v hv;have k2 := B2 w hw;rw [← k1, ← k2]; exact ⟨rfl, rfl, rfl, rfl, trivial⟩
     · have ev : bB x % 2 = 0 := Classical.byContradiction (fun z => (by subst hE; exact eql_f g3 : ¬ aA .and .u32 (q.2.getD 0 0) 1 = 1) (pa.2 z));have eA := Eq.trans ho1 (A0 ev).1;have eB := Eq.trans ho2 (A0 ev).2
       (refine E_px hE (c_trBound (sineA x y) o1 eA v3) ?_; intro v hv; cbv)
       (refine E_px hE (c_trBound (sineB x y) o2 eB v4) ?_; intro w hw; cbv)
       have k1 := B1 v hv;have k2 := B2 w hw;rw [← k1, ← k2]; exact ⟨rfl, rfl, rfl, rfl, trivial⟩
   · exfalso;have k : ¬ (0 : Int) < (q.2.length : Int) := by subst hE; exact aW g2
     omega
 · have ev := PB q hq (by
     have k : ¬ (0 : Int) < (q.2.length : Int) := by subst hE; exact dB g
     omega)
   have eA := Eq.trans ho1 (A0 ev).1;have eB := Eq.trans ho2 (A0 ev).2
   (refine E_px hE (c_trBound (sineA x y) o1 eA v3) ?_; intro v hv; cbv)
   (refine E_px hE (c_trBound (sineB x y) o2 eB v4) ?_; intro w hw; cbv)
   have k1 := B1 v hv;have k2 := B2 w hw;rw [← k1, ← k2]; exact ⟨rfl, rfl, rfl, rfl, trivial⟩
theorem yX (z : Int) : (if z < -(piOne : Int) then -(piOne : Int) else if (piOne : Int) < z then (piOne : Int) else z) = bnd1 z := by
 have p : 0 < piOne := by decide +kernel
 unfold bnd1;by_cases h1 : z < -(piOne : Int)
 · rw [if_pos h1, if_neg (by omega), if_pos h1]
 · rw [if_neg h1];by_cases h2 : (piOne : Int) < z
   · rw [if_pos h2, if_pos h2]
   · rw [if_neg h2, if_neg h2, if_neg h1]
set_option maxHeartbeats 4000000 in
theorem xX (x y : Int) (a b : Bool × List Int) (ha : a = whN x) (hb : b = whN y) (la : wl x ≤ 100) (lb : wl y ≤ 100) :
 ∃ t : (Bool × List Int) × (Bool × List Int), (t.1 = whN (eF x y).1 ∧ t.2 = whN (eF x y).2) ∧
  aC Tryz.prog 153 [.agg [.bool (.s a.1), .sli .u32 a.2], .agg [.bool (.s b.1), .sli .u32 b.2]] (.tup [.agg [.bool (.s t.1.1), .sli .u32 t.1.2], .agg [.bool (.s t.2.1), .sli .u32 t.2.2]]) := by
 refine ⟨(whN (eF x y).1, whN (eF x y).2), ⟨rfl, rfl⟩, ?_⟩;generalize hr1 : whN (eF x y).1 = r1;generalize hr2 : whN (eF x y).2 = r2;obtain ⟨p1, p2, p3⟩ := pC;obtain ⟨w1, w2, w3, w4, w5, w6, w7, w8, w9, w10, w11⟩ := uF la lb;have l2 : wl 2 ≤ 90000 := Ae (dW (k := 1) (by decide)) (by decide);have l200 : wl 200 ≤ 90000 := Ae (dW (k := 1) (by decide)) (by decide);have i2 : whN 2 = (decide ((2 : Int) < 0), lim (2 : Int).natAbs) := bA 2;have i200 : whN 200 = (decide ((200 : Int) < 0), lim (200 : Int).natAbs) := bA 200;have nn := eU.2.2;have ne : whN (piLoB * 2) = whN (((piLoB * 2).toNat : Nat) : Int) := by rw [eU.2.1]
 have nl : wl (((piLoB * 2).toNat : Nat) : Int) ≤ 90000 := by rw [eU.2.1]; omega
 have x1 : wl x ≤ 90000 := by omega
 have x2 : wl (x * 2) ≤ 90000 := by omega
 have x3 : wl piLoB ≤ 90000 := by omega
 have x4 : wl (x * 2 + piLoB) ≤ 90000 := by omega
 have y1 : wl x ≤ 80000 := by omega
 have y2 : wl y ≤ 80000 := by omega
 have y3 : wl (bB x) ≤ 30000 := by omega
 have y4 : wl piLoB ≤ 30000 := by omega
 have y5 : wl piHiB ≤ 30000 := by omega
 have z1 : wl (sineHi x y) ≤ 90000 := by omega
 have z2 : wl (sineLo x) ≤ 90000 := by omega
 have z3 : wl (sineHi x y - sineLo x) ≤ 90000 := by omega
 have z4 : wl (dN x y) ≤ 90000 := by omega
 have z5 : wl (serN (sineLo x)) ≤ 90000 := Ae (zV _) (by decide);have R : ∀ r : Bool × List Int, r = whN (sineLo x) → Lb r.2 ∧ r.2.length ≤ 1000 ∧ wv r.1 r.2 = sineLo x := by
  intro r h; obtain ⟨v, b, l⟩ := dL h; exact ⟨b, by omega, v⟩
 have PA : ∀ q : Bool × List Int, q = whN (bB x) → 0 < q.2.length → (aA .rem .u32 (q.2.getD 0 0) 2 = 1 ↔ ¬ bB x % 2 = 0) := by
  intro q h hp;have bq : Lb q.2 := by rw [h]; exact whN_lb _
  have v : lv q.2 = (bB x).natAbs := by rw [h, bA]; exact aJ _
  have m := aAH bq hp;have g := bq.getD 0;rw [aCM g.1];rw [v] at m;omega
 have PB : ∀ q : Bool × List Int, q = whN (bB x) → ¬ 0 < q.2.length → bB x % 2 = 0 := by
  intro q h hp;have v : lv q.2 = (bB x).natAbs := by rw [h, bA]; exact aJ _
  have e : q.2 = [] := List.length_eq_zero_iff.1 (by omega);rw [e] at v;have : lv ([] : List Int) = 0 := rfl;omega
 have A0 : bB x % 2 = 0 → whN (serN (sineLo x) - dN x y) = whN (sineA x y) ∧ whN (serN (sineLo x) + dN x y) = whN (sineB x y) := by
  intro h; unfold sineA sineB; rw [if_pos h, if_pos h]; exact ⟨rfl, rfl⟩
 have A1 : ¬ bB x % 2 = 0 → whN (-(serN (sineLo x) + dN x y)) = whN (sineA x y) ∧ whN (-(serN (sineLo x) - dN x y)) = whN (sineB x y) := by
  intro h; unfold sineA sineB; rw [if_neg h, if_neg h]; exact ⟨rfl, rfl⟩
 have v1 : wl (serN (sineLo x) - dN x y) ≤ 80000 := by omega
 have v2 : wl (serN (sineLo x) + dN x y) ≤ 80000 := by omega
 have v3 : wl (sineA x y) ≤ 80000 := by omega
 have v4 : wl (sineB x y) ≤ 80000 := by omega
 have B1 : ∀ v : Bool × List Int, v = whN (if sineA x y < -(piOne : Int) then -piOne else if (piOne : Int) < sineA x y then piOne else sineA x y) → v = r1 := by intro v h; rw [h, ← hr1, yX]; rfl
 have B2 : ∀ v : Bool × List Int, v = whN (if sineB x y < -(piOne : Int) then -piOne else if (piOne : Int) < sineB x y then piOne else sineB x y) → v = r2 := by intro v h; rw [h, ← hr2, yX]; rfl
 clear hr1 hr2;have lo1 : wl (piOne : Int) ≤ 90000 := Ae kU (by decide);have lo2 : wl (piOne : Int) ≤ 80000 := Ae kU (by decide);have ln1 : wl (-(piOne : Int)) ≤ 80000 := by rw [kD]; exact lo2
 have n1 : wl (serN (sineLo x) - dN x y) ≤ 90000 := by omega
 have n2 : wl (serN (sineLo x) + dN x y) ≤ 90000 := by omega
 have q1 : wl (bB x) ≤ 90000 := by omega
 have q2 : wl piHiB ≤ 90000 := by omega
 have b1 : wl y ≤ 90000 := by omega
 have q3 : wl (bB x * piHiB) ≤ 90000 := by have := fU (bB x) piHiB; omega
 have q4 : wl (bB x * piLoB) ≤ 90000 := by have := fU (bB x) piLoB; omega
 have sg : ∀ s : Int, s = (if bB x < 0 then -1 else if 0 < bB x then 1 else 0) → (s < 0 ↔ bB x < 0) := by
  intro s h; rw [h];by_cases h1 : bB x < 0
  · rw [if_pos h1]; omega
  · rw [if_neg h1];by_cases h2 : 0 < bB x
    · rw [if_pos h2]; omega
    · rw [if_neg h2]; omega
 have S1 : bB x < 0 → whN (x - bB x * piLoB) = whN (sineLo x) ∧ whN (y - bB x * piHiB) = whN (sineHi x y) := by intro h; unfold sineLo sineHi; rw [if_pos h, if_pos h]; exact ⟨rfl, rfl⟩
 have S2 : ¬ bB x < 0 → whN (x - bB x * piHiB) = whN (sineLo x) ∧ whN (y - bB x * piLoB) = whN (sineHi x y) := by intro h; unfold sineLo sineHi; rw [if_neg h, if_neg h]; exact ⟨rfl, rfl⟩
 refine callsA_o Tryz.func153 fun E hE lp hl => ?_
 cbv
 (refine E_cx hE jP ?_; intro bo hbo; cbv)
 have hlo : bo.1 = whN piLoB := by have k : bo = (whN piLoB, whN piHiB) := hbo; rw [k]
 have hhi : bo.2 = whN piHiB := by have k : bo = (whN piLoB, whN piHiB) := hbo; rw [k]
 (refine E_px hE (z_rTimes x 2 a ha x1 (by decide) (by decide)) ?_; intro u1 hu1; cbv)
 (refine E_px hE (z_rAdd _ piLoB u1 bo.1 hu1 hlo x2 x3) ?_; intro u2 hu2; cbv)
 (refine E_px hE (z_rTimes piLoB 2 bo.1 hlo x3 (by decide) (by decide)) ?_; intro u3 hu3; cbv)
 have hu3 := Eq.trans hu3 ne
 (refine E_px hE (nI _ _ nn u2 u3 hu2 hu3 x4 nl) ?_; intro q hq; cbv)
 have hq : q = whN (bB x) := hq
 (refine E_px hE (xB (bB x) piHiB q bo.2 hq hhi q1 q2) ?_; intro m1 hm1; cbv)
 (refine E_px hE (kY x _ a m1 ha hm1 x1 q3) ?_; intro r hr0; cbv)
 (refine E_px hE (xB (bB x) piLoB q bo.1 hq hlo q1 x3) ?_; intro m2 hm2; cbv)
 (refine E_px hE (kY y _ b m2 hb hm2 b1 q4) ?_; intro t ht0; cbv)
 (refine E_cx hE (aPT (bB x) q hq q1) ?_; intro sn hsn; cbv)
 have S := sg sn hsn;refine E_br hE ?_ ?_ <;> intro gs <;> cbv
 · have gs := S1 (S.1 (show sn < 0 by subst hE; exact bF gs))
   (refine E_px hE (xB (bB x) piLoB q bo.1 hq hlo q1 x3) ?_; intro m3 hm3; cbv)
   (refine E_px hE (kY x _ a m3 ha hm3 x1 q4) ?_; intro r' hr'0; cbv)
   (refine E_px hE (xB (bB x) piHiB q bo.2 hq hhi q1 q2) ?_; intro m4 hm4; cbv)
   (refine E_px hE (kY y _ b m4 hb hm4 b1 q3) ?_; intro t' ht'0; cbv)
   have hr' := Eq.trans hr'0 gs.1;have ht' := Eq.trans ht'0 gs.2;obtain ⟨R1, R2, R3⟩ := R _ hr'
   (refine E_cx hE (c_r12Series r'.1 r'.2 R1 R2) ?_; intro s hs; cbv)
   have hs : s = whN (serN (sineLo x)) := by have k : s = whN (serN (wv r'.1 r'.2)) := hs; rw [k, R3]
   (refine E_cx hE (kY _ _ t' r' ht' hr' z1 z2) ?_; intro d hd; cbv)
   (refine E_cx hE (c_r2From 200 (by decide) (by decide)) ?_; intro th h200; cbv)
   have h200 : th = whN 200 := h200
   (refine E_cx hE (z_rAdd _ 200 d th hd h200 z3 l200) ?_; intro e he; cbv)
   have he : e = whN (dN x y) := he
   (refine E_cx hE (kY _ _ s e hs he z5 z4) ?_; intro o1 ho1; cbv)
   (refine E_cx hE (z_rAdd _ _ s e hs he z5 z4) ?_; intro o2 ho2; cbv)
   refine E_br hE ?_ ?_ <;> intro g <;> cbv
   · have ql : 0 < q.2.length := by
      have k : (0 : Int) < (q.2.length : Int) := by subst hE; exact cU g
      omega
     have pa := PA q hq ql;refine E_br hE ?_ ?_ <;> intro g2 <;> cbv
     · refine E_br hE ?_ ?_ <;> intro g3 <;> cbv
       · have od := pa.1 (by subst hE; exact cA g3)
         (refine E_cx hE (z_rNeg _ o2 ho2 n2) ?_; intro t1 ht1; cbv)
         (refine E_cx hE (z_rNeg _ o1 ho1 n1) ?_; intro t2 ht2; cbv)
         have eA := Eq.trans ht1 (A1 od).1;have eB := Eq.trans ht2 (A1 od).2
         (refine E_cx hE cZ ?_; intro one hone; cbv)
         (refine E_cx hE (z_rNeg piOne one hone lo1) ?_; intro non hnon; cbv)
         (refine E_px hE (cY (sineA x y) (-piOne) piOne t1 non one eA hnon hone v3 ln1 lo2) ?_; intro v hv; cbv)
         (refine E_px hE (cY (sineB x y) (-piOne) piOne t2 non one eB hnon hone v4 ln1 lo2) ?_; intro w hw; cbv)
         have k1 := B1 v hv;have k2 := B2 w hw;rw [← k1, ← k2]; exact ⟨⟨rfl, rfl, trivial⟩, ⟨rfl, rfl, trivial⟩, trivial⟩
       · have ev : bB x % 2 = 0 := Classical.byContradiction (fun z => (by subst hE; exact eql_f g3 : ¬ aA .rem .u32 (q.2.getD 0 0) 2 = 1) (pa.2 z));have eA := Eq.trans ho1 (A0 ev).1;have eB := Eq.trans ho2 (A0 ev).2
         (refine E_cx hE cZ ?_; intro one hone; cbv)
         (refine E_cx hE (z_rNeg piOne one hone lo1) ?_; intro non hnon; cbv)
         (refine E_px hE (cY (sineA x y) (-piOne) piOne o1 non one eA hnon hone v3 ln1 lo2) ?_; intro v hv; cbv)
         (refine E_px hE (cY (sineB x y) (-piOne) piOne o2 non one eB hnon hone v4 ln1 lo2) ?_; intro w hw; cbv)
         have k1 := B1 v hv;have k2 := B2 w hw;rw [← k1, ← k2]; exact ⟨⟨rfl, rfl, trivial⟩, ⟨rfl, rfl, trivial⟩, trivial⟩
     · exfalso;have k : ¬ (0 : Int) < (q.2.length : Int) := by subst hE; exact aW g2
       omega
   · have ev := PB q hq (by
       have k : ¬ (0 : Int) < (q.2.length : Int) := by subst hE; exact dB g
       omega)
     have eA := Eq.trans ho1 (A0 ev).1;have eB := Eq.trans ho2 (A0 ev).2
     (refine E_cx hE cZ ?_; intro one hone; cbv)
     (refine E_cx hE (z_rNeg piOne one hone lo1) ?_; intro non hnon; cbv)
     (refine E_px hE (cY (sineA x y) (-piOne) piOne o1 non one eA hnon hone v3 ln1 lo2) ?_; intro v hv; cbv)
     (refine E_px hE (cY (sineB x y) (-piOne) piOne o2 non one eB hnon hone v4 ln1 lo2) ?_; intro w hw; cbv)
     have k1 := B1 v hv;have k2 := B2 w hw;rw [← k1, ← k2]; exact ⟨⟨rfl, rfl, trivial⟩, ⟨rfl, rfl, trivial⟩, trivial⟩
 · have gs := S2 (fun z => (show ¬ sn < 0 by subst hE; exact aW gs) (S.2 z));have hr := Eq.trans hr0 gs.1;have ht := Eq.trans ht0 gs.2;obtain ⟨R1, R2, R3⟩ := R _ hr
   (refine E_cx hE (c_r12Series r.1 r.2 R1 R2) ?_; intro s hs; cbv)
   have hs : s = whN (serN (sineLo x)) := by have k : s = whN (serN (wv r.1 r.2)) := hs; rw [k, R3]
   (refine E_cx hE (kY _ _ t r ht hr z1 z2) ?_; intro d hd; cbv)
   (refine E_cx hE (c_r2From 200 (by decide) (by decide)) ?_; intro th h200; cbv)
   have h200 : th = whN 200 := h200
   (refine E_cx hE (z_rAdd _ 200 d th hd h200 z3 l200) ?_; intro e he; cbv)
   have he : e = whN (dN x y) := he
   (refine E_cx hE (kY _ _ s e hs he z5 z4) ?_; intro o1 ho1; cbv)
   (refine E_cx hE (z_rAdd _ _ s e hs he z5 z4) ?_; intro o2 ho2; cbv)
   refine E_br hE ?_ ?_ <;> intro g <;> cbv
   · have ql : 0 < q.2.length := by
      have k : (0 : Int) < (q.2.length : Int) := by subst hE; exact cU g
      omega
     have pa := PA q hq ql;refine E_br hE ?_ ?_ <;> intro g2 <;> cbv
     · refine E_br hE ?_ ?_ <;> intro g3 <;> cbv
       · have od := pa.1 (by subst hE; exact cA g3)
         (refine E_cx hE (z_rNeg _ o2 ho2 n2) ?_; intro t1 ht1; cbv)
         (refine E_cx hE (z_rNeg _ o1 ho1 n1) ?_; intro t2 ht2; cbv)
         have eA := Eq.trans ht1 (A1 od).1;have eB := Eq.trans ht2 (A1 od).2
         (refine E_cx hE cZ ?_; intro one hone; cbv)
         (refine E_cx hE (z_rNeg piOne one hone lo1) ?_; intro non hnon; cbv)
         (refine E_px hE (cY (sineA x y) (-piOne) piOne t1 non one eA hnon hone v3 ln1 lo2) ?_; intro v hv; cbv)
         (refine E_px hE (cY (sineB x y) (-piOne) piOne t2 non one eB hnon hone v4 ln1 lo2) ?_; intro w hw; cbv)
         have k1 := B1 v hv;have k2 := B2 w hw;rw [← k1, ← k2]; exact ⟨⟨rfl, rfl, trivial⟩, ⟨rfl, rfl, trivial⟩, trivial⟩
       · have ev : bB x % 2 = 0 := Classical.byContradiction (fun z => (by subst hE; exact eql_f g3 : ¬ aA .rem .u32 (q.2.getD 0 0) 2 = 1) (pa.2 z));have eA := Eq.trans ho1 (A0 ev).1;have eB := Eq.trans ho2 (A0 ev).2
         (refine E_cx hE cZ ?_; intro one hone; cbv)
         (refine E_cx hE (z_rNeg piOne one hone lo1) ?_; intro non hnon; cbv)
         (refine E_px hE (cY (sineA x y) (-piOne) piOne o1 non one eA hnon hone v3 ln1 lo2) ?_; intro v hv; cbv)
         (refine E_px hE (cY (sineB x y) (-piOne) piOne o2 non one eB hnon hone v4 ln1 lo2) ?_; intro w hw; cbv)
         have k1 := B1 v hv;have k2 := B2 w hw;rw [← k1, ← k2]; exact ⟨⟨rfl, rfl, trivial⟩, ⟨rfl, rfl, trivial⟩, trivial⟩
     · exfalso;have k : ¬ (0 : Int) < (q.2.length : Int) := by subst hE; exact aW g2
       omega
   · have ev := PB q hq (by
       have k : ¬ (0 : Int) < (q.2.length : Int) := by subst hE; exact dB g
       omega)
     have eA := Eq.trans ho1 (A0 ev).1;have eB := Eq.trans ho2 (A0 ev).2
     (refine E_cx hE cZ ?_; intro one hone; cbv)
     (refine E_cx hE (z_rNeg piOne one hone lo1) ?_; intro non hnon; cbv)
     (refine E_px hE (cY (sineA x y) (-piOne) piOne o1 non one eA hnon hone v3 ln1 lo2) ?_; intro v hv; cbv)
     (refine E_px hE (cY (sineB x y) (-piOne) piOne o2 non one eB hnon hone v4 ln1 lo2) ?_; intro w hw; cbv)
     have k1 := B1 v hv;have k2 := B2 w hw;rw [← k1, ← k2]; exact ⟨⟨rfl, rfl, trivial⟩, ⟨rfl, rfl, trivial⟩, trivial⟩
theorem w0 : whN 0 = (false, []) := by unfold whN; rfl
theorem wm1 : whN (-1) = (decide ((-1 : Int) < 0), lim (-1 : Int).natAbs) := by unfold whN; rfl
set_option maxHeartbeats 2000000 in
theorem aLX (n : Num) (on : n.ok) : ∃ t : (Bool × List Int) × Bool, t = (whN (fixV n).1, (fixV n).2) ∧ aC Tryz.prog 123 [n.av] (.tup [.agg [.bool (.s t.1.1), .sli .u32 t.1.2], .bool (.s t.2)]) := by
 refine ⟨_, rfl, ?_⟩;generalize hr : (whN (fixV n).1, (fixV n).2) = r;have F0 : n.may = false → (whN 0, true) = r := by intro h; rw [← hr, aOX h]
 have F1 : n.may = true → n.exact.2 = false → (whN 0, false) = r := by
  intro h g;have k : n.kind = 2 := by
   unfold Num.exact at g;split at g
   · rename_i z; rcases z with z | z
     · rw [h] at z; cases z
     · exact z
   · split at g <;> cases g
  rw [← hr, aHC h on (.inl k)]
 have F2 : n.may = true → (¬ n.cmp (Num.ofInt 1073741824) < 0 ∨ n.cmp (Num.ofInt (-1073741824)) ≤ 0) → (whN 0, false) = r := by
  intro h g; rw [← hr, aHC h on (.inr g)]
 have F3 : n.may = true → n.exact.2 = true → ¬ (¬ n.cmp (Num.ofInt 1073741824) < 0 ∨ n.cmp (Num.ofInt (-1073741824)) ≤ 0) →
  (n.kind = 1 → n.e < -256 → n.neg = true → (whN (-1), true) = r) ∧ (¬ (n.kind = 1 ∧ n.neg = true) → n.e < -256 → (whN 0, true) = r) ∧ DyC n.exact.1 ∧
  ((dyL (dyMake n.exact.1.1 n.exact.1.2.1 (n.exact.1.2.2 + 192))).2.1.length < 67108864) ∧ ∀ t, t = whN (dM (dyMake n.exact.1.1 n.exact.1.2.1 (n.exact.1.2.2 + 192))) → (t, true) = r := by
  intro h g f;have k2 : n.kind ≠ 2 := by
   intro z; unfold Num.exact at g; rw [if_pos (.inr z)] at g; cases g
  have v := aSP h on (by rintro (z | z); exact k2 z; exact f z);have d := kK (x := n) on (by rw [Num.aS h]; exact k2);rw [Num.aS h] at d;have lo := d.lo;have hi := d.hi;have fin : n.kind = 1 → n.Fin := by
   intro k;rcases Num.may3 h on with z | z | z
   · rw [z] at k; cases k
   · exact z
   · rw [z] at k; exact absurd k (show ¬ (2 : Int) = 1 by decide)
  refine ⟨fun k e ng => ?_, fun k e => ?_, ?_, ?_, fun t ht => ?_⟩
  · rw [← hr, v, uS (fin k) e, if_pos ng]
  · rcases Num.may3 h on with z | z | z
    · rw [z] at e; exact absurd e (by decide)
    · rw [← hr, v, uS z e, if_neg (fun ng => k ⟨z.kind, ng⟩)]
    · rw [z] at k2; exact absurd rfl k2
  · rcases d.odd with z | z
    · exact .inl z
    · exact .inr ⟨z, by omega, by omega⟩
  · have q := (fB n.exact.1.1 n.exact.1.2.1 (n.exact.1.2.2 + 192)).2.2;have l := d.lt;have := lim_length_le (n := (dyMake n.exact.1.1 n.exact.1.2.1 (n.exact.1.2.2 + 192)).2.1) (k := 2) (by rw [show (4294967296 : Nat) ^ 2 = 18446744073709551616 by decide +kernel]; omega);exact Ah this (by decide)
  · rw [ht, aSN h on k2, ← hr, v]
 have XL : (dyL n.exact.1).2.1.length < 67108864 := by
  have l : n.exact.1.2.1 < 18446744073709551616 := by
   unfold Num.exact;split
   · decide
   · split
     · decide
     · have := (fB n.neg n.m.toNat n.e).2.2;have := on.2;have := on.1;show (dyMake n.neg n.m.toNat n.e).2.1 < _;omega
  have := lim_length_le (n := n.exact.1.2.1) (k := 2) (by rw [show (4294967296 : Nat) ^ 2 = 18446744073709551616 by decide +kernel]; omega);exact Ah this (by decide)
 clear hr;refine callsA_o Tryz.func123 fun E hE lp hl => ?_
 cbv
 (refine E_cx hE (aNY ⟨_, _, _, _⟩ on) ?_; intro x hx; cbv)
 have x1 : x.1 = dyL n.exact.1 := by have k : x = (dyL n.exact.1, n.exact.2) := hx; rw [k]
 have x2 : x.2 = n.exact.2 := by have k : x = (dyL n.exact.1, n.exact.2) := hx; rw [k]
 have xl : x.1.2.1.length < 67108864 := by rw [x1]; exact XL
 clear hx XL
 (refine E_px hE (c_Of 1073741824 (by decide) (by decide)) ?_; intro o1 ho1; cbv)
 (refine E_px hE (c_Cmp ⟨_, _, _, _⟩ ⟨_, _, _, _⟩) ?_; intro c1 hc1; cbv)
 have hc1 : c1 = n.cmp o1 := hc1;refine E_br hE ?_ ?_ <;> intro gc <;> cbv
 · skip
   (refine E_cx hE (xP ⟨_, _, _, _⟩) ?_; intro o ho_; cbv)
   have ho_ : o = n.may := ho_;refine E_br hE ?_ ?_ <;> intro g1 <;> cbv
   · rw [← F0 (by rw [← ho_]; subst hE; cases o; rfl; exact absurd g1 (by decide)), w0]; exact ⟨⟨rfl, rfl, trivial⟩, rfl, trivial⟩
   have mm : n.may = true := by rw [← ho_]; subst hE; cases o; exact absurd g1 (by decide); rfl
   refine E_br hE ?_ ?_ <;> intro g2 <;> cbv
   · rw [← F1 mm (by rw [← x2]; subst hE; cases q : x.2; rfl; rw [q] at g2; exact absurd g2 (by decide)), w0]; exact ⟨⟨rfl, rfl, trivial⟩, rfl, trivial⟩
   · rw [← F2 mm (.inl (by rw [← ho1, ← hc1]; subst hE; have := lQ gc; omega)), w0]; exact ⟨⟨rfl, rfl, trivial⟩, rfl, trivial⟩
 · skip
   (refine E_px hE (c_Of (-1073741824) (by decide) (by decide)) ?_; intro o2 ho2; cbv)
   (refine E_px hE (c_Cmp ⟨_, _, _, _⟩ ⟨_, _, _, _⟩) ?_; intro c2 hc2; cbv)
   have hc2 : c2 = n.cmp o2 := hc2
   (refine E_cx hE (xP ⟨_, _, _, _⟩) ?_; intro o ho_; cbv)
   have ho_ : o = n.may := ho_;refine E_br hE ?_ ?_ <;> intro g1 <;> cbv
   · rw [← F0 (by rw [← ho_]; subst hE; cases o; rfl; exact absurd g1 (by decide)), w0]; exact ⟨⟨rfl, rfl, trivial⟩, rfl, trivial⟩
   have mm : n.may = true := by rw [← ho_]; subst hE; cases o; exact absurd g1 (by decide); rfl
   refine E_br hE ?_ ?_ <;> intro g2 <;> cbv
   · rw [← F1 mm (by rw [← x2]; subst hE; cases q : x.2; rfl; rw [q] at g2; exact absurd g2 (by decide)), w0]; exact ⟨⟨rfl, rfl, trivial⟩, rfl, trivial⟩
   have ex : n.exact.2 = true := by rw [← x2]; subst hE; cases q : x.2; rw [q] at g2; exact absurd g2 (by decide); rfl
   refine E_br hE ?_ ?_ <;> intro g3 <;> cbv
   · rw [← F2 mm (.inr (by rw [← ho2, ← hc2]; subst hE; exact kI g3)), w0]; exact ⟨⟨rfl, rfl, trivial⟩, rfl, trivial⟩
   obtain ⟨G1, G2, g3a, g3c, g3b⟩ := F3 mm ex (by
     rintro (z | z)
     · rw [← ho1, ← hc1] at z; subst hE; exact z (by have := kH gc; omega)
     · rw [← ho2, ← hc2] at z; subst hE; exact bQ g3 z)
   refine E_br hE ?_ ?_ <;> intro k1 <;> cbv
   · have k1 : n.kind = 1 := by subst hE; exact cA k1
     refine E_br hE ?_ ?_ <;> intro k2 <;> cbv
     · have k2' : n.e < -256 := by subst hE; exact bF k2
       refine E_br hE ?_ ?_ <;> intro k3 <;> cbv
       · (refine E_cx hE (c_wFrom (-1) (by decide) (by decide)) ?_; intro u hu; cbv)
         rw [← G1 k1 k2' k3, wm1, ← hu]; exact ⟨⟨rfl, rfl, trivial⟩, rfl, trivial⟩
       · refine E_br_t hE k2 ?_; cbv;rw [← G2 (by rw [k3]; rintro ⟨_, z⟩; cases z) k2', w0]; exact ⟨⟨rfl, rfl, trivial⟩, rfl, trivial⟩
     · refine fD hE k2 ?_; cbv
       (refine E_cx hE (c_dyMove n.exact.1 g3a x.1 x1 xl 192 (by decide) (by decide)) ?_; intro y hy; cbv)
       have yl : y.2.1.length < 67108864 := by rw [hy]; exact g3c
       (refine E_cx hE (yI (dyMake n.exact.1.1 n.exact.1.2.1 (n.exact.1.2.2 + 192)) (vD _ _ _) y hy yl) ?_; intro z hz; cbv)
       rw [← g3b z hz]; exact ⟨⟨rfl, rfl, trivial⟩, rfl, trivial⟩
   · have k1 : ¬ n.kind = 1 := by subst hE; exact eql_f k1
     refine E_br hE ?_ ?_ <;> intro k2 <;> cbv
     · rw [← G2 (fun z => k1 z.1) (by subst hE; exact bF k2), w0]; exact ⟨⟨rfl, rfl, trivial⟩, rfl, trivial⟩
     · skip
       (refine E_cx hE (c_dyMove n.exact.1 g3a x.1 x1 xl 192 (by decide) (by decide)) ?_; intro y hy; cbv)
       have yl : y.2.1.length < 67108864 := by rw [hy]; exact g3c
       (refine E_cx hE (yI (dyMake n.exact.1.1 n.exact.1.2.1 (n.exact.1.2.2 + 192)) (vD _ _ _) y hy yl) ?_; intro z hz; cbv)
       rw [← g3b z hz]; exact ⟨⟨rfl, rfl, trivial⟩, rfl, trivial⟩
end
section
open Go
theorem Num.aZ {n : Num} (h : n.may = true) : n.fair = n := by unfold Num.fair; rw [if_pos h]
theorem Num.lL (b : Bool) : (Num.inf b).opp = Num.inf (!b) := by cases b <;> decide
theorem Num.wF {a : Num} (oa : a.ok) (k : a.fair.kind = 2) : a.fair = Num.inf a.fair.neg := Num.mD a.fair_may (Num.fair_ok oa) k
theorem Num.add_inf {a b : Num} (up : Bool) (ka : a.fair.kind = 2) : Num.add a b up = if b.fair.kind = 2 ∧ a.fair.neg ≠ b.fair.neg then Num.inf (!up) else a.fair := by
 unfold Num.add;by_cases h : b.fair.kind = 2 ∧ a.fair.neg ≠ b.fair.neg
 · rw [if_pos ⟨ka, h⟩, if_pos h]
 · rw [if_neg (fun k => h k.2), if_neg h, if_pos (.inl ka)]
theorem Num.qO {a b : Num} (oa : a.ok) (ob : b.ok) (up : Bool) (kb : b.fair.kind = 2) : Num.add a b up = if a.fair.kind = 2 ∧ b.fair.neg ≠ a.fair.neg then Num.inf (!up) else b.fair := by
 unfold Num.add;by_cases h : a.fair.kind = 2 ∧ b.fair.neg ≠ a.fair.neg
 · rw [if_pos ⟨h.1, kb, fun e => h.2 e.symm⟩, if_pos h]
 · rw [if_neg (fun k => h ⟨k.1, fun e => k.2.2 e.symm⟩), if_neg h];by_cases ka : a.fair.kind = 2
   · rw [if_pos (.inl ka), Num.wF oa ka, Num.wF ob kb];congr 1;exact (Classical.not_not.1 (fun e => h ⟨ka, e⟩)).symm
   · rw [if_neg (by rw [kb]; simp [ka]), if_pos (.inl kb)]
theorem Num.add_comm {a b : Num} (oa : a.ok) (ob : b.ok) (up : Bool) : Num.add a b up = Num.add b a up := by
 by_cases ka : a.fair.kind = 2
 · rw [Num.add_inf up ka, Num.qO ob oa up ka]
 · by_cases kb : b.fair.kind = 2
   · rw [Num.qO oa ob up kb, Num.add_inf up kb]
   · exact (jL oa ob ka kb up).uniq (jL ob oa kb ka up) (by decide) (by decide) (by rw [Int.add_comm])
theorem Best.opp {r : Num} {up : Bool} {t c : Int} (h : Best r up t c) : Best r.opp (!up) (-t) c := by
 have fr := Num.aZ h.may;have vr : r.opp.val = -r.val := by rw [Num.jT, fr]
 have inj : ∀ b, r.opp = Num.inf b → r = Num.inf (!b) := by
  intro b e;have := congrArg Num.opp e;rw [Num.uJ, fr, Num.lL] at this;exact this
 have back : ∀ s : Num, s.may = true → s.ok → ∀ b, s ≠ Num.inf b → s.opp ≠ Num.inf (!b) := by
  intro s ms os b hs e;have := congrArg Num.opp e;rw [Num.uJ, Num.aZ ms, Num.lL, Bool.not_not] at this;exact hs this
 have vs : ∀ s : Num, s.may = true → s.opp.val = -s.val := fun s ms => by rw [Num.jT, Num.aZ ms]
 refine ⟨Num.opp_may r, Num.opp_ok h.ok, fun hu => ?_, fun hu s ms os hs hle => ?_, fun hu s ms os hs hle => ?_, fun hu => ?_⟩
 · have hu' : up = true := by simpa using hu
   obtain ⟨h1, h2⟩ := h.hi hu';refine ⟨fun e => h1 (inj _ e), ?_⟩;rcases h2 with h2 | h2
   · left; rw [h2, Num.lL]; rfl
   · right; rw [vr, Cd]; omega
 · have hu' : up = true := by simpa using hu
   have := h.uopt hu' s.opp (Num.opp_may s) (Num.opp_ok os) (back s ms os false hs) (by rw [vs s ms, Cd]; omega);rw [vs s ms] at this;rw [vr]; omega
 · have hu' : up = false := by simpa using hu
   have := h.dopt hu' s.opp (Num.opp_may s) (Num.opp_ok os) (back s ms os true hs) (by rw [vs s ms, Cd]; omega);rw [vs s ms] at this;rw [vr]; omega
 · have hu' : up = false := by simpa using hu
   obtain ⟨h1, h2⟩ := h.down hu';refine ⟨fun e => h1 (inj _ e), ?_⟩;rcases h2 with h2 | h2
   · left; rw [h2, Num.lL]; rfl
   · right; rw [vr, Cd]; omega
theorem Num.opp_fair (n : Num) : n.opp.fair = n.opp := Num.aZ (Num.opp_may n)
theorem Num.qF (n : Num) : n.opp.kind = n.fair.kind := rfl
theorem Num.mC (a : Num) : a.opp = a.fair.opp := by unfold Num.opp; rw [Num.aZ a.fair_may]
theorem Num.lE {a : Num} (oa : a.ok) (k : a.fair.kind = 2) : a.opp = Num.inf (!a.fair.neg) := by
 rw [Num.mC, Num.wF oa k, Num.lL]; rfl
theorem Num.aQL {a b : Num} (oa : a.ok) (ob : b.ok) (up : Bool) : Num.add a.opp b.opp (!up) = (Num.add a b up).opp := by
 have half : ∀ {a b : Num}, a.ok → b.ok → a.fair.kind = 2 → Num.add a.opp b.opp (!up) = (Num.add a b up).opp := by
  intro a b oa ob ka;rw [Num.add_inf (!up) (by rw [Num.opp_fair, Num.qF]; exact ka), Num.add_inf up ka, Num.opp_fair, Num.opp_fair, Num.qF, Num.lE oa ka];by_cases kb : b.fair.kind = 2
  · rw [Num.lE ob kb];by_cases hn : a.fair.neg = b.fair.neg
    · rw [if_neg (by rintro ⟨-, h⟩; exact h (by show (!_) = (!_); rw [hn])), if_neg (fun h => h.2 hn), ← Num.mC, Num.lE oa ka]
    · rw [if_pos ⟨kb, fun h => hn (by have h' : (!a.fair.neg) = (!b.fair.neg) := h; revert h'; cases a.fair.neg <;> cases b.fair.neg <;> simp)⟩, if_pos ⟨kb, hn⟩, Num.lL]
  · rw [if_neg (fun h => kb h.1), if_neg (fun h => kb h.1), ← Num.mC, Num.lE oa ka]
 by_cases ka : a.fair.kind = 2
 · exact half oa ob ka
 · by_cases kb : b.fair.kind = 2
   · rw [Num.add_comm (Num.opp_ok oa) (Num.opp_ok ob), Num.add_comm oa ob];exact half ob oa kb
   · have h1 := (jL oa ob ka kb up).opp;have h2 := jL (Num.opp_ok oa) (Num.opp_ok ob) (by rw [Num.opp_fair, Num.qF]; exact ka) (by rw [Num.opp_fair, Num.qF]; exact kb) (!up);refine h2.uniq h1 (by decide) (by decide) ?_;rw [Num.opp_fair, Num.opp_fair, Num.jT, Num.jT]; omega
theorem jO {na nb : Bool} {a b : Nat} (up : Bool) (ha : 0 < a) (hb : 0 < b) (la : blen (a : Int) ≤ 1000000) (lb : blen (b : Int) ≤ 1000000) :
 Best (bH na a nb b up) up (if (na != nb) = true then -((a : Int) * pw 0) else (a : Int) * pw 0) b := by
 obtain ⟨i, h1, h2, h3⟩ := fA ha;obtain ⟨j, g1, g2, g3⟩ := fA hb;unfold bH;rw [if_neg (by omega), if_neg (by omega)];obtain ⟨s0, hs0⟩ : ∃ s0 : Nat, (max 0 (65 + blen (b : Int) - blen (a : Int)) : Int) = s0 := ⟨(max 0 (65 + blen (b : Int) - blen (a : Int)) : Int).toNat, by omega⟩
 rw [hs0, Ak];obtain ⟨N, hN⟩ : ∃ N, a * 2 ^ s0 = N := ⟨_, rfl⟩
 rw [hN];obtain ⟨q, hq⟩ : ∃ q, N / b = q := ⟨_, rfl⟩
 rw [hq];have qlo : 2 ^ 64 ≤ q := by
  rw [← hq, Cu hb, ← hN];have a1 : 2 ^ 64 * b ≤ 2 ^ 64 * 2 ^ (j + 1) := As _ (Dz g3);have a2 : 2 ^ i * 2 ^ s0 ≤ a * 2 ^ s0 := Ai _ h2;rw [← Ap] at a1 a2;have a3 : 2 ^ (64 + (j + 1)) ≤ 2 ^ (i + s0) := Ag (by decide) (by omega);omega
 have qhi : q < 2 ^ (i + 1 + s0) := by
  rw [← hq];refine Ah (Bo _ _) ?_;rw [← hN, Ap];exact Cg h3 (Bf _)
 obtain ⟨k, k1, k2, k3⟩ := fA (k := q) (by omega);have kl : 64 ≤ k := by
  rcases Ar k 64 with h | h
  · exfalso;have : (2 : Nat) ^ (k + 1) ≤ 2 ^ 64 := Ag (by decide) (by omega);omega
  · exact h
 have ku : k < i + 1 + s0 := by
  rcases Ar k (i + 1 + s0) with h | h
  · exact h
  · exfalso;have : (2 : Nat) ^ (i + 1 + s0) ≤ 2 ^ k := Ag (by decide) h;omega
 obtain ⟨s, hs⟩ : ∃ s : Nat, k = s + 63 := ⟨k - 63, by omega⟩
 unfold natu;rw [if_neg (by omega)];dsimp only;rw [show (blen (q : Int) - 64).toNat = s by omega, show blen (q : Int) - 64 = (s : Int) by omega];have p2 := Bf s;have dd : q / 2 ^ s = N / (b * 2 ^ s) := by rw [← hq, Cl]
 have cut : (decide (q / 2 ^ s * 2 ^ s ≠ q) || decide (N % b ≠ 0)) = decide (N % (b * 2 ^ s) ≠ 0) := by
  have e1 := Ch N b;have e2 := Ch q (2 ^ s);rw [hq] at e1;have m : N % (b * 2 ^ s) = b * (q % 2 ^ s) + N % b := by rw [Nat.mod_mul, hq, Dr]
  by_cases z1 : q % 2 ^ s = 0
  · by_cases z2 : N % b = 0
    · rw [Az (by rw [Ax]; omega), Az (by omega), Az (by rw [m, z1, z2]; simp)]; rfl
    · rw [Au z2, Bool.or_true, Au (by rw [m]; omega)]
  · have : 0 < b * (q % 2 ^ s) := Dw hb (by omega);rw [Au (by rw [Ax]; omega), Bool.true_or, Au (by rw [m]; omega)]
 rw [cut, dd];have e1 := eK (e := -(s0 : Int)) (f := s) (by omega) (by omega);rw [Ak] at e1;have e0 := eK (e := -(s0 : Int)) (f := s0) (by omega) (by omega);rw [Ak, show -(s0 : Int) + s0 = 0 by omega] at e0;have pp := bG (-(s0 : Int));have cb : ((b * 2 ^ s : Nat) : Int) = (b : Int) * 2 ^ s := by rw [Bp, Da]; rfl
 have cN : (N : Int) * pw (-(s0 : Int)) = (a : Int) * pw 0 := by
  rw [← hN, e0, Bp, Da, Bh, At (pw (-(s0 : Int)))]; rfl
 have lo : 2 ^ 63 ≤ N / (b * 2 ^ s) := by
  rw [← dd, Cu p2, ← Ap, Dr, ← hs]; exact k2
 have hi : N / (b * 2 ^ s) < 2 ^ 64 := by
  rw [← dd, Bv p2, ← Ap, show 64 + s = k + 1 by omega]; exact k3
 have G := qM (neg := (na != nb)) (up := up) (N := (N : Int)) (d := ((b * 2 ^ s : Nat) : Int)) (P := pw (-(s0 : Int))) (e := (s : Int) - s0) (c := (b : Int))
  (by rw [cb]; exact Df (by omega) (Dq (by decide))) pp
  (by rw [show (s : Int) - s0 = -(s0 : Int) + s by omega, e1, cb, At, Bh, At (pw (-(s0 : Int)))]) (by omega)
  (by rw [← Dp]; have : 9223372036854775808 ≤ N / (b * 2 ^ s) := lo; omega) (by rw [← Dp]; have : N / (b * 2 ^ s) < 18446744073709551616 := hi; omega) (by omega) (by omega)
 rw [cN, ← Dp, ← Int.natCast_emod] at G;have c2 : (decide (((N % (b * 2 ^ s) : Nat) : Int) ≠ 0)) = decide (N % (b * 2 ^ s) ≠ 0) := Bk.2 (by omega);rw [c2] at G;exact G
theorem iV {n : Num} (h : (fixV n).2 = true) : n.fair.kind ≠ 2 ∧ (fixV n).1 * pw 0 ≤ n.fair.val * 2 ^ 192 ∧ n.fair.val * 2 ^ 192 < ((fixV n).1 + 1) * pw 0 ∧ (fixV n).1.natAbs ≤ 2 ^ 222 := by
 unfold fixV at h ⊢;split at h
 · cases h
 · rename_i k;rw [if_neg k];dsimp only;have p := bG 0;obtain ⟨P, hP⟩ : ∃ P, pw 0 = P := ⟨_, rfl⟩
   rw [hP] at p k ⊢;obtain ⟨v, hv⟩ : ∃ v, n.fair.val = v := ⟨_, rfl⟩
   rw [hv] at k ⊢;have k2 : ¬ P * 2 ^ 30 ≤ v := fun z => k (.inr (.inl z))
   have k3 : ¬ v ≤ -(P * 2 ^ 30) := fun z => k (.inr (.inr z))
   have e1 := Bw (v * 2 ^ 192) P;have e2 := Bq (v * 2 ^ 192) (by omega : P ≠ 0);have e3 := Cf (v * 2 ^ 192) p;obtain ⟨q, hq⟩ : ∃ q, v * 2 ^ 192 / P = q := ⟨_, rfl⟩
   rw [hq] at e1 ⊢;have c1 : q * P = P * q := At _ _;have c2 : (q + 1) * P = P * q + P := by rw [Int.add_mul, Int.one_mul, At]
   refine ⟨fun z => k (.inl z), by omega, by omega, ?_⟩;have u1 : q ≤ 2 ^ 222 := by
    rw [← hq];refine De (Int.ediv_le_ediv p (show v * 2 ^ 192 ≤ 2 ^ 222 * P by omega)) ?_;rw [Dg _ (by omega)];exact Bc _
   have u2 : -(2 ^ 222) ≤ q := by
    rw [← hq];refine De ?_ (Int.ediv_le_ediv p (show -(2 ^ 222) * P ≤ v * 2 ^ 192 by omega));rw [Dg _ (by omega)];exact Bc _
   omega
theorem yF : blen (piOne : Int) ≤ 1000000 := by decide +kernel
theorem xT : (piOne : Int) = 2 ^ 192 := by decide +kernel
theorem aLO {z : Int} (hz : z.natAbs < 2 ^ 224) : (bH (decide (z < 0)) z.natAbs false piOne false).may = true ∧ (bH (decide (z < 0)) z.natAbs false piOne false).ok ∧
 ∀ s : Num, s.may = true → s.ok → z * pw 0 ≤ s.val * 2 ^ 192 → (bH (decide (z < 0)) z.natAbs false piOne false).val ≤ s.val := by
 by_cases h : z = 0
 · subst h;have e : bH (decide ((0 : Int) < 0)) (0 : Int).natAbs false piOne false = Num.zero := by decide +kernel
   rw [e];refine ⟨Num.zero_may, Num.zero_ok, fun s ms os hs => ?_⟩;rw [Num.val_zero];omega
 · have bl := cQ (x := (z.natAbs : Int)) 224 (by have := Int.ofNat_lt.2 hz; rw [Da] at this; exact this);have B := jO (na := decide (z < 0)) (nb := false) (a := z.natAbs) (b := piOne) false (by omega) (by decide +kernel) (by omega) yF;refine ⟨B.may, B.ok, fun s ms os hs => ?_⟩;rcases (B.down rfl).2 with k | k
   · rw [k, Num.val_inf];exact (Num.oO ms os).1
   · rw [xT, Bool.bne_false] at k;have e : (if decide (z < 0) = true then -((z.natAbs : Int) * pw 0) else (z.natAbs : Int) * pw 0) = z * pw 0 := by
      split
      · rename_i g; have g := Bt g;rw [← Cd]; congr 1; omega
      · rename_i g; have g : ¬ z < 0 := fun k => g (Au k)
        congr 1; omega
     rw [e] at k;omega
theorem aNI {z : Int} (hz : z.natAbs < 2 ^ 224) : (bH (decide (z < 0)) z.natAbs false piOne true).may = true ∧ (bH (decide (z < 0)) z.natAbs false piOne true).ok ∧
 ∀ s : Num, s.may = true → s.ok → s.val * 2 ^ 192 ≤ z * pw 0 → s.val ≤ (bH (decide (z < 0)) z.natAbs false piOne true).val := by
 by_cases h : z = 0
 · subst h;have e : bH (decide ((0 : Int) < 0)) (0 : Int).natAbs false piOne true = Num.zero := by decide +kernel
   rw [e];refine ⟨Num.zero_may, Num.zero_ok, fun s ms os hs => ?_⟩;rw [Num.val_zero];omega
 · have bl := cQ (x := (z.natAbs : Int)) 224 (by have := Int.ofNat_lt.2 hz; rw [Da] at this; exact this);have B := jO (na := decide (z < 0)) (nb := false) (a := z.natAbs) (b := piOne) true (by omega) (by decide +kernel) (by omega) yF;refine ⟨B.may, B.ok, fun s ms os hs => ?_⟩;rcases (B.hi rfl).2 with k | k
   · rw [k, Num.val_inf];exact (Num.oO ms os).2
   · rw [xT, Bool.bne_false] at k;have e : (if decide (z < 0) = true then -((z.natAbs : Int) * pw 0) else (z.natAbs : Int) * pw 0) = z * pw 0 := by
      split
      · rename_i g; have g := Bt g;rw [← Cd]; congr 1; omega
      · rename_i g; have g : ¬ z < 0 := fun k => g (Au k)
        congr 1; omega
     rw [e] at k;omega
end
section
open Go Go.Proofs
attribute [local irreducible] Lb whN
def nU : Iv := Iv.make (Num.ofInt (-1)) (Num.ofInt 1)
def qI (p : Int × Int) : Iv := Iv.make (bH (decide (p.1 < 0)) p.1.natAbs false piOne false) (bH (decide (p.2 < 0)) p.2.natAbs false piOne true)
def ofN (n : Num) (cs : Bool) : Iv :=
 if (fixV n).2 = true then (if cs = true then qI (eF ((fixV n).1 + piLoB / 2) ((fixV n).1 + 1 + (piHiB + 1) / 2)) else qI (eF (fixV n).1 ((fixV n).1 + 1))) else nU
theorem aAB {z : Int} (h : wl z ≤ 608) : wl (bnd1 z) ≤ 608 := by
 have a := kU;unfold bnd1;split
 · omega
 · split
   · rw [kD]; omega
   · exact h
theorem qS : ∃ t : Iv, t = nU ∧ aC Tryz.prog 124 [] t.av := by
 refine ⟨_, rfl, ?_⟩;generalize hr : nU = r;refine callsA_o Tryz.func124 fun E hE lp hl => ?_
 cbv
 (refine E_cx hE (c_Of (-1) (by decide) (by decide)) ?_; intro a ha; cbv)
 (refine E_cx hE (c_Of 1 (by decide) (by decide)) ?_; intro b hb; cbv)
 (refine E_cx hE (c_ivMake ⟨_, _, _, _⟩ ⟨_, _, _, _⟩) ?_; intro z hz; cbv)
 have k : z = r := by
  have k1 : z = Iv.make a b := hz;rw [k1, ha, hb, ← hr]; rfl
 rw [← k]; exact ⟨rfl, rfl, rfl, rfl, rfl, rfl, rfl, rfl, rfl, trivial⟩
set_option maxHeartbeats 4000000 in
theorem c_of (n : Num) (on : n.ok) (lo hi : Bool × List Int) (cs : Bool) (hlo : lo = whN piLoB) (hhi : hi = whN piHiB) :
 ∃ t : Iv, t = ofN n cs ∧ aC Tryz.prog 80 [.agg [.bool (.s lo.1), .sli .u32 lo.2, .bool (.s hi.1), .sli .u32 hi.2, .bool (.s cs)], n.av] t.av := by
 refine ⟨_, rfl, ?_⟩;generalize hr : ofN n cs = r;obtain ⟨F, hF⟩ : ∃ F, (fixV n).1 = F := ⟨_, rfl⟩
 have U : (fixV n).2 = false → nU = r := by intro h; rw [← hr]; unfold ofN; rw [if_neg (by rw [h]; decide)]
 have P0 : (fixV n).2 = true → cs = false → qI (eF F (F + 1)) = r := by intro h g; rw [← hr]; unfold ofN; rw [if_pos h, if_neg (by rw [g]; decide), hF]
 have P1 : (fixV n).2 = true → cs = true → qI (eF (F + piLoB / ((2 : Nat) : Int)) (F + 1 + (piHiB + 1) / ((2 : Nat) : Int))) = r := by intro h g; rw [← hr]; unfold ofN; rw [if_pos h, if_pos g, hF]; rfl
 have L : (fixV n).2 = true → wl F ≤ 7 := by
  intro h;have f := (iV h).2.2.2;rw [hF] at f;exact dW (by rw [show (4294967296 : Nat) ^ 7 = 2 ^ 224 by decide +kernel]; omega)
 obtain ⟨p1, p2, p3⟩ := pC;have d1 : wl 1 ≤ 1 := dW (k := 1) (by decide);have i1 : whN 1 = (decide ((1 : Int) < 0), lim (1 : Int).natAbs) := bA 1;have i2 : whN ((2 : Nat) : Int) = (decide ((2 : Int) < 0), lim (2 : Int).natAbs) := bA 2;have l1 : wl 1 ≤ 90000 := by omega
 have l2 : wl ((2 : Nat) : Int) ≤ 90000 := Ae (dW (k := 1) (by decide)) (by decide);have q1 : wl piLoB ≤ 90000 := by omega
 have q2 : wl piHiB ≤ 90000 := by omega
 have a1 := gB piHiB 1;have q3 : wl (piHiB + 1) ≤ 90000 := by omega
 have a2 := lZ piLoB (n := 2) (by decide);have a3 := lZ (piHiB + 1) (n := 2) (by decide);have q4 : wl (piLoB / ((2 : Nat) : Int)) ≤ 90000 := by omega
 have q5 : wl ((piHiB + 1) / ((2 : Nat) : Int)) ≤ 90000 := by omega
 have LF : wl F ≤ 7 → wl F ≤ 90000 ∧ wl F ≤ 100 ∧ wl (F + 1) ≤ 90000 ∧ wl (F + 1) ≤ 100 ∧ wl (F + piLoB / ((2 : Nat) : Int)) ≤ 100 ∧ wl (F + 1 + (piHiB + 1) / ((2 : Nat) : Int)) ≤ 100 := by
  intro h;have b1 := gB F 1;have b2 := gB F (piLoB / ((2 : Nat) : Int));have b3 := gB (F + 1) ((piHiB + 1) / ((2 : Nat) : Int));exact ⟨by omega, by omega, by omega, by omega, by omega, by omega⟩
 have SLX : ∀ X Y : Int, wl X ≤ 100 → wl Y ≤ 100 → (∀ s : Bool × List Int, s = whN (eF X Y).1 → s.2.length ≤ 100000) ∧ (∀ s : Bool × List Int, s = whN (eF X Y).2 → s.2.length ≤ 100000) := by
  intro X Y hX hY;obtain ⟨w1, w2, w3, w4, w5, w6, w7, w8, w9, w10, w11⟩ := uF hX hY;refine ⟨fun s h => ?_, fun s h => ?_⟩
  · have := (dL h).2.2; have := aAB w10; show s.2.length ≤ 100000;have e : wl (eF X Y).1 = wl (bnd1 (sineA X Y)) := rfl;omega
  · have := (dL h).2.2; have := aAB w11; show s.2.length ≤ 100000;have e : wl (eF X Y).2 = wl (bnd1 (sineB X Y)) := rfl;omega
 clear hr;refine callsA_o Tryz.func80 fun E hE lp hl => ?_
 cbv
 (refine E_cx hE (aLX ⟨_, _, _, _⟩ on) ?_; intro f hf; cbv)
 have f1 : f.1 = whN F := by have k : f = (whN (fixV n).1, (fixV n).2) := hf; rw [k, ← hF]
 have f2 : f.2 = (fixV n).2 := by have k : f = (whN (fixV n).1, (fixV n).2) := hf; rw [k]
 clear hf;refine E_br hE ?_ ?_ <;> intro g <;> cbv
 · have g' : (fixV n).2 = false := by rw [← f2]; subst hE; cases q : f.2; rfl; rw [q] at g; exact absurd g (by decide)
   (refine E_cx hE qS ?_; intro z hz; cbv)
   have k : z = r := Eq.trans hz (U g');rw [← k]; exact ⟨rfl, rfl, rfl, rfl, rfl, rfl, rfl, rfl, rfl, trivial⟩
 have g' : (fixV n).2 = true := by rw [← f2]; subst hE; cases q : f.2; rw [q] at g; exact absurd g (by decide); rfl
 obtain ⟨e1, e2, e3, e4, e5, e6⟩ := LF (L g')
 (refine E_cx hE (c_wFrom 1 (by decide) (by decide)) ?_; intro one h1; cbv)
 have h1 : one = whN 1 := by rw [i1]; exact h1
 (refine E_cx hE (c_wFrom 2 (by decide) (by decide)) ?_; intro two h2; cbv)
 have h2 : two = whN ((2 : Nat) : Int) := by rw [i2]; exact h2
 (refine E_px hE (z_wAdd F 1 f.1 one f1 h1 e1 l1) ?_; intro y hy; cbv)
 refine E_br hE ?_ ?_ <;> intro gc <;> cbv
 · skip
   (refine E_px hE (c_trDown piLoB 2 (by decide) lo two hlo h2 q1 l2) ?_; intro u1 hu1; cbv)
   (refine E_px hE (z_wAdd F _ f.1 u1 f1 hu1 e1 q4) ?_; intro u2 hu2; cbv)
   (refine E_px hE (z_wAdd piHiB 1 hi one hhi h1 q2 l1) ?_; intro u3 hu3; cbv)
   (refine E_px hE (c_trDown (piHiB + 1) 2 (by decide) u3 two hu3 h2 q3 l2) ?_; intro u4 hu4; cbv)
   (refine E_px hE (z_wAdd (F + 1) _ y u4 hy hu4 e3 q5) ?_; intro u5 hu5; cbv)
   (refine E_cx hE (aMB _ _ u2 u5 lo hi cs hu2 hu5 hlo hhi e5 e6) ?_; intro s hs; cbv)
   have SL := SLX _ _ e5 e6;have s1 := hs.1;have s2 := hs.2;have sl1 := SL.1 s.1 s1;have sl2 := SL.2 s.2 s2
   (refine E_cx hE (aCA s.1 s.2 _ _ s1 s2 sl1 sl2) ?_; intro z hz; cbv)
   have k : z = r := Eq.trans hz (P1 g' gc);rw [← k]; exact ⟨rfl, rfl, rfl, rfl, rfl, rfl, rfl, rfl, rfl, trivial⟩
 · skip
   (refine E_cx hE (aMB _ _ f.1 y lo hi cs f1 hy hlo hhi e2 e4) ?_; intro s hs; cbv)
   have SL := SLX _ _ e2 e4;have s1 := hs.1;have s2 := hs.2;have sl1 := SL.1 s.1 s1;have sl2 := SL.2 s.2 s2
   (refine E_cx hE (aCA s.1 s.2 _ _ s1 s2 sl1 sl2) ?_; intro z hz; cbv)
   have k : z = r := Eq.trans hz (P0 g' gc);rw [← k]; exact ⟨rfl, rfl, rfl, rfl, rfl, rfl, rfl, rfl, rfl, trivial⟩
end
section
open Go
attribute [local irreducible] pw
theorem aTE : rnd (dyMake (dyL (dyMake false 1073741824 0)).1 (lv (dyL (dyMake false 1073741824 0)).2.1) (dyL (dyMake false 1073741824 0)).2.2).1 (dyMake (dyL (dyMake false 1073741824 0)).1 (lv (dyL (dyMake false 1073741824 0)).2.1) (dyL (dyMake false 1073741824 0)).2.2).2.1 (dyMake (dyL (dyMake false 1073741824 0)).1 (lv (dyL (dyMake false 1073741824 0)).2.1) (dyL (dyMake false 1073741824 0)).2.2).2.2 true = Num.ofInt 1073741824 := by decide +kernel
def Num.far (n : Num) : Num := ⟨n.kind, false, n.m, n.e⟩
theorem nH {n : Num} (m : n.may = true) (o : n.ok) (k : n.kind ≠ 2) : n.far.may = true ∧ n.far.ok ∧ n.far.val = n.W ∧ n.val.natAbs = n.W.natAbs ∧ 0 ≤ n.W := by
 rcases Num.may3 m o with c | c | c
 · rw [c]; exact ⟨by decide, Num.zero_ok, rfl, rfl, by decide⟩
 · have f : n.far.Fin := ⟨c.kind, c.lo, c.hi, c.elo, c.ehi⟩
   have w := c.lt.1;refine ⟨f.may, f.ok, ?_, ?_, by omega⟩
   · show (if false then _ else _) = _; rw [if_neg (by decide), f.W, c.W]; rfl
   · unfold Num.val; split <;> omega
 · rw [c] at k; exact absurd rfl k
structure FixR (x n : Num) : Prop where
 a : n.exact.2 = false → fixV x = (0, false)
 b : n.exact.2 = true → ¬ n.far.cmp (Num.ofInt 1073741824) < 0 → fixV x = (0, false)
 d : n.kind = 0 → fixV x = (0, true)
 e1 : n.exact.2 = true → n.kind ≠ 0 → n.exact.1.2.2 < -3000 → n.neg = true → fixV x = (-1, true)
 e0 : n.exact.2 = true → n.kind ≠ 0 → n.exact.1.2.2 < -3000 → n.neg ≠ true → fixV x = (0, true)
 f : n.exact.2 = true → n.far.cmp (Num.ofInt 1073741824) < 0 → n.kind ≠ 0 → ¬ n.exact.1.2.2 < -3000 →
  DyC n.exact.1 ∧ (dyL n.exact.1).2.1.length ≤ 2 ∧ DyC (dyMake n.exact.1.1 n.exact.1.2.1 (n.exact.1.2.2 + 192)) ∧ (dyL (dyMake n.exact.1.1 n.exact.1.2.1 (n.exact.1.2.2 + 192))).2.1.length ≤ 2 ∧
   (-20000 ≤ (dyMake n.exact.1.1 n.exact.1.2.1 (n.exact.1.2.2 + 192)).2.2 ∧ (dyMake n.exact.1.1 n.exact.1.2.1 (n.exact.1.2.2 + 192)).2.2 ≤ 20000) ∧
   fixV x = (dM (dyMake n.exact.1.1 n.exact.1.2.1 (n.exact.1.2.2 + 192)), true)
theorem aTR {x n : Num} (ox : x.ok) (hn : n = x.fair) : FixR x n := by
 have m : n.may = true := by rw [hn]; exact x.fair_may
 have o : n.ok := by rw [hn]; exact Num.fair_ok ox
 have f2 := gE wN.1;have p0 := bG 0;have k2 : n.exact.2 = true → n.kind ≠ 2 := by
  intro h z; unfold Num.exact at h; rw [if_pos (.inr z)] at h; cases h
 have far : n.kind ≠ 2 → (n.far.cmp (Num.ofInt 1073741824) < 0 ↔ n.W < 1073741824 * pw 0) := by
  intro k;obtain ⟨v1, v2, v3, v4, v5⟩ := nH m o k;rw [Num.zR v2 f2.2.1, f2.2.2.2.1, f2.2.2.2.2, Num.aS v1, v3]
 have inn : n.kind ≠ 2 → n.W < 1073741824 * pw 0 → fixV x = (n.val * 2 ^ 192 / pw 0, true) := by
  intro k h;obtain ⟨v1, v2, v3, v4, v5⟩ := nH m o k;unfold fixV;rw [← hn, if_neg];have e : pw 0 * 2 ^ 30 = 1073741824 * pw 0 := At _ _;rintro (z | z | z)
  · exact k z
  · omega
  · omega
 have fin : n.exact.2 = true → n.kind ≠ 0 → n.Fin := by
  intro h k;rcases Num.may3 m o with c | c | c
  · rw [c] at k; exact absurd rfl k
  · exact c
  · have := k2 h; rw [c] at this; exact absurd rfl this
 have near : n.exact.2 = true → n.kind ≠ 0 → n.exact.1.2.2 < -3000 → fixV x = ((if n.neg then -1 else 0), true) := by
  intro h k g;have F := fin h k;have d := kK (x := n) o (by rw [Num.aS m]; exact k2 h);rw [Num.aS m] at d;have lt := d.lt;have w0 := F.lt.1;have W : n.W = (n.exact.1.2.1 : Int) * pw n.exact.1.2.2 := by
   have v := d.val;obtain ⟨v1, v2, v3, v4, v5⟩ := nH m o (k2 h);have q := bG n.exact.1.2.2;have q2 : 0 ≤ (n.exact.1.2.1 : Int) * pw n.exact.1.2.2 := Bj (by omega) (by omega);unfold dyv at v;split at v
   · omega
   · omega
  have ne : n.e < -256 := by
   rcases Bm n.e (-256) with z | z
   · exact z
   · exfalso;have a1 := iQ (e := -256) (f := n.e) (by decide) z;have a2 : pw (-256) ≤ n.W := by
      rw [F.W];have := Af (show 1 ≤ n.m by have := F.lo; omega) (Am (bG n.e));omega
     have lo := d.lo;have a3 := iQ (e := n.exact.1.2.2) (f := -3000) (by omega) (by omega);have a4 := Af (show (n.exact.1.2.1 : Int) ≤ 18446744073709551616 by omega) (Am (bG n.exact.1.2.2));have a5 := aKW (e := -3000) (by decide);have a6 := aEP (e := -3000 + 64) (f := -256) (by decide) (by decide);have a7 := bG (-3000);omega
  have small : n.W < 1073741824 * pw 0 := by
   have := (aDN F ne).2;have h3 : n.W ≤ n.W * 2 ^ 192 := by have := Cb (show (1 : Int) ≤ 2 ^ 192 by decide) (Am w0); omega
   omega
  rw [inn (k2 h) small, uS F ne]
 refine ⟨fun h => ?_, fun h g => ?_, fun h => ?_, fun h k g q => ?_, fun h k g q => ?_, fun h g k e => ?_⟩
 · have k : n.kind = 2 := by
    unfold Num.exact at h;split at h
    · rename_i z; rcases z with z | z
      · rw [m] at z; cases z
      · exact z
    · split at h <;> cases h
   unfold fixV; rw [← hn, if_pos (.inl k)]
 · rw [far (k2 h)] at g;obtain ⟨v1, v2, v3, v4, v5⟩ := nH m o (k2 h);have e : pw 0 * 2 ^ 30 = 1073741824 * pw 0 := At _ _;unfold fixV; rw [← hn, if_pos (.inr (by omega))]
 · have z : n = Num.zero := by
    rcases Num.may3 m o with c | c | c
    · exact c
    · have := c.kind; omega
    · rw [c] at h; exact absurd h (show ¬ (2 : Int) = 0 by decide)
   rw [inn (by omega) (by rw [z, Num.mW]; omega), z, Num.val_zero]; simp
 · rw [near h k g, if_pos q]
 · rw [near h k g, if_neg q]
 · have F := fin h k;have d := kK (x := n) o (by rw [Num.aS m]; exact k2 h);rw [Num.aS m] at d;have lt := d.lt;have hi := d.hi;have lo := d.lo;have W := (far (k2 h)).1 g;have od : n.exact.1.2.1 % 2 = 1 := by
    rcases d.odd with z | z
    · have v := d.val;rw [z] at v;have := F.lt.1;obtain ⟨v1, v2, v3, v4, v5⟩ := nH m o (k2 h);have : dyv (false, 0, 0) = 0 := by simp [dyv]
      omega
    · exact z
   have up : n.exact.1.2.2 < 31 := by
    rcases Bm n.exact.1.2.2 31 with z | z
    · exact z
    · exfalso;have v := d.val;obtain ⟨v1, v2, v3, v4, v5⟩ := nH m o (k2 h);have q := bG n.exact.1.2.2;have q1 := Af (show (1 : Int) ≤ (n.exact.1.2.1 : Int) by omega) (Am q);have q2 := iQ (e := 31) (f := n.exact.1.2.2) (by decide) z;have q3 := eK (e := 0) (f := 31) (by decide) (by decide);rw [show (0 : Int) + 31 = 31 by decide, show (2 : Int) ^ (31 : Int).toNat = 2147483648 by decide] at q3;unfold dyv at v;split at v
      · omega
      · omega
   have mv : dyMake n.exact.1.1 n.exact.1.2.1 (n.exact.1.2.2 + 192) = (n.exact.1.1, n.exact.1.2.1, n.exact.1.2.2 + 192) := jJ od (by omega) (by omega);have ln : (lim n.exact.1.2.1).length ≤ 2 := lim_length_le (by rw [show (4294967296 : Nat) ^ 2 = 18446744073709551616 by decide +kernel]; omega);refine ⟨.inr ⟨od, by omega, by omega⟩, ln, vD _ _ _, ?_, ?_, ?_⟩
   · rw [mv]; exact ln
   · rw [mv]; exact ⟨by show -20000 ≤ n.exact.1.2.2 + 192; omega, by show n.exact.1.2.2 + 192 ≤ 20000; omega⟩
   · rw [wX d]; exact inn (k2 h) W
theorem zQ (na : Bool) (a : Nat) (nb : Bool) (b : Nat) (up : Bool) (la : blen (a : Int) ≤ 300000) (lb : blen (b : Int) ≤ 300000) : bH na a nb b up = fT na a nb b 0 up := by
 by_cases hb : b = 0
 · unfold bH fT; rw [if_pos hb, if_pos hb]
 by_cases ha : a = 0
 · unfold bH fT;have z : jY 0 b = 0 := by unfold jY; simp
   rw [if_neg hb, if_pos ha, if_neg hb, ha, z, fG];unfold fL dyNorm;rw [fG];rfl
 · have p := bG 0;have A := jO (na := na) (nb := nb) up (show 0 < a by omega) (show 0 < b by omega) (by omega) (by omega);have B := aGI (na := na) (nb := nb) (e := 0) up (show 0 < a by omega) (show 0 < b by omega) la lb (by decide) (by decide) (T := (a : Int) * pw 0) (c := b) (by omega) rfl;refine A.uniq B (by omega) (by omega) ?_;congr 1
end
section
open Go Go.Proofs
theorem ivEq_of {E : Env} (hE : E = aB Tryz.prog) (b p : Iv) : E.band (E.beq b.empty p.empty) (E.band (E.cmp .eql b.lo.kind p.lo.kind) (E.band (E.beq b.lo.neg p.lo.neg) (E.band (E.cmp .eql b.lo.m p.lo.m) (E.band (E.cmp .eql b.lo.e p.lo.e) (E.band (E.cmp .eql b.hi.kind p.hi.kind) (E.band (E.beq b.hi.neg p.hi.neg) (E.band (E.cmp .eql b.hi.m p.hi.m) (E.cmp .eql b.hi.e p.hi.e)))))))) = decide (b = p) := by
 subst hE;rw [Bool.eq_iff_iff];simp only [aB, aE, Aj, Ab, Iv.eq_iff, Num.eq_iff, beq_iff_eq];constructor
 · rintro ⟨h0, h1, h2, h3, h4, h5, h6, h7, h8⟩; exact ⟨h0, ⟨h1, h2, h3, h4⟩, h5, h6, h7, h8⟩
 · rintro ⟨h0, ⟨h1, h2, h3, h4⟩, h5, h6, h7, h8⟩; exact ⟨h0, h1, h2, h3, h4, h5, h6, h7, h8⟩
end
section
open Go Go.Proofs
attribute [local irreducible] Lb whN
theorem aMQ : ∃ t : Num, t = Num.ofInt 1073741824 ∧ aC Tryz.prog 105 [.int .i64 (.l 1073741824)] t.av := by
 refine ⟨_, rfl, ?_⟩;generalize hr : Num.ofInt 1073741824 = r;have w : ∀ u : Bool × List Int, u = whN 1073741824 → u.1 = false ∧ lv u.2 = 1073741824 ∧ Lb u.2 ∧ u.2.length ≤ 1000 := by
  intro u h; rw [h]; exact ⟨by unfold whN; rfl, by unfold whN; show lv (lim (Int.natAbs 1073741824)) = _; rw [aJ]; rfl, whN_lb _, Ae (fR (k := 1) (by decide)) (by decide)⟩
 have fin := aTE.trans hr;have dl : ∀ d : Bool × List Int × Int, d = dyL (dyMake false 1073741824 0) → Lb d.2.1 ∧ d.2.1.length ≤ 1000 ∧ (-9223372036854775808 ≤ d.2.2 ∧ d.2.2 < 9223372036854775808) := by
  intro d h;have e : dyL (dyMake false 1073741824 0) = (false, [1], 30) := by decide +kernel
  rw [h, e];exact ⟨Lb.cons (by decide) (by decide) Lb.nil, by decide, by decide, by decide⟩
 clear hr;refine callsA_o Tryz.func105 fun E hE lp hl' => ?_
 cbv
 (refine E_cx hE (c_r2From 1073741824 (by decide) (by decide)) ?_; intro u hu; cbv)
 obtain ⟨u1, u2, u3, u4⟩ := w u hu;have u5 : u.2.length ≤ 125000 := Ae u4 (by decide)
 (refine E_cx hE (dP u.1 u.2 0 u3 u5 (by decide)) ?_; intro d hd; cbv)
 have hd : d = dyL (dyMake false 1073741824 0) := by
  have k : d = dyL (dyMake u.1 (lv u.2) 0) := hd;rw [k, u1, u2]
 obtain ⟨d1, d2, d3⟩ := dl d hd;have d4 : d.2.1.length ≤ 62500 := Ae d2 (by decide)
 (refine E_cx hE (mP d.1 d.2.1 d.2.2 true d1 d4 d3) ?_; intro z hz; cbv)
 have k : z = r := by
  have k : z = rnd (dyMake d.1 (lv d.2.1) d.2.2).1 (dyMake d.1 (lv d.2.1) d.2.2).2.1 (dyMake d.1 (lv d.2.1) d.2.2).2.2 true := hz;rw [k, hd]; exact fin
 rw [← k]; exact ⟨rfl, rfl, rfl, rfl, trivial⟩
set_option maxHeartbeats 2000000 in
theorem vV (x : Num) (ox : x.ok) : ∃ t : (Bool × List Int) × Bool, t = (whN (fixV x).1, (fixV x).2) ∧ aC Tryz.prog 128 [x.av] (.tup [.agg [.bool (.s t.1.1), .sli .u32 t.1.2], .bool (.s t.2)]) := by
 refine ⟨_, rfl, ?_⟩;generalize hr : (whN (fixV x).1, (fixV x).2) = r;have law : ∀ n, n = x.fair → n.ok ∧ n.far.ok ∧ FixR x n := by
  intro n h;have o : n.ok := by rw [h]; exact Num.fair_ok ox
  exact ⟨o, o, aTR ox h⟩
 have R : ∀ z b, fixV x = (z, b) → (whN z, b) = r := by intro z b h; rw [← hr, h]
 have ok30 : (Num.ofInt 1073741824).ok := Num.dA _;clear hr;refine callsA_o Tryz.func128 fun E hE lp hl' => ?_
 cbv
 (refine E_cx hE (c_r6Fair ⟨_, _, _, _⟩) ?_; intro n hn_; cbv)
 obtain ⟨on, of, law⟩ := law n hn_
 (refine E_cx hE (uW ⟨_, _, _, _⟩ on) ?_; intro d hd; cbv)
 have d1 : d.1 = dyL n.exact.1 := by have k : d = (dyL n.exact.1, n.exact.2) := hd; rw [k]
 have d2 : d.2 = n.exact.2 := by have k : d = (dyL n.exact.1, n.exact.2) := hd; rw [k]
 clear hd;have ff : ∀ t : Bool, E.bnot t = false → t = true := by intro t h; subst hE; cases t; exact absurd h (by decide); rfl
 have ft : ∀ t : Bool, E.bnot t = true → t = false := by intro t h; subst hE; cases t; rfl; exact absurd h (by decide)
 refine E_br hE ?_ ?_ <;> intro g1 <;> cbv
 · rw [← R _ _ (law.a (d2.symm.trans (ft _ g1))), w0]; exact ⟨⟨rfl, rfl, trivial⟩, rfl, trivial⟩
 have ex := d2.symm.trans (ff _ g1)
 (apply E_pcallX hE (aMQ); (case hm => rfl); (case hle => (repeat' (first | exact fW | apply dV | apply dR | exact aM | exact dU | exact aI | exact cV | exact aN | exact dY | exact cR | exact gG))); all_goals (first | (intro o ho_; cbv) | (assumption)))
 have oo : o.ok := by rw [ho_]; exact ok30
 (refine E_px hE (qE n.far ⟨_, _, _, _⟩ of oo) ?_; intro c hc; cbv)
 have hc : c = n.far.cmp o := hc;rw [ho_] at hc;refine E_br hE ?_ ?_ <;> intro g2 <;> cbv
 · have g2 : ¬ n.far.cmp (Num.ofInt 1073741824) < 0 := by rw [← hc]; subst hE; have := lQ g2; omega
   rw [← R _ _ (law.b ex g2), w0]; exact ⟨⟨rfl, rfl, trivial⟩, rfl, trivial⟩
 have g2 : n.far.cmp (Num.ofInt 1073741824) < 0 := by rw [← hc]; subst hE; have := kH g2; omega
 refine E_br hE ?_ ?_ <;> intro g3 <;> cbv
 · rw [← R _ _ (law.d (by subst hE; exact cA g3)), w0]; exact ⟨⟨rfl, rfl, trivial⟩, rfl, trivial⟩
 have g3 : n.kind ≠ 0 := by subst hE; exact eql_f g3
 have de : d.1.2.2 = n.exact.1.2.2 := by rw [d1]; rfl
 refine E_br hE ?_ ?_ <;> intro g4 <;> cbv
 · have g4 : n.exact.1.2.2 < -3000 := by rw [← de]; subst hE; exact bF g4
   refine E_br hE ?_ ?_ <;> intro g5 <;> cbv
   · skip
     (refine E_cx hE (c_r2From (-1) (by decide) (by decide)) ?_; intro u hu; cbv)
     rw [← R _ _ (law.e1 ex g3 g4 g5), ← hu]; exact ⟨⟨rfl, rfl, trivial⟩, rfl, trivial⟩
   · rw [← R _ _ (law.e0 ex g3 g4 (by rw [g5]; decide)), w0]; exact ⟨⟨rfl, rfl, trivial⟩, rfl, trivial⟩
 have g4 : ¬ n.exact.1.2.2 < -3000 := by rw [← de]; subst hE; exact aW g4
 obtain ⟨f1, f2, f3, f4, f5, f6⟩ := law.f ex g2 g3 g4;have l1 : d.1.2.1.length ≤ 100000 := by rw [d1]; exact Ae f2 (by decide)
 (refine E_cx hE (aMO n.exact.1 f1 d.1 d1 l1 192 (by decide) (by decide)) ?_; intro m hm_; cbv)
 have l2 : m.2.1.length ≤ 1000 := by rw [hm_]; exact Ae f4 (by decide)
 (refine E_cx hE (aJE (dyMake n.exact.1.1 n.exact.1.2.1 (n.exact.1.2.2 + 192)) f3 m hm_ l2 f5) ?_; intro v hv; cbv)
 rw [← R _ _ f6, ← hv]; exact ⟨⟨rfl, rfl, trivial⟩, rfl, trivial⟩
theorem yD {na nb : Bool} {a b : Nat} {up : Bool} (la : blen (a : Int) ≤ 300000) (lb : blen (b : Int) ≤ 300000) : (bH na a nb b up).ok := by
 by_cases hb : b = 0
 · unfold bH; rw [if_pos hb]; exact Num.mS _
 by_cases ha : a = 0
 · unfold bH; rw [if_neg hb, if_pos ha]; exact Num.zero_ok
 · exact (jO up (by omega) (by omega) (by omega) (by omega)).ok
theorem vW (na : Bool) (a : List Int) (nb : Bool) (b : List Int) (ab : Lb a) (bb : Lb b) (la0 : a.length ≤ 1000) (lb0 : b.length ≤ 1000) :
 ∃ t : Iv, t = Iv.make (bH na (lv a) false piOne false) (bH nb (lv b) false piOne true) ∧
  aC Tryz.prog 154 [.agg [.bool (.s na), .sli .u32 a], .agg [.bool (.s nb), .sli .u32 b]] t.av := by
 refine ⟨_, rfl, ?_⟩;generalize hr : Iv.make (bH na (lv a) false piOne false) (bH nb (lv b) false piOne true) = r;have la : a.length ≤ 100000 := by omega
 have lb : b.length ≤ 100000 := by omega
 have sd : ∀ s : Bool × List Int, s = whN (piOne : Int) → s.1 = false ∧ lv s.2 = piOne ∧ Lb s.2 ∧ s.2.length ≤ 1000 ∧ s.2.length ≤ 100000 := by
  intro s h;have l := cE jF;rw [h]; exact ⟨by rw [bD], by rw [bD]; show lv (lim piOne) = piOne; exact aJ _, whN_lb _, by rw [bD]; exact Ae l (by decide), by rw [bD]; exact Ae l (by decide)⟩
 have pb1 : blen ((piOne : Nat) : Int) ≤ 300000 := De (cQ 193 (by decide +kernel)) (by decide);have ba : blen (lv a : Int) ≤ 300000 := by have := gI ab; omega
 have bb1 : blen (lv b : Int) ≤ 300000 := by have := gI bb; omega
 have pa := (zQ na (lv a) false piOne false ba pb1).symm;have pb := (zQ nb (lv b) false piOne true bb1 pb1).symm;have ka : (bH na (lv a) false piOne false).ok := yD ba pb1;have kb : (bH nb (lv b) false piOne true).ok := yD bb1 pb1;refine callsA_o Tryz.func154 fun E hE lp hl' => ?_
 cbv
 (refine E_px hE cZ ?_; intro s hs; cbv)
 obtain ⟨s1, s2, s3, s4, s5⟩ := sd s hs
 (refine E_px hE (c_r7Ratio na a s.1 s.2 false ab s3 la0 s4) ?_; intro x hx; cbv)
 have hx : x = bH na (lv a) false piOne false := by
  have k : x = fT na (lv a) s.1 (lv s.2) 0 false := hx;rw [k, s1, s2, pa]
 (refine E_px hE cZ ?_; intro u hu; cbv)
 obtain ⟨u1, u2, u3, u4, u5⟩ := sd u hu
 (refine E_px hE (c_r7Ratio nb b u.1 u.2 true bb u3 lb0 u4) ?_; intro y hy; cbv)
 have hy : y = bH nb (lv b) false piOne true := by
  have k : y = fT nb (lv b) u.1 (lv u.2) 0 true := hy;rw [k, u1, u2, pb]
 have ox : x.ok := by rw [hx]; exact ka
 have oy : y.ok := by rw [hy]; exact kb
 (refine E_px hE (pY ⟨_, _, _, _⟩ ⟨_, _, _, _⟩ ox oy) ?_; intro z hz; cbv)
 have k : z = r := by
  have k : z = Iv.make x y := hz;rw [k, hx, hy, hr]
 rw [← k];exact ⟨rfl, rfl, rfl, rfl, rfl, rfl, rfl, rfl, rfl, trivial⟩
theorem rndP : rnd (dyMake (dyL (dyMake false 1 0)).1 (lv (dyL (dyMake false 1 0)).2.1) (dyL (dyMake false 1 0)).2.2).1 (dyMake (dyL (dyMake false 1 0)).1 (lv (dyL (dyMake false 1 0)).2.1) (dyL (dyMake false 1 0)).2.2).2.1 (dyMake (dyL (dyMake false 1 0)).1 (lv (dyL (dyMake false 1 0)).2.1) (dyL (dyMake false 1 0)).2.2).2.2 true = Num.ofInt (1) := by decide +kernel
theorem aII : ∃ t : Num, t = Num.ofInt (1) ∧ aC Tryz.prog 105 [.int .i64 (.l (1))] t.av := by
 refine ⟨_, rfl, ?_⟩;generalize hr : Num.ofInt (1) = r;have w : ∀ u : Bool × List Int, u = whN (1) → u.1 = false ∧ lv u.2 = 1 ∧ Lb u.2 ∧ u.2.length ≤ 125000 := by
  intro u h; rw [h]; exact ⟨by unfold whN; rfl, by unfold whN; show lv (lim (Int.natAbs (1))) = _; rw [aJ]; rfl, whN_lb _, Ae (fR (k := 1) (by decide)) (by decide)⟩
 have fin := rndP.trans hr;have dl : ∀ d : Bool × List Int × Int, d = dyL (dyMake false 1 0) → Lb d.2.1 ∧ d.2.1.length ≤ 62500 ∧ (-9223372036854775808 ≤ d.2.2 ∧ d.2.2 < 9223372036854775808) := by
  intro d h;have e : dyL (dyMake false 1 0) = (false, [1], 0) := by decide +kernel
  rw [h, e];exact ⟨Lb.cons (by decide) (by decide) Lb.nil, by decide, by decide, by decide⟩
 clear hr;refine callsA_o Tryz.func105 fun E hE lp hl' => ?_
 cbv
 (refine E_cx hE (c_r2From (1) (by decide) (by decide)) ?_; intro u hu; cbv)
 obtain ⟨u1, u2, u3, u5⟩ := w u hu
 (refine E_cx hE (dP u.1 u.2 0 u3 u5 (by decide)) ?_; intro d hd; cbv)
 have hd : d = dyL (dyMake false 1 0) := by
  have k : d = dyL (dyMake u.1 (lv u.2) 0) := hd;rw [k, u1, u2]
 obtain ⟨d1, d4, d3⟩ := dl d hd
 (refine E_cx hE (mP d.1 d.2.1 d.2.2 true d1 d4 d3) ?_; intro z hz; cbv)
 have k : z = r := by
  have k : z = rnd (dyMake d.1 (lv d.2.1) d.2.2).1 (dyMake d.1 (lv d.2.1) d.2.2).2.1 (dyMake d.1 (lv d.2.1) d.2.2).2.2 true := hz;rw [k, hd]; exact fin
 rw [← k]; exact ⟨rfl, rfl, rfl, rfl, trivial⟩
theorem rndM : rnd (dyMake (dyL (dyMake true 1 0)).1 (lv (dyL (dyMake true 1 0)).2.1) (dyL (dyMake true 1 0)).2.2).1 (dyMake (dyL (dyMake true 1 0)).1 (lv (dyL (dyMake true 1 0)).2.1) (dyL (dyMake true 1 0)).2.2).2.1 (dyMake (dyL (dyMake true 1 0)).1 (lv (dyL (dyMake true 1 0)).2.1) (dyL (dyMake true 1 0)).2.2).2.2 true = Num.ofInt (-1) := by decide +kernel
theorem aIN : ∃ t : Num, t = Num.ofInt (-1) ∧ aC Tryz.prog 105 [.int .i64 (.l (-1))] t.av := by
 refine ⟨_, rfl, ?_⟩;generalize hr : Num.ofInt (-1) = r;have w : ∀ u : Bool × List Int, u = whN (-1) → u.1 = true ∧ lv u.2 = 1 ∧ Lb u.2 ∧ u.2.length ≤ 125000 := by
  intro u h; rw [h]; exact ⟨by unfold whN; rfl, by unfold whN; show lv (lim (Int.natAbs (-1))) = _; rw [aJ]; rfl, whN_lb _, Ae (fR (k := 1) (by decide)) (by decide)⟩
 have fin := rndM.trans hr;have dl : ∀ d : Bool × List Int × Int, d = dyL (dyMake true 1 0) → Lb d.2.1 ∧ d.2.1.length ≤ 62500 ∧ (-9223372036854775808 ≤ d.2.2 ∧ d.2.2 < 9223372036854775808) := by
  intro d h;have e : dyL (dyMake true 1 0) = (true, [1], 0) := by decide +kernel
  rw [h, e];exact ⟨Lb.cons (by decide) (by decide) Lb.nil, by decide, by decide, by decide⟩
 clear hr;refine callsA_o Tryz.func105 fun E hE lp hl' => ?_
 cbv
 (refine E_cx hE (c_r2From (-1) (by decide) (by decide)) ?_; intro u hu; cbv)
 obtain ⟨u1, u2, u3, u5⟩ := w u hu
 (refine E_cx hE (dP u.1 u.2 0 u3 u5 (by decide)) ?_; intro d hd; cbv)
 have hd : d = dyL (dyMake true 1 0) := by
  have k : d = dyL (dyMake u.1 (lv u.2) 0) := hd;rw [k, u1, u2]
 obtain ⟨d1, d4, d3⟩ := dl d hd
 (refine E_cx hE (mP d.1 d.2.1 d.2.2 true d1 d4 d3) ?_; intro z hz; cbv)
 have k : z = r := by
  have k : z = rnd (dyMake d.1 (lv d.2.1) d.2.2).1 (dyMake d.1 (lv d.2.1) d.2.2).2.1 (dyMake d.1 (lv d.2.1) d.2.2).2.2 true := hz;rw [k, hd]; exact fin
 rw [← k]; exact ⟨rfl, rfl, rfl, rfl, trivial⟩
theorem nO : ∃ t : Iv, t = nU ∧ aC Tryz.prog 131 [] t.av := by
 refine ⟨_, rfl, ?_⟩;generalize hr : nU = r;have o1 : (Num.ofInt (-1)).ok := Num.dA _;have o2 : (Num.ofInt 1).ok := Num.dA _;refine callsA_o Tryz.func131 fun E hE lp hl => ?_
 cbv
 (apply E_callX hE (aIN); (case hf => rfl); (case hc => (cbv <;> trivial)); (case hle => (repeat' (first | exact fW | apply dV | apply dR | exact aM | exact dU | exact aI | exact cV | exact aN | exact dY | exact cR | exact gG))); all_goals (first | (intro a ha; cbv) | (assumption)))
 (apply E_callX hE (aII); (case hf => rfl); (case hc => (cbv <;> trivial)); (case hle => (repeat' (first | exact fW | apply dV | apply dR | exact aM | exact dU | exact aI | exact cV | exact aN | exact dY | exact cR | exact gG))); all_goals (first | (intro b hb; cbv) | (assumption)))
 have oa : a.ok := by rw [ha]; exact o1
 have ob : b.ok := by rw [hb]; exact o2
 (refine E_cx hE (pY ⟨_, _, _, _⟩ ⟨_, _, _, _⟩ oa ob) ?_; intro z hz; cbv)
 have k : z = r := by
  have k1 : z = Iv.make a b := hz;rw [k1, ha, hb, ← hr]; rfl
 rw [← k]; exact ⟨rfl, rfl, rfl, rfl, rfl, rfl, rfl, rfl, rfl, trivial⟩
set_option maxHeartbeats 4000000 in
theorem uD (n : Num) (on : n.ok) (cs : Bool) : ∃ t : Iv, t = ofN n cs ∧ aC Tryz.prog 81 [n.av, .bool (.s cs)] t.av := by
 refine ⟨_, rfl, ?_⟩;generalize hr : ofN n cs = r;obtain ⟨F, hF⟩ : ∃ F, (fixV n).1 = F := ⟨_, rfl⟩
 have U : (fixV n).2 = false → nU = r := by intro h; rw [← hr]; unfold ofN; rw [if_neg (by rw [h]; decide)]
 have P0 : (fixV n).2 = true → cs = false → qI (eF F (F + 1)) = r := by intro h g; rw [← hr]; unfold ofN; rw [if_pos h, if_neg (by rw [g]; decide), hF]
 have P1 : (fixV n).2 = true → cs = true → qI (eF (F + piLoB / ((2 : Nat) : Int)) (F + 1 + (piHiB + 1) / ((2 : Nat) : Int))) = r := by intro h g; rw [← hr]; unfold ofN; rw [if_pos h, if_pos g, hF]; rfl
 have L : (fixV n).2 = true → wl F ≤ 7 := by
  intro h;have f := (iV h).2.2.2;rw [hF] at f;exact dW (by rw [show (4294967296 : Nat) ^ 7 = 2 ^ 224 by decide +kernel]; omega)
 obtain ⟨p1, p2, p3⟩ := pC;have d1 : wl 1 ≤ 1 := dW (k := 1) (by decide);have i1 : whN 1 = (decide ((1 : Int) < 0), lim (1 : Int).natAbs) := bA 1;have i2 : whN ((2 : Nat) : Int) = (decide ((2 : Int) < 0), lim (2 : Int).natAbs) := bA 2;have l1 : wl 1 ≤ 90000 := by omega
 have l2 : wl ((2 : Nat) : Int) ≤ 90000 := Ae (dW (k := 1) (by decide)) (by decide);have q1 : wl piLoB ≤ 90000 := by omega
 have q2 : wl piHiB ≤ 90000 := by omega
 have a1 := gB piHiB 1;have q3 : wl (piHiB + 1) ≤ 90000 := by omega
 have a2 := lZ piLoB (n := 2) (by decide);have a3 := lZ (piHiB + 1) (n := 2) (by decide);have q4 : wl (piLoB / ((2 : Nat) : Int)) ≤ 90000 := by omega
 have q5 : wl ((piHiB + 1) / ((2 : Nat) : Int)) ≤ 90000 := by omega
 have LF : wl F ≤ 7 → wl F ≤ 90000 ∧ wl F ≤ 100 ∧ wl (F + 1) ≤ 90000 ∧ wl (F + 1) ≤ 100 ∧ wl (F + piLoB / ((2 : Nat) : Int)) ≤ 100 ∧ wl (F + 1 + (piHiB + 1) / ((2 : Nat) : Int)) ≤ 100 := by
  intro h;have b1 := gB F 1;have b2 := gB F (piLoB / ((2 : Nat) : Int));have b3 := gB (F + 1) ((piHiB + 1) / ((2 : Nat) : Int));exact ⟨by omega, by omega, by omega, by omega, by omega, by omega⟩
 have SMX : ∀ X Y : Int, wl X ≤ 100 → wl Y ≤ 100 → (∀ s : Bool × List Int, s = whN (eF X Y).1 → s.2.length ≤ 1000) ∧ (∀ s : Bool × List Int, s = whN (eF X Y).2 → s.2.length ≤ 1000) := by
  intro X Y hX hY;obtain ⟨w1, w2, w3, w4, w5, w6, w7, w8, w9, w10, w11⟩ := uF hX hY;refine ⟨fun s h => ?_, fun s h => ?_⟩
  · have := (dL h).2.2; have := aAB w10; show s.2.length ≤ 1000;have e : wl (eF X Y).1 = wl (bnd1 (sineA X Y)) := rfl;omega
  · have := (dL h).2.2; have := aAB w11; show s.2.length ≤ 1000;have e : wl (eF X Y).2 = wl (bnd1 (sineB X Y)) := rfl;omega
 have PT : ∀ (p : Int × Int) (s : (Bool × List Int) × (Bool × List Int)), s.1 = whN p.1 → s.2 = whN p.2 → Iv.make (bH s.1.1 (lv s.1.2) false piOne false) (bH s.2.1 (lv s.2.2) false piOne true) = qI p ∧ Lb s.1.2 ∧ Lb s.2.2 := by
  intro p s h1 h2;have v1 : lv (whN p.1).2 = p.1.natAbs := by rw [bA]; exact aJ _
  have v2 : lv (whN p.2).2 = p.2.natAbs := by rw [bA]; exact aJ _
  have g1 : (whN p.1).1 = decide (p.1 < 0) := by rw [bA]
  have g2 : (whN p.2).1 = decide (p.2 < 0) := by rw [bA]
  rw [h1, h2, v1, v2, g1, g2];exact ⟨rfl, whN_lb _, whN_lb _⟩
 clear hr;refine callsA_o Tryz.func81 fun E hE lp hl => ?_
 cbv
 (refine E_cx hE (vV ⟨_, _, _, _⟩ on) ?_; intro f hf; cbv)
 have f1 : f.1 = whN F := by have k : f = (whN (fixV n).1, (fixV n).2) := hf; rw [k, ← hF]
 have f2 : f.2 = (fixV n).2 := by have k : f = (whN (fixV n).1, (fixV n).2) := hf; rw [k]
 clear hf;refine E_br hE ?_ ?_ <;> intro g <;> cbv
 · have g' : (fixV n).2 = false := by rw [← f2]; subst hE; cases q : f.2; rfl; rw [q] at g; exact absurd g (by decide)
   (refine E_cx hE nO ?_; intro z hz; cbv)
   have k : z = r := Eq.trans hz (U g');rw [← k]; exact ⟨rfl, rfl, rfl, rfl, rfl, rfl, rfl, rfl, rfl, trivial⟩
 have g' : (fixV n).2 = true := by rw [← f2]; subst hE; cases q : f.2; rw [q] at g; exact absurd g (by decide); rfl
 obtain ⟨e1, e2, e3, e4, e5, e6⟩ := LF (L g')
 (refine E_px hE (c_r2From 1 (by decide) (by decide)) ?_; intro one h1; cbv)
 have h1 : one = whN 1 := h1
 (refine E_px hE (z_rAdd F 1 f.1 one f1 h1 e1 l1) ?_; intro y hy; cbv)
 refine E_br hE ?_ ?_ <;> intro gc <;> cbv
 · skip
   (refine E_cx hE jP ?_; intro bo hbo; cbv)
   have hlo : bo.1 = whN piLoB := by have k : bo = (whN piLoB, whN piHiB) := hbo; rw [k]
   have hhi : bo.2 = whN piHiB := by have k : bo = (whN piLoB, whN piHiB) := hbo; rw [k]
   (refine E_cx hE (c_r2From 2 (by decide) (by decide)) ?_; intro two h2; cbv)
   have h2 : two = whN ((2 : Nat) : Int) := h2
   (refine E_px hE (nI piLoB 2 (by decide) bo.1 two hlo h2 q1 l2) ?_; intro u1 hu1; cbv)
   (refine E_px hE (z_rAdd F _ f.1 u1 f1 hu1 e1 q4) ?_; intro u2 hu2; cbv)
   (refine E_px hE (c_r2From 1 (by decide) (by decide)) ?_; intro on2 h3; cbv)
   have h3 : on2 = whN 1 := h3
   (refine E_px hE (z_rAdd piHiB 1 bo.2 on2 hhi h3 q2 l1) ?_; intro u3 hu3; cbv)
   (refine E_px hE (nI (piHiB + 1) 2 (by decide) u3 two hu3 h2 q3 l2) ?_; intro u4 hu4; cbv)
   (refine E_px hE (z_rAdd (F + 1) _ y u4 hy hu4 e3 q5) ?_; intro u5 hu5; cbv)
   (refine E_cx hE (xX _ _ u2 u5 hu2 hu5 e5 e6) ?_; intro s hs; cbv)
   have SM := SMX _ _ e5 e6;have s1 := hs.1;have s2 := hs.2;have sl1 := SM.1 s.1 s1;have sl2 := SM.2 s.2 s2;obtain ⟨PT1, PT2, PT3⟩ := PT _ s s1 s2
   (refine E_cx hE (vW s.1.1 s.1.2 s.2.1 s.2.2 PT2 PT3 sl1 sl2) ?_; intro z hz; cbv)
   have k : z = r := Eq.trans hz (PT1.trans (P1 g' gc));rw [← k]; exact ⟨rfl, rfl, rfl, rfl, rfl, rfl, rfl, rfl, rfl, trivial⟩
 · skip
   (refine E_cx hE (xX _ _ f.1 y f1 hy e2 e4) ?_; intro s hs; cbv)
   have SM := SMX _ _ e2 e4;have s1 := hs.1;have s2 := hs.2;have sl1 := SM.1 s.1 s1;have sl2 := SM.2 s.2 s2;obtain ⟨PT1, PT2, PT3⟩ := PT _ s s1 s2
   (refine E_cx hE (vW s.1.1 s.1.2 s.2.1 s.2.2 PT2 PT3 sl1 sl2) ?_; intro z hz; cbv)
   have k : z = r := Eq.trans hz (PT1.trans (P0 g' gc));rw [← k]; exact ⟨rfl, rfl, rfl, rfl, rfl, rfl, rfl, rfl, rfl, trivial⟩
theorem nR (cs : Bool) : ∃ t : (Bool × List Int) × (Bool × List Int), t = (whN piLoB, whN piHiB) ∧ aC Tryz.prog 59 [.bool (.s cs)] (.agg [.bool (.s t.1.1), .sli .u32 t.1.2, .bool (.s t.2.1), .sli .u32 t.2.2, .bool (.s cs)]) := by
 refine ⟨_, rfl, ?_⟩;generalize hr : (whN piLoB, whN piHiB) = r;refine callsA_o Tryz.func59 fun E hE lp hl => ?_
 cbv
 (refine E_cx hE aFB ?_; intro t ht; cbv)
 have k : t = r := Eq.trans ht hr;rw [← k]; exact ⟨rfl, rfl, rfl, rfl, trivial⟩
theorem c_trSin (n : Num) (on : n.ok) : ∃ t : Iv, t = ofN n false ∧ aC Tryz.prog 23 [n.av] t.av := by
 refine ⟨_, rfl, ?_⟩;generalize hr : ofN n false = r;refine callsA_o Tryz.func23 fun E hE lp hl => ?_
 cbv
 (refine E_px hE (nR false) ?_; intro t ht; cbv)
 have hlo : t.1 = whN piLoB := by have k : t = (whN piLoB, whN piHiB) := ht; rw [k]
 have hhi : t.2 = whN piHiB := by have k : t = (whN piLoB, whN piHiB) := ht; rw [k]
 (refine E_px hE (c_of ⟨_, _, _, _⟩ on t.1 t.2 false hlo hhi) ?_; intro z hz; cbv)
 have k : z = r := Eq.trans hz hr;rw [← k]; exact ⟨rfl, rfl, rfl, rfl, rfl, rfl, rfl, rfl, rfl, trivial⟩
theorem c_trCos (n : Num) (on : n.ok) : ∃ t : Iv, t = ofN n true ∧ aC Tryz.prog 25 [n.av] t.av := by
 refine ⟨_, rfl, ?_⟩;generalize hr : ofN n true = r;refine callsA_o Tryz.func25 fun E hE lp hl => ?_
 cbv
 (refine E_px hE (nR true) ?_; intro t ht; cbv)
 have hlo : t.1 = whN piLoB := by have k : t = (whN piLoB, whN piHiB) := ht; rw [k]
 have hhi : t.2 = whN piHiB := by have k : t = (whN piLoB, whN piHiB) := ht; rw [k]
 (refine E_px hE (c_of ⟨_, _, _, _⟩ on t.1 t.2 true hlo hhi) ?_; intro z hz; cbv)
 have k : z = r := Eq.trans hz hr;rw [← k]; exact ⟨rfl, rfl, rfl, rfl, rfl, rfl, rfl, rfl, rfl, trivial⟩
theorem c_r12Sin (n : Num) (on : n.ok) : ∃ t : Iv, t = ofN n false ∧ aC Tryz.prog 24 [n.av] t.av := by
 refine ⟨_, rfl, ?_⟩;generalize hr : ofN n false = r;refine callsA_o Tryz.func24 fun E hE lp hl => ?_
 cbv
 (refine E_cx hE (uD ⟨_, _, _, _⟩ on false) ?_; intro z hz; cbv)
 have k : z = r := Eq.trans hz hr;rw [← k]; exact ⟨rfl, rfl, rfl, rfl, rfl, rfl, rfl, rfl, rfl, trivial⟩
theorem c_r12Cos (n : Num) (on : n.ok) : ∃ t : Iv, t = ofN n true ∧ aC Tryz.prog 26 [n.av] t.av := by
 refine ⟨_, rfl, ?_⟩;generalize hr : ofN n true = r;refine callsA_o Tryz.func26 fun E hE lp hl => ?_
 cbv
 (refine E_cx hE (uD ⟨_, _, _, _⟩ on true) ?_; intro z hz; cbv)
 have k : z = r := Eq.trans hz hr;rw [← k]; exact ⟨rfl, rfl, rfl, rfl, rfl, rfl, rfl, rfl, rfl, trivial⟩
theorem aPG (x y u v : Int) (a b c d : Bool × List Int) (ha : a = whN x) (hb : b = whN y) (hc : c = whN u) (hd : d = whN v) (la : wl x ≤ 90000) (lb : wl y ≤ 90000) (lc : wl u ≤ 90000) (ld : wl v ≤ 90000) :
 ∃ t : Bool, t = decide (x ≤ v ∧ u ≤ y) ∧ aC Tryz.prog 127 [.agg [.bool (.s a.1), .sli .u32 a.2, .bool (.s b.1), .sli .u32 b.2], .agg [.bool (.s c.1), .sli .u32 c.2, .bool (.s d.1), .sli .u32 d.2]] (.bool (.s t)) := by
 refine ⟨_, rfl, ?_⟩;generalize hr : decide (x ≤ v ∧ u ≤ y) = r;have f0 : ¬ x ≤ v → r = false := by intro h; rw [← hr]; exact Az (fun z => h z.1)
 have f1 : x ≤ v → ∀ t : Bool, t = decide (u ≤ y) → t = r := by intro h t ht; rw [ht, ← hr]; exact Bk.2 ⟨fun z => ⟨h, z⟩, fun z => z.2⟩
 have cp : ∀ p q s : Int, s = (if p < q then -1 else if q < p then 1 else 0) → (s ≤ 0 ↔ p ≤ q) := by
  intro p q s h; have := gP h; omega
 clear hr;refine callsA_o Tryz.func127 fun E hE lp hl => ?_
 cbv
 (refine E_cx hE (z_wCmp x v a d ha hd la ld) ?_; intro s hs; cbv)
 have S := cp x v s hs;refine E_br hE ?_ ?_ <;> intro g <;> cbv
 · have g := S.1 (show s ≤ 0 by subst hE; exact kI g)
   (refine E_cx hE (z_wCmp u y c b hc hb lc lb) ?_; intro s2 hs2; cbv)
   have S2 := cp u y s2 hs2;refine f1 g _ ?_;subst hE;exact Bk.2 S2
 · have g : ¬ x ≤ v := fun z => (show ¬ s ≤ 0 by subst hE; exact bQ g) (S.2 z)
   rw [f0 g]
theorem aSH (n : Int) (n0 : -9223372036854775808 ≤ n) (n1 : n < 9223372036854775808) (lo hi : Bool × List Int) (cs : Bool) (hlo : lo = whN piLoB) (hhi : hi = whN piHiB) :
 ∃ t : (Bool × List Int) × (Bool × List Int), (t.1 = whN (if n < 0 then n * piHiB else n * piLoB) ∧ t.2 = whN (if n < 0 then n * piLoB else n * piHiB)) ∧
  aC Tryz.prog 126 [.agg [.bool (.s lo.1), .sli .u32 lo.2, .bool (.s hi.1), .sli .u32 hi.2, .bool (.s cs)], .int .i64 (.s n)] (.agg [.bool (.s t.1.1), .sli .u32 t.1.2, .bool (.s t.2.1), .sli .u32 t.2.2]) := by
 refine ⟨(whN (if n < 0 then n * piHiB else n * piLoB), whN (if n < 0 then n * piLoB else n * piHiB)), ⟨rfl, rfl⟩, ?_⟩;generalize hr1 : whN (if n < 0 then n * piHiB else n * piLoB) = r1;generalize hr2 : whN (if n < 0 then n * piLoB else n * piHiB) = r2;have wn : whN n = (decide (n < 0), lim n.natAbs) := bA n;have ln : wl n ≤ 90000 := Ae (dW (k := 2) (by rw [show (4294967296 : Nat) ^ 2 = 18446744073709551616 by decide +kernel]; omega)) (by decide);obtain ⟨p1, p2, p3⟩ := pC;have l1 : wl piLoB ≤ 90000 := by omega
 have l2 : wl piHiB ≤ 90000 := by omega
 have f1 : n < 0 → ∀ v w : Bool × List Int, v = whN (n * piHiB) → w = whN (n * piLoB) → v = r1 ∧ w = r2 := by
  intro g v w hv hw; rw [hv, hw, ← hr1, ← hr2, if_pos g, if_pos g]; exact ⟨rfl, rfl⟩
 have f2 : ¬ n < 0 → ∀ v w : Bool × List Int, v = whN (n * piLoB) → w = whN (n * piHiB) → v = r1 ∧ w = r2 := by
  intro g v w hv hw; rw [hv, hw, ← hr1, ← hr2, if_neg g, if_neg g]; exact ⟨rfl, rfl⟩
 clear hr1 hr2;refine callsA_o Tryz.func126 fun E hE lp hl => ?_
 cbv
 (refine E_cx hE (c_wFrom n n0 n1) ?_; intro w hw; cbv)
 have hw : w = whN n := by rw [wn]; exact hw
 apply E_pcallX hE (z_wMul n piLoB w lo hw hlo ln l1)
 case hm => rfl
 case hle => exact ⟨bK, trivial⟩
 intro u hu;cbv;apply E_pcallX hE (z_wMul n piHiB w hi hw hhi ln l2)
 case hm => rfl
 case hle => exact ⟨bK, trivial⟩
 intro v hv;cbv;refine E_br hE ?_ ?_ <;> intro g <;> cbv
 · obtain ⟨k1, k2⟩ := f1 (by subst hE; exact bF g) v u hv hu;rw [← k1, ← k2]; exact ⟨rfl, rfl, rfl, rfl, trivial⟩
 · obtain ⟨k1, k2⟩ := f2 (by subst hE; exact aW g) u v hu hv;rw [← k1, ← k2]; exact ⟨rfl, rfl, rfl, rfl, trivial⟩
end
section
open Go
theorem aQP {l : Int} (h0 : 0 ≤ l) (h1 : l < 18446744073709551616) : IntKind.u64.wrap ((BitVec.ofInt 64 0 ||| BitVec.ofInt 64 l).toNat : Int) = l := by
 rw [Dt, iE (by omega) (by omega), iE h0 h1];simp only [Cy, Nat.zero_or];rw [wu64]; omega
theorem aLV {a : List Int} (ha : Lb a) (hl : a.length ≤ 2) {i u x : Int} (h0 : 0 ≤ i) (h1 : i < a.length) (hu : u = lv (a.take i.toNat)) (hx : x = a.getD i.toNat 0) :
 aA .or .u64 u (aA .shl .u64 (IntKind.u64.wrap x) (aA .mul .i64 32 i)) = lv (a.take (i + 1).toNat) := by
 match a, ha, hl, h1 with
 | [], _, _, h1 => simp at h1; omega
 | [p], ha, _, h1 =>
  have i0 : i = 0 := by simp at h1; omega
  subst i0;have hp := ha p (by simp);simp [lv] at hu hx;subst hu;subst x;have e1 : IntKind.u64.wrap p = p := by rw [wu64]; omega
  have e2 : aA .mul .i64 32 0 = 0 := by decide
  rw [e2];have e3 : aA .shl .u64 (IntKind.u64.wrap p) 0 = p := by
   show IntKind.u64.wrap (IntKind.u64.wrap p * 2 ^ (min (0 : Int).toNat IntKind.u64.bits)) = p;rw [e1]; simp; exact e1
  rw [e3];show IntKind.u64.wrap ((BitVec.ofInt 64 0 ||| BitVec.ofInt 64 p).toNat : Int) = _;rw [aQP hp.1 (by omega)];simp [lv]; omega
 | [p, q], ha, _, h1 =>
  have hp := ha p (by simp);have hq := ha q (by simp);have e1 : IntKind.u64.wrap p = p := by rw [wu64]; omega
  have e1' : IntKind.u64.wrap q = q := by rw [wu64]; omega
  rcases (show i = 0 ∨ i = 1 by simp at h1; omega) with i0 | i0
  · subst i0;simp [lv] at hu hx;subst hu;subst x;have e2 : aA .mul .i64 32 0 = 0 := by decide
    rw [e2];have e3 : aA .shl .u64 (IntKind.u64.wrap p) 0 = p := by
     show IntKind.u64.wrap (IntKind.u64.wrap p * 2 ^ (min (0 : Int).toNat IntKind.u64.bits)) = p;rw [e1]; simp; exact e1
    rw [e3];show IntKind.u64.wrap ((BitVec.ofInt 64 0 ||| BitVec.ofInt 64 p).toNat : Int) = _;rw [aQP hp.1 (by omega)];simp [lv]; omega
  · subst i0;simp [lv] at hu hx;have hu' : u = p := by omega
    rw [hu'];subst x;have e2 : aA .mul .i64 32 1 = 32 := by decide
    rw [e2];have e3 : aA .shl .u64 (IntKind.u64.wrap q) 32 = q * 4294967296 := by
     show IntKind.u64.wrap (IntKind.u64.wrap q * 2 ^ (min (32 : Int).toNat IntKind.u64.bits)) = _;rw [e1'];have : (min (32 : Int).toNat IntKind.u64.bits) = 32 := by decide
     rw [this, wu64]; omega
    rw [e3];show IntKind.u64.wrap ((BitVec.ofInt 64 p ||| BitVec.ofInt 64 (q * 4294967296)).toNat : Int) = _;rw [or64 hp.1 hp.2 hq.1 hq.2];simp [lv]; omega
theorem aLE {a : List Int} (ha : Lb a) (hl : a.length ≤ 2) {i u : Int} (h0 : 0 ≤ i) (h1 : i < a.length) (hu : u = lv (a.drop (i.toNat + 1))) :
 aA .add .u64 (aA .mul .u64 u 4294967296) (IntKind.u64.wrap (a.getD i.toNat 0)) = lv (a.drop i.toNat) := by
 match a, ha, hl, h1 with
 | [], _, _, h1 => simp at h1; omega
 | [p], ha, _, h1 =>
  have i0 : i = 0 := by simp at h1; omega
  subst i0;have hp := ha p (by simp);simp [lv] at hu;subst hu;show IntKind.u64.wrap (IntKind.u64.wrap (0 * 4294967296) + IntKind.u64.wrap p) = _;rw [wu64, wu64, wu64]; simp [lv]; omega
 | [p, q], ha, _, h1 =>
  have hp := ha p (by simp);have hq := ha q (by simp);rcases (show i = 0 ∨ i = 1 by simp at h1; omega) with i0 | i0
  · subst i0;simp [lv] at hu;have hu' : u = q := by omega
    subst hu';show IntKind.u64.wrap (IntKind.u64.wrap (u * 4294967296) + IntKind.u64.wrap p) = _;rw [wu64, wu64, wu64]; simp [lv]; omega
  · subst i0;simp [lv] at hu;subst hu;show IntKind.u64.wrap (IntKind.u64.wrap (0 * 4294967296) + IntKind.u64.wrap q) = _;rw [wu64, wu64, wu64]; simp [lv]; omega
end
section
open Go Go.Proofs Go.RowKit
theorem wH {O : Nat → Prop} {w : World} {x y c : Int} {vals : Array Value} (hl : [AV.int .u64 (.s x), AV.int .u64 (.s y), AV.int .u64 (.s c)].length = vals.size)
 (hr : ∀ (j : Nat) (a : AV), [AV.int .u64 (.s x), AV.int .u64 (.s y), AV.int .u64 (.s c)][j]? = some a → RoV O w a (vals.getD j undef)) : vals = #[.int .u64 x, .int .u64 y, .int .u64 c] := by
 have g : ∀ {n : Int} {v : Value}, RoV O w (.int .u64 (.s n)) v → v = .int .u64 n := by
  intro n v h; cases h; rename_i h; subst h; rfl
 have e0 := g (hr 0 _ rfl);have e1 := g (hr 1 _ rfl);have e2 := g (hr 2 _ rfl);obtain ⟨l⟩ := vals;rcases l with _ | ⟨a, _ | ⟨b, _ | ⟨d, _ | ⟨e, r⟩⟩⟩⟩ <;> simp at hl
 simp at e0 e1 e2;rw [e0, e1, e2]
theorem aHG {O : Nat → Prop} {w : World} (a b : Int) : RoV O w (.tup [.int .u64 (.s a), .int .u64 (.s b)]) (.tuple #[.int .u64 a, .int .u64 b]) := by
 refine .tup _ _ rfl (fun j c hj => ?_)
 match j, hj with
 | 0, hj => simp at hj; subst hj; exact .int _ _ _ rfl
 | 1, hj => simp at hj; subst hj; exact .int _ _ _ rfl
 | j + 2, hj => simp at hj
theorem aQI (x y c : Int) (hx : 0 ≤ x) (hy : 0 ≤ y) (hc0 : 0 ≤ c) (hc : c ≤ 1) : ∃ t : Int × Int, t = ((x + y + c) % 18446744073709551616, (x + y + c) / 18446744073709551616) ∧
 aC Tryz.prog 205 [.int .u64 (.s x), .int .u64 (.s y), .int .u64 (.s c)] (.tup [.int .u64 (.s t.1), .int .u64 (.s t.2)]) := by
 refine ⟨_, rfl, fun O w vals hO hg hl hr => .inr ⟨.tuple #[.int .u64 ((x + y + c) % 18446744073709551616), .int .u64 ((x + y + c) / 18446744073709551616)], ?_, _, rfl, aHG _ _, Below.refl _ _⟩⟩;rw [wH hl hr, run_callFunc_extern Tryz.func205 (by kernel_rfl) (by kernel_rfl) (by kernel_rfl) (e := add64Entry) (by kernel_rfl), run_add64 x y c hx hy hc0 hc];rfl
def subE : Array Value → Sem Value := (Extern.MathBitsCarry.rows.getD 1 ("", fun _ => pure .nilIface)).2
theorem aMJ {P : Program} (x y b : Int) (hx : 0 ≤ x) (hy : 0 ≤ y) (hy' : y < 18446744073709551616) (hb0 : 0 ≤ b) (hb : b ≤ 1) (w : World) :
 (subE #[.int .u64 x, .int .u64 y, .int .u64 b]).run P w = .ok (.tuple #[.int .u64 ((x - y - b) % 18446744073709551616), .int .u64 (if x < y + b then 1 else 0)]) w := by
 have key : ∀ k : Nat, k ≤ 1 → (subE #[.int .u64 x, .int .u64 y, .int .u64 (k : Int)]).run P w =
  .ok (Extern.MathBitsCarry.pair ((x.toNat + Extern.MathBitsCarry.m64 - y.toNat - k) % Extern.MathBitsCarry.m64) (if x.toNat < y.toNat + k then 1 else 0)) w := by
  intro k hk;have : k = 0 ∨ k = 1 := by omega
  rcases this with rfl | rfl <;> rfl
 obtain ⟨k, rfl⟩ := Al hb0;rw [key k (by omega)];obtain ⟨X, rfl⟩ := Al hx;obtain ⟨Y, rfl⟩ := Al hy;have e1 : ((((X : Int).toNat + Extern.MathBitsCarry.m64 - (Y : Int).toNat - k) % Extern.MathBitsCarry.m64 : Nat) : Int) = ((X : Int) - Y - k) % 18446744073709551616 := by
  simp only [Extern.MathBitsCarry.m64, Ak]; omega
 have e2 : (((if (X : Int).toNat < (Y : Int).toNat + k then 1 else 0 : Nat)) : Int) = if (X : Int) < Y + k then 1 else 0 := by
  simp only [Ak]; split <;> split <;> omega
 show Result.ok (Value.tuple #[.int .u64 _, .int .u64 _]) w = _;rw [← e1, ← e2];rfl
theorem aOJ (x y b : Int) (hx : 0 ≤ x) (hy : 0 ≤ y) (hy' : y < 18446744073709551616) (hb0 : 0 ≤ b) (hb : b ≤ 1) : ∃ t : Int × Int, t = ((x - y - b) % 18446744073709551616, if x < y + b then 1 else 0) ∧
 aC Tryz.prog 206 [.int .u64 (.s x), .int .u64 (.s y), .int .u64 (.s b)] (.tup [.int .u64 (.s t.1), .int .u64 (.s t.2)]) := by
 refine ⟨_, rfl, fun O w vals hO hg hl hr => .inr ⟨.tuple #[.int .u64 ((x - y - b) % 18446744073709551616), .int .u64 (if x < y + b then 1 else 0)], ?_, _, rfl, aHG _ _, Below.refl _ _⟩⟩;rw [wH hl hr, run_callFunc_extern Tryz.func206 (by kernel_rfl) (by kernel_rfl) (by kernel_rfl) (e := subE) (by kernel_rfl), aMJ x y b hx hy hy' hb0 hb];rfl
end
section
open Go Go.Proofs
theorem aHE (m : Int) (k : Int) (h0 : 0 < m) (h1 : m < 18446744073709551616) (h2 : 0 ≤ k) (h3 : k < 9223372036854775808) : ∃ t : Dbl, t = dS m k ∧ aC Tryz.prog 204 [.int .u64 (.s m), .int .i64 (.s k)] (t.av) := by
 refine ⟨_, rfl, ?_⟩;generalize hr : dS m k = r;refine callsA_o Tryz.func204 fun E hE lp hl => ?_
 cbv;repeat' (first
   | (apply E_br_t hE; assumption; cbv)
   | (apply fD hE; assumption; cbv)
   | (refine E_br hE ?_ ?_ <;> intro h <;> cbv)
   | (refine E_nm hE fun v hv => ?_; cbv)
   | fail)
 all_goals (subst hE; subst hr)
 all_goals (try simp only [aB, aE, aH, aG, aF, aK, aL, aA, Ab, Aa, SI.val, SB.val, Num.eta, Iv.eta] at *)
 all_goals (try (exfalso; (try simp only [wi64] at *); omega))
 case refine_1.refine_2.refine_2 =>
  rw [aDJ h2 ‹k < 64›, show IntKind.i64.wrap (64 - k) = 64 - k by (simp only [wi64]; omega), show min k.toNat IntKind.u64.bits = k.toNat by (show min k.toNat 64 = _; omega),
    show min (64 - k).toNat IntKind.u64.bits = (64 - k).toNat by (show min (64 - k).toNat 64 = _; omega), gT (Am (two_pos _)), wu64]
  exact ⟨rfl, rfl, rfl, trivial⟩
 case refine_2.refine_1.refine_2.refine_2 =>
  have ev : v = k - 64 := by rw [hv]; simp only [wi64]; omega
  subst ev;rw [aIZ (by omega) h1 (by omega) ‹k < 128›, show IntKind.i64.wrap (64 - (k - 64)) = 128 - k by (simp only [wi64]; omega), show min (k - 64).toNat IntKind.u64.bits = (k - 64).toNat by (show min (k - 64).toNat 64 = _; omega),
    show min (128 - k).toNat IntKind.u64.bits = (128 - k).toNat by (show min (128 - k).toNat 64 = _; omega), gT (Am (two_pos _)), wu64]
  exact ⟨rfl, rfl, rfl, trivial⟩
 case refine_2.refine_2 =>
  rw [aKF h0 h1 (by omega)];exact ⟨rfl, rfl, rfl, trivial⟩
theorem aSA (a : Num) (b : Num) (up : Bool) (ha : a.Fin) (hb : b.Fin) (hk : b.e ≤ a.e) : ∃ t : Num, t = mJ a b up ∧ aC Tryz.prog 161 [a.av, b.av, .bool (.s up)] (t.av) := by
 refine ⟨_, rfl, ?_⟩;generalize hr : mJ a b up = r;refine callsA_o Tryz.func161 fun E hE lp hl => ?_
 cbv;repeat' (first
   | (apply E_br_t hE; assumption; cbv)
   | (apply fD hE; assumption; cbv)
   | (refine E_br hE ?_ ?_ <;> intro h <;> cbv)
   | (refine E_nm hE fun v hv => ?_; cbv)
   | (refine E_cx hE (aHE _ _ ?_ ?_ ?_ ?_) ?_; all_goals (first | (intro t ht; cbv) | (subst hE; (try simp only [aB, aE, aH, aG, aF, aK, aL, aA, Ab, Aa, SI.val, SB.val, Num.eta, Iv.eta] at *); (have := ha.lo; have := ha.hi; have := hb.lo; have := hb.hi; have := ha.elo; have := ha.ehi; have := hb.elo; have := hb.ehi; first | omega | exact (show 0 < b.m by omega) | exact (show b.m < 18446744073709551616 by omega) | exact (show 0 ≤ IntKind.i64.wrap (a.e - b.e) by (simp only [wi64]; omega)) | exact (show IntKind.i64.wrap (a.e - b.e) < 9223372036854775808 by (simp only [wi64]; omega)) | exact (show 0 ≤ a.m by omega) | (subst_vars; exact kG _ _ (by omega))))))
   | (refine E_cx hE (aQI _ _ _ ?_ ?_ ?_ ?_) ?_; all_goals (first | (intro t ht; cbv) | (subst hE; (try simp only [aB, aE, aH, aG, aF, aK, aL, aA, Ab, Aa, SI.val, SB.val, Num.eta, Iv.eta] at *); (have := ha.lo; have := ha.hi; have := hb.lo; have := hb.hi; have := ha.elo; have := ha.ehi; have := hb.elo; have := hb.ehi; first | omega | exact (show 0 < b.m by omega) | exact (show b.m < 18446744073709551616 by omega) | exact (show 0 ≤ IntKind.i64.wrap (a.e - b.e) by (simp only [wi64]; omega)) | exact (show IntKind.i64.wrap (a.e - b.e) < 9223372036854775808 by (simp only [wi64]; omega)) | exact (show 0 ≤ a.m by omega) | (subst_vars; exact kG _ _ (by omega))))))
   | (refine E_cx hE (rN _ _ _ _ _) ?_; intro t ht; cbv)
   | fail)
 all_goals (subst hE; subst hr)
 all_goals (try simp only [aB, aE, aH, aG, aF, aK, aL, aA, Ab, Aa, SI.val, SB.val, Num.eta, Iv.eta] at *)
 all_goals (refine Num.fin (t := t) ?_)
 all_goals (subst_vars; dsimp only at *)
 all_goals (have hw : IntKind.i64.wrap (a.e - b.e) = a.e - b.e := by (have := ha.elo; have := ha.ehi; have := hb.elo; have := hb.ehi; rw [wi64]; omega))
 all_goals (simp only [hw] at *)
 all_goals (first | rw [aFT ha hb rfl ‹_›] | rw [aJH ha hb rfl ‹_›])
 all_goals (first | (simp [*]; done) | (simp [*]; rfl) | trace_state)
set_option maxHeartbeats 4000000 in
theorem aOP (a : Num) (b : Num) (up : Bool) (ha : a.Fin) (hb : b.Fin) (hk : b.e ≤ a.e) (hgt : b.e < a.e ∨ b.m < a.m) : ∃ t : Num, t = gC a b up ∧ aC Tryz.prog 162 [a.av, b.av, .bool (.s up)] (t.av) := by
 refine ⟨_, rfl, ?_⟩;generalize hr : gC a b up = r;refine callsA_o Tryz.func162 fun E hE lp hl => ?_
 cbv;repeat' (first
   | (apply E_br_t hE; assumption; cbv)
   | (apply fD hE; assumption; cbv)
   | (refine E_br hE ?_ ?_ <;> intro h <;> cbv)
   | (refine E_nm hE fun v hv => ?_; cbv)
   | (refine E_cx hE (aHE _ _ ?_ ?_ ?_ ?_) ?_; all_goals (first | (intro t ht; cbv) | (subst hE; (try simp only [aB, aE, aH, aG, aF, aK, aL, aA, Ab, Aa, SI.val, SB.val, Num.eta, Iv.eta] at *); (have := ha.lo; have := ha.hi; have := hb.lo; have := hb.hi; have := ha.elo; have := ha.ehi; have := hb.elo; have := hb.ehi; first | omega | exact (show 0 < b.m by omega) | exact (show b.m < 18446744073709551616 by omega) | exact (show 0 ≤ IntKind.i64.wrap (a.e - b.e) by (simp only [wi64]; omega)) | exact (show IntKind.i64.wrap (a.e - b.e) < 9223372036854775808 by (simp only [wi64]; omega)) | exact (show 0 ≤ a.m by omega) | (subst_vars; first | exact kG _ _ (by omega) | exact rI _ _ | exact oS _ _ | exact oQ _ _ (by omega) (by omega) | (dsimp only; first | exact Bq _ (by decide) | exact Cf _ (by decide) | exact sH _ | exact rG _))))))
   | (refine E_cx hE (aOJ _ _ _ ?_ ?_ ?_ ?_ ?_) ?_; all_goals (first | (intro t ht; cbv) | (subst hE; (try simp only [aB, aE, aH, aG, aF, aK, aL, aA, Ab, Aa, SI.val, SB.val, Num.eta, Iv.eta] at *); (have := ha.lo; have := ha.hi; have := hb.lo; have := hb.hi; have := ha.elo; have := ha.ehi; have := hb.elo; have := hb.ehi; first | omega | exact (show 0 < b.m by omega) | exact (show b.m < 18446744073709551616 by omega) | exact (show 0 ≤ IntKind.i64.wrap (a.e - b.e) by (simp only [wi64]; omega)) | exact (show IntKind.i64.wrap (a.e - b.e) < 9223372036854775808 by (simp only [wi64]; omega)) | exact (show 0 ≤ a.m by omega) | (subst_vars; first | exact kG _ _ (by omega) | exact rI _ _ | exact oS _ _ | exact oQ _ _ (by omega) (by omega) | (dsimp only; first | exact Bq _ (by decide) | exact Cf _ (by decide) | exact sH _ | exact rG _))))))
   | (refine E_cx hE (aMD _ ?_ ?_) ?_; all_goals (first | (intro t ht; cbv) | (subst hE; (try simp only [aB, aE, aH, aG, aF, aK, aL, aA, Ab, Aa, SI.val, SB.val, Num.eta, Iv.eta] at *); (have := ha.lo; have := ha.hi; have := hb.lo; have := hb.hi; have := ha.elo; have := ha.ehi; have := hb.elo; have := hb.ehi; first | omega | exact (show 0 < b.m by omega) | exact (show b.m < 18446744073709551616 by omega) | exact (show 0 ≤ IntKind.i64.wrap (a.e - b.e) by (simp only [wi64]; omega)) | exact (show IntKind.i64.wrap (a.e - b.e) < 9223372036854775808 by (simp only [wi64]; omega)) | exact (show 0 ≤ a.m by omega) | (subst_vars; first | exact kG _ _ (by omega) | exact rI _ _ | exact oS _ _ | exact oQ _ _ (by omega) (by omega) | (dsimp only; first | exact Bq _ (by decide) | exact Cf _ (by decide) | exact sH _ | exact rG _))))))
   | (refine E_cx hE (rN _ _ _ _ _) ?_; intro t ht; cbv)
   | fail)
 all_goals (subst hE; subst hr)
 all_goals (try simp only [aB, aE, aH, aG, aF, aK, aL, aA, Ab, Aa, SI.val, SB.val, Num.eta, Iv.eta] at *)
 all_goals (try refine Num.fin (t := t) ?_)
 all_goals (subst_vars; dsimp only at *)
 all_goals (have hw : IntKind.i64.wrap (a.e - b.e) = a.e - b.e := by (have := ha.elo; have := ha.ehi; have := hb.elo; have := hb.ehi; rw [wi64]; omega))
 all_goals (simp only [hw] at *)
 all_goals (first
   | (have P := jS (D := dS b.m (a.e - b.e)) (c := 1) ha hb hk hgt rfl (by rw [if_pos ‹(dS b.m (a.e - b.e)).cut = true›]) rfl rfl rfl)
   | (have P := jS (D := dS b.m (a.e - b.e)) (c := 0) ha hb hk hgt rfl (by rw [if_neg (by rw [‹(dS b.m (a.e - b.e)).cut = false›]; decide)]) rfl rfl rfl))
 all_goals (obtain ⟨z0, z1, ehi, elo, ecut⟩ := P; simp only [ehi, elo, ecut] at *; clear ehi elo)
 all_goals (have bn := aX (minusZ a b % 18446744073709551616); have bn2 := aX (minusZ a b / 18446744073709551616))
 all_goals (try (exfalso; (try simp only [wi64] at *); omega))
 all_goals (try (exfalso; exact Bool.noConfusion (‹eW a b = true›.symm.trans ‹eW a b = false›)))
 all_goals first
  | rw [aBB ha z0 (by omega) (by omega)]
  | rw [aAQ ha z0 z1 (by omega) (by omega)]
  | rw [aCS ha z0 z1 (by omega) (by omega)]
  | rw [aDO ha z0 (by omega)]
 all_goals first
  | (rw [‹eW a b = true›]; rfl)
  | (rw [‹eW a b = false›]; rfl)
  | trace_state
set_option maxHeartbeats 4000000 in
theorem aPX (a : Num) (b : Num) (up : Bool) (ha : a.ok) (hb : b.ok) : ∃ t : Num, t = Num.add a b up ∧ aC Tryz.prog 94 [a.av, b.av, .bool (.s up)] (t.av) := by
 refine ⟨_, rfl, ?_⟩;generalize hr : Num.add a b up = r;refine callsA_o Tryz.func94 fun E hE lp hl => ?_
 cbv;repeat' (first
   | (apply E_br_t hE; assumption; cbv)
   | (apply fD hE; assumption; cbv)
   | (refine E_br hE ?_ ?_ <;> intro h <;> cbv)
   | (refine E_nm hE fun v hv => ?_; cbv)
   | (refine E_px hE (aMY ⟨_, _, _, _⟩) ?_; intro t ht; cbv)
   | (refine E_cx hE (yL _) ?_; intro t ht; cbv)
   | (refine E_cx hE (aSA ⟨_, _, _, _⟩ ⟨_, _, _, _⟩ _ ?_ ?_ ?_) ?_; all_goals (first | (intro t ht; cbv) | (subst hE; (try simp only [aB, aE, aH, aG, aF, aK, aL, aA, Ab, Aa, SI.val, SB.val, Num.eta, Iv.eta] at *); (subst_vars; have fa := Num.sD (n := a) ‹_› ‹_›; have fb := Num.sD (n := b) ‹_› ‹_›; have FA : a.fair.Fin := ⟨fa.1, fa.2.1, (Num.fair_ok ha).2, fa.2.2.1, fa.2.2.2⟩; have FB : b.fair.Fin := ⟨fb.1, fb.2.1, (Num.fair_ok hb).2, fb.2.2.1, fb.2.2.2⟩; first | exact FA | exact FB | exact (show b.fair.e ≤ a.fair.e by omega) | exact (show a.fair.e ≤ b.fair.e by omega) | exact (show b.fair.e < a.fair.e ∨ b.fair.m < a.fair.m by omega) | exact (show a.fair.e < b.fair.e ∨ a.fair.m < b.fair.m by omega)))))
   | (refine E_cx hE (aOP ⟨_, _, _, _⟩ ⟨_, _, _, _⟩ _ ?_ ?_ ?_ ?_) ?_; all_goals (first | (intro t ht; cbv) | (subst hE; (try simp only [aB, aE, aH, aG, aF, aK, aL, aA, Ab, Aa, SI.val, SB.val, Num.eta, Iv.eta] at *); (subst_vars; have fa := Num.sD (n := a) ‹_› ‹_›; have fb := Num.sD (n := b) ‹_› ‹_›; have FA : a.fair.Fin := ⟨fa.1, fa.2.1, (Num.fair_ok ha).2, fa.2.2.1, fa.2.2.2⟩; have FB : b.fair.Fin := ⟨fb.1, fb.2.1, (Num.fair_ok hb).2, fb.2.2.1, fb.2.2.2⟩; first | exact FA | exact FB | exact (show b.fair.e ≤ a.fair.e by omega) | exact (show a.fair.e ≤ b.fair.e by omega) | exact (show b.fair.e < a.fair.e ∨ b.fair.m < a.fair.m by omega) | exact (show a.fair.e < b.fair.e ∨ a.fair.m < b.fair.m by omega)))))
   | fail)
 all_goals (subst hE; subst hr)
 all_goals (try simp only [aB, aE, aH, aG, aF, aK, aL, aA, Ab, Aa, SI.val, SB.val, Num.eta, Iv.eta] at *)
 all_goals subst_vars
 all_goals (try (exfalso; omega))
 all_goals (refine Num.fin (t := ⟨_, _, _, _⟩) ?_)
 all_goals (unfold Num.add Num.addF Num.addS)
 all_goals ((repeat' split) <;> first | rfl | (exfalso; omega) | (exfalso; simp_all; done) | (exfalso; simp_all; omega))
end
end Go.Proofs.YtmlcglmbjjmijaaGreatDoor.Ev
