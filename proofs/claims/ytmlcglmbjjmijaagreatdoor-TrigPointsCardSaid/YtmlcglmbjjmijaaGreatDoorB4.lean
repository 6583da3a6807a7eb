/- Texts of the proof, joined and shortened. -/
import Derived.Test.YtmlcglmbjjmijaaGreatDoorB3
set_option linter.unusedVariables false
set_option linter.unusedSimpArgs false
namespace Go.Proofs.YtmlcglmbjjmijaaGreatDoor.Ev
section
open Go
theorem quo32 {n : Int} (h : 0 ≤ n) (h' : n < 9223372036854775808) : aA .quo .i64 n 32 = n / 32 := by
 show IntKind.i64.wrap (n.tdiv 32) = _;rw [Dc h, wi64_id (by omega) (by omega)]
theorem qW {n : Int} (h : 0 ≤ n) : aA .rem .i64 n 32 = n % 32 := by
 show n.tmod 32 = _;exact Bx h
theorem eR (k : Nat) : (2 : Int) ^ k = ((2 ^ k : Nat) : Int) := by push_cast; rfl
theorem getD_past {a : List Int} {i : Nat} (h : a.length ≤ i) : a.getD i 0 = 0 := by simp [List.getD, List.getElem?_eq_none h]
theorem qN {a out : List Int} {n i i' l r x y j : Int} (ha : Lb a) (hla : a.length < 134217728) (hn : 1 ≤ n) (hn' : n ≤ 16777216) (h1 : 0 ≤ i) (h2 : i < a.length)
 (inv : gD a out (n / 32).toNat (n % 32).toNat i.toNat) (ei : i' = i) (el : l = aA .quo .i64 n 32) (er : r = aA .rem .i64 n 32) (ex : x = a.getD i.toNat 0)
 (ey : y = aA .shl .u64 (IntKind.u64.wrap x) r) (ej : j = aA .add .i64 i 1) :
 0 ≤ j ∧ j ≤ a.length ∧ ((a.length : Int) - j).toNat < ((a.length : Int) - i).toNat ∧
 gD a ((out.set (aA .add .i64 i' l).toNat (aA .or .u32 (out.getD (aA .add .i64 i' l).toNat 0) (IntKind.u32.wrap y))).set (aA .add .i64 (aA .add .i64 i' l) 1).toNat
   (aA .or .u32 ((out.set (aA .add .i64 i' l).toNat (aA .or .u32 (out.getD (aA .add .i64 i' l).toNat 0) (IntKind.u32.wrap y))).getD (aA .add .i64 (aA .add .i64 i' l) 1).toNat 0) (IntKind.u32.wrap (aA .shr .u64 y 32))))
  (n / 32).toNat (n % 32).toNat j.toNat := by
 subst ei;rw [quo32 (by omega) (by omega)] at el;rw [qW (by omega)] at er;have hk : (n % 32).toNat < 32 := by omega
 have st := inv.step ha hk (by omega);have hx := ha.getD i'.toNat;rw [← ex] at st hx;have lo := inv.low;have lb := inv.lb.getD (i'.toNat + (n / 32).toNat);have z := inv.zero (i'.toNat + (n / 32).toNat + 1) (by omega);have hd := xU hx.1 hx.2 hk;have ep : (aA .add .i64 i' l).toNat = i'.toNat + (n / 32).toNat := by
  show (IntKind.i64.wrap (i' + l)).toNat = _;rw [wi64_id (by omega) (by omega)]; omega
 have eq : (aA .add .i64 (aA .add .i64 i' l) 1).toNat = i'.toNat + (n / 32).toNat + 1 := by
  show (IntKind.i64.wrap (IntKind.i64.wrap (i' + l) + 1)).toNat = _;rw [wi64_id (n := i' + l) (by omega) (by omega), wi64_id (by omega) (by omega)]; omega
 have ey' : y = x * 2 ^ (n % 32).toNat := by
  rw [ey];show IntKind.u64.wrap (IntKind.u64.wrap x * 2 ^ (min r.toNat IntKind.u64.bits)) = _;have e : min r.toNat IntKind.u64.bits = (n % 32).toNat := by
   rw [er]; exact Nat.min_eq_left (by show _ ≤ 64; omega)
  rw [e, wu64 x, Bi hx.1 (by omega), wu64, Bi hd.2.1 hd.1]
 have e32 : aA .shr .u64 y 32 = y / 4294967296 := zB y;have ej' : j = i' + 1 := by rw [ej]; show IntKind.i64.wrap (i' + 1) = _; rw [wi64_id (by omega) (by omega)]
 obtain ⟨d1, d2, ⟨m, hm0, hm1, hm2⟩, d4, d5⟩ := hd;have dlt : x * 2 ^ (n % 32).toNat / 4294967296 < 4294967296 := by
  have := kW (k := (n % 32).toNat) (by omega);rw [eR] at d5;omega
 rw [ep, eq, e32, ey', getD_set_ne (by omega), z, wu32, wu32, ej', show (i' + 1).toNat = i'.toNat + 1 by omega];rw [Bi (a := x * 2 ^ (n % 32).toNat / 4294967296) d4 dlt];have o1 : aA .or .u32 (out.getD (i'.toNat + (n / 32).toNat) 0) (x * 2 ^ (n % 32).toNat % 4294967296) = out.getD (i'.toNat + (n / 32).toNat) 0 + x * 2 ^ (n % 32).toNat % 4294967296 := by
  rw [hm1];exact or32 lb.1 lo hm0 (by omega)
 have o2 : aA .or .u32 0 (x * 2 ^ (n % 32).toNat / 4294967296) = x * 2 ^ (n % 32).toNat / 4294967296 := aUE d4 dlt;rw [o1, o2];exact ⟨by omega, by omega, by omega, st⟩
theorem aBH {a out : List Int} {n i i' l r v w j : Int} (ha : Lb a) (hla : a.length < 134217728) (hn : 1 ≤ n) (hn' : n < 32 * a.length) (h1 : 0 ≤ i) (h2 : i < (a.length : Int) - n / 32)
 (inv : iL a out (n / 32).toNat (n % 32).toNat i.toNat) (ei : i' = i) (el : l = aA .quo .i64 n 32) (er : r = aA .rem .i64 n 32)
 (ev : v = IntKind.u64.wrap (a.getD (aA .add .i64 i' l).toNat 0))
 (ew : (¬ aA .add .i64 (aA .add .i64 i' l) 1 < a.length ∧ w = v) ∨ w = aA .or .u64 v (aA .shl .u64 (IntKind.u64.wrap (a.getD (aA .add .i64 (aA .add .i64 i' l) 1).toNat 0)) 32))
 (ej : j = aA .add .i64 i 1) :
 0 ≤ j ∧ j ≤ (a.length : Int) - n / 32 ∧ ((a.length : Int) - j).toNat < ((a.length : Int) - i).toNat ∧
 iL a (out.set i'.toNat (IntKind.u32.wrap (aA .shr .u64 w r))) (n / 32).toNat (n % 32).toNat j.toNat := by
 subst ei;rw [quo32 (by omega) (by omega)] at el;rw [qW (by omega)] at er;have hk : (n % 32).toNat < 32 := by omega
 have st := inv.step ha hk (by omega) (by omega);have ep : (aA .add .i64 i' l).toNat = i'.toNat + (n / 32).toNat := by
  show (IntKind.i64.wrap (i' + l)).toNat = _;rw [wi64_id (by omega) (by omega)]; omega
 have eq' : aA .add .i64 (aA .add .i64 i' l) 1 = i' + l + 1 := by
  show IntKind.i64.wrap (IntKind.i64.wrap (i' + l) + 1) = _;rw [wi64_id (n := i' + l) (by omega) (by omega), wi64_id (by omega) (by omega)]
 have eq : (aA .add .i64 (aA .add .i64 i' l) 1).toNat = i'.toNat + (n / 32).toNat + 1 := by rw [eq']; omega
 have hx := ha.getD (i'.toNat + (n / 32).toNat);have hy := ha.getD (i'.toNat + (n / 32).toNat + 1);rw [ep] at ev;rw [eq] at ew;have ej' : j = i' + 1 := by rw [ej]; show IntKind.i64.wrap (i' + 1) = _; rw [wi64_id (by omega) (by omega)]
 have past : ¬ aA .add .i64 (aA .add .i64 i' l) 1 < a.length → a.getD (i'.toNat + (n / 32).toNat + 1) 0 = 0 := by
  intro h; rw [eq'] at h; exact getD_past (by omega)
 generalize a.getD (i'.toNat + (n / 32).toNat) 0 = x at *
 generalize a.getD (i'.toNat + (n / 32).toNat + 1) 0 = y at *
 have ev' : v = x := by rw [ev, wu64, Bi hx.1 (by omega)]
 have ew' : w = x + y * 4294967296 := by
  rcases ew with ⟨h, e⟩ | e
  · rw [e, past h, ev']; omega
  · rw [e, ev'];have e2 : aA .shl .u64 (IntKind.u64.wrap y) 32 = y * 4294967296 := by
     show IntKind.u64.wrap (IntKind.u64.wrap y * 2 ^ min (Int.toNat 32) IntKind.u64.bits) = _;rw [aNB, wu64 y, Bi hy.1 (by omega), wu64];omega
    rw [e2];exact or64 hx.1 hx.2 hy.1 hy.2
 have e3 : aA .shr .u64 w r = w / 2 ^ (n % 32).toNat := by
  have e : min r.toNat IntKind.u64.bits = (n % 32).toNat := by
   rw [er]; exact Nat.min_eq_left (by show _ ≤ 64; omega)
  show w.fdiv (2 ^ (min r.toNat IntKind.u64.bits)) = _;rw [e, eR];exact aKR w _
 rw [e3, ew', wu32, ej', show (i' + 1).toNat = i'.toNat + 1 by omega];exact ⟨by omega, by omega, by omega, st⟩
end
section
open Go Go.Proofs
theorem zZ (x : Int) (y : Int) (c : Int) (hx : 0 ≤ x) (hx' : x < 4294967296) (hy : 0 ≤ y) (hy' : y < 4294967296) (c0 : 0 ≤ c) (c1 : c ≤ 1) : ∃ t : Int × Int, t = ((x + y + c) % 4294967296, (x + y + c) / 4294967296) ∧ aC Tryz.prog 192 [.int .u32 (.s x), .int .u32 (.s y), .int .u32 (.s c)] (.tup [.int .u32 (.s t.1), .int .u32 (.s t.2)]) := by
 refine ⟨_, rfl, ?_⟩;generalize hr : ((x + y + c) % 4294967296, (x + y + c) / 4294967296) = r;refine callsA_o Tryz.func192 fun E hE lp hl => ?_
 cbv;repeat' (first
   | (refine E_br hE ?_ ?_ <;> intro h <;> cbv)
   | (refine E_nm hE fun v hv => ?_; cbv)
   | fail)
 all_goals (subst hE; subst hr)
 all_goals (try simp only [aB, aE, aH, aG, aF, aK, aL, aA, Ab, Aa, SI.val, SB.val, Num.eta, Iv.eta] at *)
 all_goals (simp only [zB, wu64, wu32] at *)
 all_goals (refine ⟨?_, ?_, trivial⟩ <;> omega)
theorem aIM (x : Int) (y : Int) (c : Int) (hx : 0 ≤ x) (hx' : x < 4294967296) (hy : 0 ≤ y) (hy' : y < 4294967296) (c0 : 0 ≤ c) (c1 : c ≤ 1) : ∃ t : Int × Int, t = ((x - y - c) % 4294967296, (if x < y + c then 1 else 0 : Int)) ∧ aC Tryz.prog 193 [.int .u32 (.s x), .int .u32 (.s y), .int .u32 (.s c)] (.tup [.int .u32 (.s t.1), .int .u32 (.s t.2)]) := by
 refine ⟨_, rfl, ?_⟩;generalize hr : ((x - y - c) % 4294967296, (if x < y + c then 1 else 0 : Int)) = r;refine callsA_o Tryz.func193 fun E hE lp hl => ?_
 cbv;repeat' (first
   | (refine E_br hE ?_ ?_ <;> intro h <;> cbv)
   | (refine E_nm hE fun v hv => ?_; cbv)
   | fail)
 all_goals (subst hE; subst hr)
 all_goals (try simp only [aB, aE, aH, aG, aF, aK, aL, aA, Ab, Aa, SI.val, SB.val, Num.eta, Iv.eta] at *)
 rename_i d hd;rw [shr31] at hv;have e : d = (x - y - c) % 4294967296 := by rw [hd, wu32, wu32]; omega
 refine ⟨e, ?_, trivial⟩;rw [hv];exact aMN hx hx' hy hy' (by omega) (by omega) (b := c) (by omega) e
end
section
open Go Go.Proofs
attribute [local irreducible] Lb
theorem eG {l : List Int} {n : Int} (h : n = l.length) : (l.drop (0 : Int).toNat).take n.toNat = l := by subst h; simp
def addI (E : Env) (x y : List Int) : Int × Int × List Int → St := fun p => ⟨[(0, .sli .u32 x), (1, .sli .u32 y), (5, .ms 0 1 (.l 0) (.s (E.bin .add .i64 (E.len x) 1))), (6, .int .u32 (.s p.2.1)), (21, .int .i64 (.s (E.len x))), (22, .int .i64 (.s p.1))], [.ints true .u32 p.2.2]⟩
theorem aEK (a b : List Int) (ha : Lb a) (hb : Lb b) (hla : a.length < 268435456) (hlb : b.length < 268435456) : ∃ t : List Int, t = lim (lv a + lv b) ∧ aC Tryz.prog 142 [.sli .u32 a, .sli .u32 b] (.sli .u32 t) := by
 refine ⟨_, rfl, ?_⟩;generalize hr : lim (lv a + lv b) = r;refine callsA_o Tryz.func142 fun E hE lp hl => ?_
 cbv;refine E_br hE (fun h => ?_) (fun h => ?_)
 · have hsum : lv b + lv a = lv a + lv b := Dr _ _;have hxy : a.length ≤ b.length := by subst hE; simp only [NatCast.natCast, Ac, aB, aE, aH, aG, aF, aK, aL, aA, Ab, Aa, SI.val, SB.val, Num.eta, Iv.eta] at *; omega
   have h32 : IntKind.i64.wrap ((b.length : Int) + 1) = b.length + 1 := wi64_id (by omega) (by omega);cbv;repeat' (first
     | (refine E_br hE ?_ ?_ <;> intro h <;> cbv)
     | (refine E_nm hE fun v hv => ?_; cbv)
     | (refine aT hE (fun b hb => ?_); cbv)
     | fail)
   all_goals (try (exfalso; subst hE; simp only [NatCast.natCast, Ac, aB, aE, aH, aG, aF, aK, aL, aA, Ab, Aa, SI.val, SB.val, Num.eta, Iv.eta] at *; rw [h32] at *; omega))
   obtain ⟨m, em⟩ : ∃ m : Int × Int × List Int → Nat, ∀ p, m p = (b.length - p.1).toNat := ⟨_, fun _ => rfl⟩
   obtain ⟨ok, eok⟩ : ∃ ok : Int × Int × List Int → Prop, ∀ p, ok p ↔ 0 ≤ p.1 ∧ p.1 ≤ b.length ∧ gZ b a p.2.2 p.1.toNat p.2.1 := ⟨_, fun _ => Bs⟩
   refine E_loop hE hG hm hl (addI E b a) m ok ⟨(0, 0, E.rep (E.bin .add .i64 (E.len b) 1)), (eok _).2 ?_, stLe rfl ?_⟩ ?_
   · refine ⟨by show (0 : Int) ≤ 0; omega, by show (0 : Int) ≤ b.length; omega, ?_⟩;have := gZ.start b a;subst hE; simp only [NatCast.natCast, Ac, aB, aE, aH, aG, aF, aK, aL, aA, Ab, Aa, SI.val, SB.val, Num.eta, Iv.eta] at *; rw [h32];exact this
   · (repeat' (first | exact bC | apply aV | exact aN | exact aM | exact aI | exact bI | exact aQ | exact (rfl : sle2 .s0 .s0)))
   rintro ⟨i, c, out⟩ hok;obtain ⟨h1, h2, inv⟩ := (eok _).1 hok;dsimp only at h1 h2 inv;have hgx := hb.getD i.toNat;have hgy := ha.getD i.toNat;have hc0 := inv.c0;have hc1 := inv.c1;have hol := inv.len;have next : ∀ (j k c' z : Int) (v : Int × Int), i < b.length → k = i → j = IntKind.i64.wrap (i + 1) → (z = a.getD k.toNat 0 ∨ (¬ k < a.length ∧ z = 0)) →
    v = ((b.getD k.toNat 0 + z + c) % 4294967296, (b.getD k.toNat 0 + z + c) / 4294967296) → c' = v.2 →
    m (j, c', out.set k.toNat v.1) < m (i, c, out) ∧ ok (j, c', out.set k.toNat v.1) := by
    intro j k c' z v h hk hj hz hv hc;subst hk;have hz : z = a.getD k.toNat 0 := by
     rcases hz with hz | ⟨hz, h0⟩
     · exact hz
     · rw [h0, getD_past (by omega)]
    have hj : j = k + 1 := by rw [hj, wi64_id (by omega) (by omega)]
    refine ⟨by rw [em, em]; show ((b.length : Int) - j).toNat < ((b.length : Int) - k).toNat; omega, (eok _).2 ⟨by show 0 ≤ j; omega, by show j ≤ (b.length : Int); omega, ?_⟩⟩;have := inv.step hb ha (by omega);rw [← hz] at this;rw [hc, hv, hj];show gZ b a (out.set k.toNat ((b.getD k.toNat 0 + z + c) % 4294967296)) (k + 1).toNat ((b.getD k.toNat 0 + z + c) / 4294967296);rw [show (k + 1).toNat = k.toNat + 1 by omega];exact this
   have fin : ¬ i < b.length → Lb (out.set (b.length : Int).toNat c) ∧ lim (lv (out.set (b.length : Int).toNat c)) = r := by
    intro h;rw [show i.toNat = b.length by omega] at inv;obtain ⟨k1, k2⟩ := inv.stop hxy;rw [Ak];exact ⟨k1, by rw [k2, hsum, hr]⟩
   clear inv hok hr;cbv;repeat' (first
     | (refine E_br hE ?_ ?_ <;> intro h <;> cbv)
     | (refine E_nm hE fun v hv => ?_; cbv)
     | (refine aT hE (fun b hb => ?_); cbv)
     | (refine E_cx hE (zZ _ _ _ ?_ ?_ ?_ ?_ ?_ ?_) ?_; all_goals (first | (intro t ht; cbv) | (subst hE; (try simp only [NatCast.natCast, Ac, aB, aE, aH, aG, aF, aK, aL, aA, Ab, Aa, SI.val, SB.val, Num.eta, Iv.eta] at *); subst_vars; (first | assumption | omega))))
     | (refine E_cx hE (c_cut _ ?_ ?_) ?_; all_goals (first | (intro t ht; cbv) | ((subst hE; simp only [NatCast.natCast, Ac, aB, aE, aH, aG, aF, aK, aL, aA, Ab, Aa, SI.val, SB.val, Num.eta, Iv.eta] at *; rw [h32] at *; rw [eG (by rw [List.length_set]; omega)]; first | exact (fin ‹_›).1 | (rw [List.length_set]; omega)))))
     | fail)
   all_goals (try refine ⟨(E.bin .add .i64 i 1, v, E.set out _ t.1), ?_, ?_, stLe rfl ?_⟩)
   all_goals (try ((repeat' (first | exact bC | apply aV | exact aN | exact aM | exact aI | exact bI | exact aQ | exact (rfl : sle2 .s0 .s0))); done))
   all_goals (subst hE; simp only [NatCast.natCast, Ac, aB, aE, aH, aG, aF, aK, aL, aA, Ab, Aa, SI.val, SB.val, Num.eta, Iv.eta] at *)
   all_goals (first | exact (next _ _ _ _ _ ‹_› ‹_› rfl (by first | exact .inl ‹_› | exact .inr ⟨‹_›, rfl⟩) ‹t = _› ‹_›).1 | exact (next _ _ _ _ _ ‹_› ‹_› rfl (by first | exact .inl ‹_› | exact .inr ⟨‹_›, rfl⟩) ‹t = _› ‹_›).2 | (exfalso; clear next fin; rw [h32] at *; omega) | skip)
   rw [‹t = _›, h32, eG (by rw [List.length_set]; omega), (fin ‹_›).2]
 · have hsum : lv a + lv b = lv a + lv b := rfl;have hxy : b.length ≤ a.length := by subst hE; simp only [NatCast.natCast, Ac, aB, aE, aH, aG, aF, aK, aL, aA, Ab, Aa, SI.val, SB.val, Num.eta, Iv.eta] at *; omega
   have h32 : IntKind.i64.wrap ((a.length : Int) + 1) = a.length + 1 := wi64_id (by omega) (by omega);cbv;repeat' (first
     | (refine E_br hE ?_ ?_ <;> intro h <;> cbv)
     | (refine E_nm hE fun v hv => ?_; cbv)
     | (refine aT hE (fun b hb => ?_); cbv)
     | fail)
   all_goals (try (exfalso; subst hE; simp only [NatCast.natCast, Ac, aB, aE, aH, aG, aF, aK, aL, aA, Ab, Aa, SI.val, SB.val, Num.eta, Iv.eta] at *; rw [h32] at *; omega))
   obtain ⟨m, em⟩ : ∃ m : Int × Int × List Int → Nat, ∀ p, m p = (a.length - p.1).toNat := ⟨_, fun _ => rfl⟩
   obtain ⟨ok, eok⟩ : ∃ ok : Int × Int × List Int → Prop, ∀ p, ok p ↔ 0 ≤ p.1 ∧ p.1 ≤ a.length ∧ gZ a b p.2.2 p.1.toNat p.2.1 := ⟨_, fun _ => Bs⟩
   refine E_loop hE hG hm hl (addI E a b) m ok ⟨(0, 0, E.rep (E.bin .add .i64 (E.len a) 1)), (eok _).2 ?_, stLe rfl ?_⟩ ?_
   · refine ⟨by show (0 : Int) ≤ 0; omega, by show (0 : Int) ≤ a.length; omega, ?_⟩;have := gZ.start a b;subst hE; simp only [NatCast.natCast, Ac, aB, aE, aH, aG, aF, aK, aL, aA, Ab, Aa, SI.val, SB.val, Num.eta, Iv.eta] at *; rw [h32];exact this
   · (repeat' (first | exact bC | apply aV | exact aN | exact aM | exact aI | exact bI | exact aQ | exact (rfl : sle2 .s0 .s0)))
   rintro ⟨i, c, out⟩ hok;obtain ⟨h1, h2, inv⟩ := (eok _).1 hok;dsimp only at h1 h2 inv;have hgx := ha.getD i.toNat;have hgy := hb.getD i.toNat;have hc0 := inv.c0;have hc1 := inv.c1;have hol := inv.len;have next : ∀ (j k c' z : Int) (v : Int × Int), i < a.length → k = i → j = IntKind.i64.wrap (i + 1) → (z = b.getD k.toNat 0 ∨ (¬ k < b.length ∧ z = 0)) →
    v = ((a.getD k.toNat 0 + z + c) % 4294967296, (a.getD k.toNat 0 + z + c) / 4294967296) → c' = v.2 →
    m (j, c', out.set k.toNat v.1) < m (i, c, out) ∧ ok (j, c', out.set k.toNat v.1) := by
    intro j k c' z v h hk hj hz hv hc;subst hk;have hz : z = b.getD k.toNat 0 := by
     rcases hz with hz | ⟨hz, h0⟩
     · exact hz
     · rw [h0, getD_past (by omega)]
    have hj : j = k + 1 := by rw [hj, wi64_id (by omega) (by omega)]
    refine ⟨by rw [em, em]; show ((a.length : Int) - j).toNat < ((a.length : Int) - k).toNat; omega, (eok _).2 ⟨by show 0 ≤ j; omega, by show j ≤ (a.length : Int); omega, ?_⟩⟩;have := inv.step ha hb (by omega);rw [← hz] at this;rw [hc, hv, hj];show gZ a b (out.set k.toNat ((a.getD k.toNat 0 + z + c) % 4294967296)) (k + 1).toNat ((a.getD k.toNat 0 + z + c) / 4294967296);rw [show (k + 1).toNat = k.toNat + 1 by omega];exact this
   have fin : ¬ i < a.length → Lb (out.set (a.length : Int).toNat c) ∧ lim (lv (out.set (a.length : Int).toNat c)) = r := by
    intro h;rw [show i.toNat = a.length by omega] at inv;obtain ⟨k1, k2⟩ := inv.stop hxy;rw [Ak];exact ⟨k1, by rw [k2, hsum, hr]⟩
   clear inv hok hr;cbv;repeat' (first
     | (refine E_br hE ?_ ?_ <;> intro h <;> cbv)
     | (refine E_nm hE fun v hv => ?_; cbv)
     | (refine aT hE (fun b hb => ?_); cbv)
     | (refine E_cx hE (zZ _ _ _ ?_ ?_ ?_ ?_ ?_ ?_) ?_; all_goals (first | (intro t ht; cbv) | (subst hE; (try simp only [NatCast.natCast, Ac, aB, aE, aH, aG, aF, aK, aL, aA, Ab, Aa, SI.val, SB.val, Num.eta, Iv.eta] at *); subst_vars; (first | assumption | omega))))
     | (refine E_cx hE (c_cut _ ?_ ?_) ?_; all_goals (first | (intro t ht; cbv) | ((subst hE; simp only [NatCast.natCast, Ac, aB, aE, aH, aG, aF, aK, aL, aA, Ab, Aa, SI.val, SB.val, Num.eta, Iv.eta] at *; rw [h32] at *; rw [eG (by rw [List.length_set]; omega)]; first | exact (fin ‹_›).1 | (rw [List.length_set]; omega)))))
     | fail)
   all_goals (try refine ⟨(E.bin .add .i64 i 1, v, E.set out _ t.1), ?_, ?_, stLe rfl ?_⟩)
   all_goals (try ((repeat' (first | exact bC | apply aV | exact aN | exact aM | exact aI | exact bI | exact aQ | exact (rfl : sle2 .s0 .s0))); done))
   all_goals (subst hE; simp only [NatCast.natCast, Ac, aB, aE, aH, aG, aF, aK, aL, aA, Ab, Aa, SI.val, SB.val, Num.eta, Iv.eta] at *)
   all_goals (first | exact (next _ _ _ _ _ ‹_› ‹_› rfl (by first | exact .inl ‹_› | exact .inr ⟨‹_›, rfl⟩) ‹t = _› ‹_›).1 | exact (next _ _ _ _ _ ‹_› ‹_› rfl (by first | exact .inl ‹_› | exact .inr ⟨‹_›, rfl⟩) ‹t = _› ‹_›).2 | (exfalso; clear next fin; rw [h32] at *; omega) | skip)
   rw [‹t = _›, h32, eG (by rw [List.length_set]; omega), (fin ‹_›).2]
def mulO (E : Env) (a b : List Int) : Int × List Int → St := fun p => ⟨[(0, .sli .u32 a), (1, .sli .u32 b), (5, .ms 0 1 (.l 0) (.s (E.bin .add .i64 (E.len a) (E.len b)))), (18, .sli .u32 a), (19, .int .i64 (.s (E.len a))), (20, .int .i64 (.s p.1))], [.ints true .u32 p.2]⟩
def mulI (E : Env) (a b : List Int) (i i' x : Int) : Int × Int × List Int → St := fun p => ⟨[(0, .sli .u32 a), (1, .sli .u32 b), (5, .ms 0 1 (.l 0) (.s (E.bin .add .i64 (E.len a) (E.len b)))), (18, .sli .u32 a), (19, .int .i64 (.s (E.len a))), (20, .int .i64 (.s i)),
  (6, .int .i64 (.s i')), (7, .int .u32 (.s x)), (8, .int .u64 (.s p.2.1)), (25, .sli .u32 b), (26, .int .i64 (.s (E.len b))), (27, .int .i64 (.s p.1))], [.ints true .u32 p.2.2]⟩
set_option maxHeartbeats 1000000 in
theorem aDW (a b : List Int) (ha : Lb a) (hb : Lb b) (hla : a.length < 134217728) (hlb : b.length < 134217728) : ∃ t : List Int, t = lim (lv a * lv b) ∧ aC Tryz.prog 138 [.sli .u32 a, .sli .u32 b] (.sli .u32 t) := by
 refine ⟨_, rfl, ?_⟩;generalize hr : lim (lv a * lv b) = r;have h32 : IntKind.i64.wrap ((a.length : Int) + b.length) = a.length + b.length := wi64_id (by omega) (by omega);obtain ⟨m, em⟩ : ∃ m : Int × List Int → Nat, ∀ p, m p = (a.length - p.1).toNat := ⟨_, fun _ => rfl⟩
 obtain ⟨ok, eok⟩ : ∃ ok : Int × List Int → Prop, ∀ p, ok p ↔ 0 ≤ p.1 ∧ p.1 ≤ a.length ∧ eS a b p.2 p.1.toNat 0 0 := ⟨_, fun _ => Bs⟩
 obtain ⟨m2, em2⟩ : ∃ m : Int × Int × List Int → Nat, ∀ p, m p = (b.length - p.1).toNat := ⟨_, fun _ => rfl⟩
 obtain ⟨ok2, eok2⟩ : ∃ ok : Int → Int × Int × List Int → Prop, ∀ i p, ok i p ↔ 0 ≤ p.1 ∧ p.1 ≤ b.length ∧ eS a b p.2.2 i.toNat p.1.toNat p.2.1 := ⟨_, fun _ _ => Bs⟩
 refine callsA_o Tryz.func138 fun E hE lp hl => ?_
 cbv;repeat' (first
   | (refine E_br hE ?_ ?_ <;> intro h <;> cbv)
   | (refine E_nm hE fun v hv => ?_; cbv)
   | (refine aT hE (fun b hb => ?_); cbv)
   | fail)
 all_goals (try (exfalso; subst hE; simp only [NatCast.natCast, Ac, aB, aE, aH, aG, aF, aK, aL, aA, Ab, Aa, SI.val, SB.val, Num.eta, Iv.eta] at *; rw [h32] at *; omega))
 refine E_loop hE hG hm hl (mulO E a b) m ok ⟨(0, E.rep (E.bin .add .i64 (E.len a) (E.len b))), (eok _).2 ?_, stLe rfl ?_⟩ ?_
 · refine ⟨by show (0 : Int) ≤ 0; omega, by show (0 : Int) ≤ a.length; omega, ?_⟩;have := eS.start a b;subst hE; simp only [NatCast.natCast, Ac, aB, aE, aH, aG, aF, aK, aL, aA, Ab, Aa, SI.val, SB.val, Num.eta, Iv.eta] at *; rw [h32];exact this
 · (repeat' (first | exact bC | apply aV | exact aN | exact aM | exact aI | exact bI | exact aQ | exact (rfl : sle2 .s0 .s0)))
 rintro ⟨i, out⟩ hok;obtain ⟨h1, h2, inv⟩ := (eok _).1 hok;dsimp only at h1 h2 inv;simp only [NatCast.natCast, Ac] at h2 em eok em2 eok2;have hol := inv.len;have fin : ¬ i < a.length → Lb out ∧ lim (lv out) = r := by
  intro h;rw [show i.toNat = a.length by omega] at inv;exact ⟨inv.lb, by rw [inv.stop, hr]⟩
 clear hr hok;cbv;repeat' (first
   | (refine E_br hE ?_ ?_ <;> intro h <;> cbv)
   | (refine E_nm hE fun v hv => ?_; cbv)
   | (refine aT hE (fun b hb => ?_); cbv)
   | (apply E_callX hE (c_cut _ ?_ ?_); (case hf => rfl); (case hc => (cbv <;> trivial)); (case hle => exact u_up); all_goals (first | (intro t ht; cbv) | ((subst hE; simp only [NatCast.natCast, Ac, aB, aE, aH, aG, aF, aK, aL, aA, Ab, Aa, SI.val, SB.val, Num.eta, Iv.eta] at *; rw [h32] at *; rw [eG (by omega)]; first | exact (fin ‹_›).1 | omega))))
   | fail)
 case hK => subst hE; simp only [NatCast.natCast, Ac, aB, aE, aH, aG, aF, aK, aL, aA, Ab, Aa, SI.val, SB.val, Num.eta, Iv.eta] at *; rw [‹t = _›, h32, eG (by omega), (fin ‹_›).2]
 all_goals (try (exfalso; subst hE; simp only [NatCast.natCast, Ac, aB, aE, aH, aG, aF, aK, aL, aA, Ab, Aa, SI.val, SB.val, Num.eta, Iv.eta] at *; clear fin; rw [h32] at *; omega))
 rename_i i' ei;have ex := hv;clear hv;have hilt : i < a.length := by subst hE; exact bF ‹_›
 refine E_loop hE hG hm hl (mulI E a b i i' v) m2 (ok2 i) ⟨(0, 0, out), (eok2 _ _).2 ⟨by show (0 : Int) ≤ 0; omega, by show (0 : Int) ≤ b.length; omega, inv⟩, stLe rfl ?_⟩ ?_
 · (repeat' (first | exact bC | apply aV | exact aN | exact aM | exact aI | exact bI | exact aQ | exact (rfl : sle2 .s0 .s0)))
 rintro ⟨k, c, out⟩ hok;have h3 : 0 ≤ k := ((eok2 _ _).1 hok).1;have h4 : k ≤ b.length := ((eok2 _ _).1 hok).2.1;have inv2 : eS a b out i.toNat k.toNat c := ((eok2 _ _).1 hok).2.2;have hol2 := inv2.len;clear inv hol fin;cbv;repeat' (first
   | (refine E_br hE ?_ ?_ <;> intro h <;> cbv)
   | (refine E_nm hE fun v hv => ?_; cbv)
   | (refine aT hE (fun b hb => ?_); cbv)
   | fail)
 all_goals (try refine ⟨(E.bin .add .i64 k 1, v, E.set out (E.bin .add .i64 i' _) (E.conv .u32 _)), ?_, ?_, stLe rfl ?_⟩)
 all_goals (try refine ⟨(E.bin .add .i64 i 1, E.set out (E.bin .add .i64 i' (E.len b)) (E.conv .u32 c)), ?_, ?_, stLe rfl ?_⟩)
 all_goals (try ((repeat' (first | exact bC | apply aV | exact aN | exact aM | exact aI | exact bI | exact aQ | exact (rfl : sle2 .s0 .s0))); done))
 all_goals (subst hE)
 all_goals (try (first | (rw [em2, em2]; exact (aED ha hb hla hlb h1 hilt h3 (bF ‹_›) inv2 ei ‹_› ex ‹_› ‹_› ‹_› rfl).2.2.1) | (rw [eok2]; have q := aED ha hb hla hlb h1 hilt h3 (bF ‹_›) inv2 ei ‹_› ex ‹_› ‹_› ‹_› rfl; exact ⟨q.1, q.2.1, q.2.2.2⟩) | (rw [em, em]; exact (aCR hla hlb h1 hilt h4 (aW ‹_›) inv2 ei rfl).2.2.1) | (rw [eok]; have q := aCR hla hlb h1 hilt h4 (aW ‹_›) inv2 ei rfl; exact ⟨q.1, q.2.1, q.2.2.2⟩)))
 all_goals (clear inv2 hok eok eok2 em em2; simp only [NatCast.natCast, Ac, aB, aE, aH, aG, aF, aK, aL, aA, Ab, Aa, SI.val, SB.val, Num.eta, Iv.eta] at *; (try rw [h32] at *); clear h32; (try simp only [wi64] at *); omega)
end
section
open Go
theorem tT {n : Int} (h : 0 ≤ n) (h' : n < 18446744073709551616) : aA .quo .u64 n 4294967296 = n / 4294967296 := by
 show IntKind.u64.wrap (n.tdiv 4294967296) = _;rw [Dc h, wu64]; omega
theorem uC {n : Int} (h : 0 ≤ n) : aA .rem .u64 n 4294967296 = n % 4294967296 := by
 show n.tmod 4294967296 = _;exact Bx h
theorem tX (l : List Int) (x : Int) : lv (l ++ [x]) = lv l + 4294967296 ^ l.length * x.toNat := by
 rw [iC]; simp [lv]
theorem Lb.snoc {l : List Int} (h : Lb l) {x : Int} (h0 : 0 ≤ x) (h1 : x < 4294967296) : Lb (l ++ [x]) := h.append (Lb.cons h0 h1 Lb.nil)
structure RAdd (a b out : List Int) (i : Nat) (c : Int) : Prop where
 len : out.length = i
 lb : Lb out
 c0 : 0 ≤ c
 c1 : c ≤ 1
 past : a.length < i → b.length < i → c = 0
 val : lv out + 4294967296 ^ i * c.toNat = lv (a.take i) + lv (b.take i)
theorem RAdd.start (a b : List Int) : RAdd a b [] 0 0 := ⟨rfl, Lb.nil, by omega, by omega, fun _ _ => rfl, by simp [lv]⟩
theorem RAdd.step {a b out : List Int} {i : Nat} {c : Int} (ha : Lb a) (hb : Lb b) (h : RAdd a b out i c) :
 RAdd a b (out ++ [(a.getD i 0 + b.getD i 0 + c) % 4294967296]) (i + 1) ((a.getD i 0 + b.getD i 0 + c) / 4294967296) := by
 have hx := ha.getD i;have hy := hb.getD i;have e1 := bJ a i;have e2 := bJ b i;have h1 := h.len;have h4 := h.c0;have h5 := h.c1;have h6 := h.val;have px : a.length ≤ i → a.getD i 0 = 0 := fun k => getD_past k
 have py : b.length ≤ i → b.getD i 0 = 0 := fun k => getD_past k
 generalize a.getD i 0 = x at *
 generalize b.getD i 0 = y at *
 refine ⟨by simp [h1], h.lb.snoc (by omega) (by omega), by omega, by omega, fun k1 k2 => ?_, ?_⟩
 · have := px (by omega); have := py (by omega); omega
 · rw [e1, e2, tX, h1];have e4 : ((x + y + c) % 4294967296).toNat + 4294967296 * ((x + y + c) / 4294967296).toNat = x.toNat + y.toNat + c.toNat := by omega
   have e5 := congrArg (4294967296 ^ i * ·) e4;simp only [Bz] at e5;rw [Aq, Aw];omega
theorem RAdd.stop {a b out : List Int} {i : Nat} {c : Int} (h : RAdd a b out i c) (h1 : a.length ≤ i) (h2 : b.length ≤ i) (h3 : ¬ 0 < c) : lv out = lv a + lv b := by
 have v := h.val;have c0 := h.c0;have e : c = 0 := by omega
 rw [List.take_of_length_le h1, List.take_of_length_le h2, e] at v;simp at v;omega
structure RSub (a b out : List Int) (i : Nat) (c : Int) : Prop where
 len : out.length = i
 lb : Lb out
 c0 : 0 ≤ c
 c1 : c ≤ 1
 val : lv out + lv (b.take i) = lv (a.take i) + 4294967296 ^ i * c.toNat
theorem RSub.start (a b : List Int) : RSub a b [] 0 0 := ⟨rfl, Lb.nil, by omega, by omega, by simp [lv]⟩
theorem RSub.step {a b out : List Int} {i : Nat} {c : Int} (ha : Lb a) (hb : Lb b) (h : RSub a b out i c) :
 RSub a b (out ++ [(4294967296 + a.getD i 0 - b.getD i 0 - c) % 4294967296]) (i + 1) (1 - (4294967296 + a.getD i 0 - b.getD i 0 - c) / 4294967296) := by
 have hx := ha.getD i;have hy := hb.getD i;have e1 := bJ a i;have e2 := bJ b i;have h1 := h.len;have h4 := h.c0;have h5 := h.c1;have h6 := h.val;generalize a.getD i 0 = x at *
 generalize b.getD i 0 = y at *
 refine ⟨by simp [h1], h.lb.snoc (by omega) (by omega), by omega, by omega, ?_⟩;rw [e1, e2, tX, h1];have e4 : ((4294967296 + x - y - c) % 4294967296).toNat + (y.toNat + c.toNat) = x.toNat + 4294967296 * (1 - (4294967296 + x - y - c) / 4294967296).toNat := by omega
 have e5 := congrArg (4294967296 ^ i * ·) e4;simp only [Bz] at e5;rw [Aq, Aw];omega
theorem RSub.stop {a b out : List Int} {c : Int} (ha : Lb a) (h : RSub a b out a.length c) (hle : lv b ≤ lv a) : lv out = lv a - lv b := by
 have v := h.val;have l1 := bP h.lb;rw [h.len] at l1;have l2 := bP ha;have t : lv (b.take a.length) = lv b := by
  rcases Ar a.length b.length with k | k
  · have e := dE b a.length (by omega);have z : lv (b.drop a.length) = 0 := by
     rcases Ao (lv (b.drop a.length)) with z | z
     · exact z
     · have := As (4294967296 ^ a.length) z; omega
    rw [z] at e; omega
  · rw [List.take_of_length_le k]
 rw [t, cL] at v;have c0 := h.c0;have c1 := h.c1;have : c = 0 ∨ c = 1 := by omega
 rcases this with e | e
 · rw [e] at v; simp at v; omega
 · rw [e] at v; simp at v; omega
structure RRow (a : List Int) (y : Int) (row : List Int) (k : Nat) (c : Int) : Prop where
 len : row.length = k
 lb : Lb row
 c0 : 0 ≤ c
 c1 : c < 4294967296
 val : lv row + 4294967296 ^ k * c.toNat = lv (a.take k) * y.toNat
theorem RRow.start (a : List Int) (y : Int) : RRow a y [] 0 0 := ⟨rfl, Lb.nil, by omega, by omega, by simp [lv]⟩
theorem zN {x y c : Int} (hx : 0 ≤ x ∧ x < 4294967296) (hy : 0 ≤ y ∧ y < 4294967296) (hc : 0 ≤ c ∧ c < 4294967296) : 0 ≤ x * y ∧ x * y + c < 18446744073709551616 ∧ (x * y + c) / 4294967296 < 4294967296 := by
 have h1 : x * y ≤ 4294967295 * 4294967295 := Dj (by omega) (by omega) hy.1 (by omega);have h2 : 0 ≤ x * y := Bj hx.1 hy.1;refine ⟨h2, by omega, by omega⟩
theorem RRow.step {a row : List Int} {y : Int} {k : Nat} {c : Int} (ha : Lb a) (hy : 0 ≤ y ∧ y < 4294967296) (h : RRow a y row k c) :
 RRow a y (row ++ [(a.getD k 0 * y + c) % 4294967296]) (k + 1) ((a.getD k 0 * y + c) / 4294967296) := by
 have hx := ha.getD k;have e1 := bJ a k;have h1 := h.len;have h4 := h.c0;have h5 := h.c1;have h6 := h.val;generalize a.getD k 0 = x at *
 have d := zN hx hy ⟨h4, h5⟩;have n : ((x * y).toNat : Nat) = x.toNat * y.toNat := by
  obtain ⟨u, rfl⟩ := Al hx.1;obtain ⟨w, rfl⟩ := Al hy.1;show ((u : Int) * (w : Int)).toNat = _;rw [← Bp]; rfl
 refine ⟨by simp [h1], h.lb.snoc (by omega) (by omega), by omega, d.2.2, ?_⟩;rw [e1, tX, h1, Bd, ← h6];have e4 : ((x * y + c) % 4294967296).toNat + 4294967296 * ((x * y + c) / 4294967296).toNat = (x * y).toNat + c.toNat := by omega
 rw [n] at e4;have e5 := congrArg (4294967296 ^ k * ·) e4;simp only [Bz] at e5;rw [Aq, Aw, Aw (4294967296 ^ k) x.toNat y.toNat];omega
theorem RRow.stop {a row : List Int} {y c : Int} (h : RRow a y row a.length c) : Lb (row ++ [c]) ∧ lv (row ++ [c]) = lv a * y.toNat := by
 have v := h.val;rw [cL] at v;exact ⟨h.lb.snoc h.c0 h.c1, by rw [tX, h.len]; omega⟩
theorem qQ (b : List Int) (i : Nat) : lv (b.drop i) = (b.getD i 0).toNat + 4294967296 * lv (b.drop (i + 1)) := cI b i
theorem aAO (l : List Int) : lv ([0] ++ l) = 4294967296 * lv l := by simp [lv]
theorem aLW (n : Nat) (l : List Int) : lv (List.replicate n 0 ++ l) = 4294967296 ^ n * lv l := by
 rw [iC, dD]; simp
def setL (a : List Int) (i : Nat) : List Int :=
 (a ++ List.replicate (i / 32 + 1 - a.length) 0).set (i / 32) ((a ++ List.replicate (i / 32 + 1 - a.length) 0).getD (i / 32) 0 + 2 ^ (i % 32))
theorem aRL (a : List Int) (n : Nat) : lv (a ++ List.replicate n 0) = lv a := by rw [iC, dD]; simp
def eC (r2 r1 r0 d1 d0 : Int) : Int := min (((r2 * 4294967296 + r1) * 4294967296 + r0) / (d1 * 4294967296 + d0)) 4294967295
theorem nF.eq {r2 r1 r0 d1 d0 q : Int} (I : dG r2 r1 r0 d1 d0) (h : nF r2 r1 r0 d1 d0 q) : q = eC r2 r1 r0 d1 d0 := by
 have hD : 0 < d1 * 4294967296 + d0 := by have := I.d1b; have := I.d0b; omega
 have h1 := h.q1;have h2 : q ≤ ((r2 * 4294967296 + r1) * 4294967296 + r0) / (d1 * 4294967296 + d0) := (Cm hD).2 h.le;have h3 := h.up (eC r2 r1 r0 d1 d0) ((Cm hD).1 (by unfold eC; omega)) (by unfold eC; omega);unfold eC at h3 ⊢;omega
theorem rP {r2 r1 r0 d1 d0 : Int} (I : dG r2 r1 r0 d1 d0) : nF r2 r1 r0 d1 d0 (eC r2 r1 r0 d1 d0) := by
 have hD : 0 < d1 * 4294967296 + d0 := by have := I.d1b; have := I.d0b; omega
 have h0 : 0 ≤ ((r2 * 4294967296 + r1) * 4294967296 + r0) / (d1 * 4294967296 + d0) := Cc (by have := I.r2b; have := I.r1b; have := I.r0b; omega) (by omega);refine ⟨by unfold eC; omega, by unfold eC; omega, (Cm hD).1 (by unfold eC; omega), fun k hk hk' => ?_⟩;have := (Cm hD).2 hk;unfold eC; omega
theorem aIT {x : Int} (h0 : 0 ≤ x) (h1 : x < 4294967296) : aA .shl .u64 x 32 = x * 4294967296 := by
 show IntKind.u64.wrap (x * 2 ^ min (Int.toNat 32) IntKind.u64.bits) = _;rw [aNB, wu64]; omega
theorem cG {x : Int} (h0 : 0 ≤ x) (h1 : x < 18446744073709551616) : IntKind.u64.wrap x = x := by rw [wu64]; exact Bi h0 h1
theorem aKE {r2 r1 r0 d1 d0 t : Int} (I : dG r2 r1 r0 d1 d0) (et : t = aA .or .u64 (aA .shl .u64 (IntKind.u64.wrap r2) 32) (IntKind.u64.wrap r1)) : t = r2 * 4294967296 + r1 := by
 have h2 := I.r2b;have h1 := I.r1b;rw [et, cG h2.1 (by omega), cG h1.1 (by omega), aIT h2.1 h2.2];exact aNU h1.1 h1.2 h2.1 h2.2
theorem aEA {r2 r1 r0 d1 d0 t q left : Int} (I : dG r2 r1 r0 d1 d0) (et : t = aA .or .u64 (aA .shl .u64 (IntKind.u64.wrap r2) 32) (IntKind.u64.wrap r1))
 (eq : q = aA .quo .u64 t (IntKind.u64.wrap d1)) (el : left = aA .rem .u64 t (IntKind.u64.wrap d1)) : bT r2 r1 r0 d1 d0 q left := by
 have h2 := I.r2b;have h1 := I.r1b;have hd := I.d1b;have ht := aKE I et;have t0 : 0 ≤ t := by omega
 have eq' : q = (r2 * 4294967296 + r1) / d1 := by
  rw [eq];show IntKind.u64.wrap (t.tdiv (IntKind.u64.wrap d1)) = _;rw [cG (x := d1) (by omega) (by omega), Dc t0, ht, cG]
  · exact Cc (by omega) (by omega)
  · exact Dk (Int.ediv_le_self _ (by omega)) (by omega)
 have el' : left = (r2 * 4294967296 + r1) % d1 := by
  rw [el];show t.tmod (IntKind.u64.wrap d1) = _;rw [cG (x := d1) (by omega) (by omega), Bx t0, ht]
 rw [eq', el'];exact bT.start I
theorem aLM {r2 r1 r0 d1 d0 q left : Int} (I : dG r2 r1 r0 d1 d0) (h : bT r2 r1 r0 d1 d0 q left) : q < 18446744073709551616 := by
 have h2 := I.r2b;have h1 := I.r1b;have hd := I.d1b;have e := h.eq;have l0 := h.l0;have q0 := h.q0;have : q * 1 ≤ q * d1 := Cb (by omega) q0;omega
theorem yU {r2 r1 r0 d1 d0 q left : Int} (I : dG r2 r1 r0 d1 d0) (h : bT r2 r1 r0 d1 d0 q left) (hq : ¬ 4294967295 < q) :
 (aA .or .u64 (aA .shl .u64 left 32) (IntKind.u64.wrap r0) < aA .mul .u64 q (IntKind.u64.wrap d0)) ↔ left * 4294967296 + r0 < q * d0 := by
 have h0 := I.r0b;have hd := I.d0b;have q0 := h.q0;have l0 := h.l0;have l1 := h.l1;have m := xO q0 (by omega) hd;rw [aIT l0 l1, cG h0.1 (by omega), cG hd.1 (by omega)];have e1 : aA .or .u64 (left * 4294967296) r0 = left * 4294967296 + r0 := aNU h0.1 h0.2 l0 l1;have e2 : aA .mul .u64 q d0 = q * d0 := cG m.1 (by omega);rw [e1, e2]
theorem aFY {r2 r1 r0 d1 d0 q left : Int} (I : dG r2 r1 r0 d1 d0) (h : bT r2 r1 r0 d1 d0 q left) (hq : ¬ 4294967295 < q)
 (hc : ¬ aA .or .u64 (aA .shl .u64 left 32) (IntKind.u64.wrap r0) < aA .mul .u64 q (IntKind.u64.wrap d0)) : IntKind.u32.wrap q = eC r2 r1 r0 d1 d0 := by
 rw [yU I h hq] at hc;have ok := h.done (by omega) (by omega);have := ok.q0;rw [wu32, Bi (by omega) (by omega)];exact ok.eq I
theorem oI {r2 r1 r0 d1 d0 q left : Int} (I : dG r2 r1 r0 d1 d0) (h : bT r2 r1 r0 d1 d0 q left)
 (hc : 4294967295 < q ∨ (¬ 4294967295 < q ∧ aA .or .u64 (aA .shl .u64 left 32) (IntKind.u64.wrap r0) < aA .mul .u64 q (IntKind.u64.wrap d0))) : 4294967295 < q ∨ left * 4294967296 + r0 < q * d0 := by
 rcases hc with hc | ⟨hq, hc⟩
 · exact .inl hc
 · exact .inr ((yU I h hq).1 hc)
theorem xA {r2 r1 r0 d1 d0 q left q' left' : Int} (I : dG r2 r1 r0 d1 d0) (h : bT r2 r1 r0 d1 d0 q left)
 (hc : 4294967295 < q ∨ (¬ 4294967295 < q ∧ aA .or .u64 (aA .shl .u64 left 32) (IntKind.u64.wrap r0) < aA .mul .u64 q (IntKind.u64.wrap d0)))
 (eq : q' = aA .sub .u64 q 1) (el : left' = aA .add .u64 left (IntKind.u64.wrap d1)) :
 q' = q - 1 ∧ left' = left + d1 ∧ 1 ≤ q := by
 have hc' := oI I h hc;have p := h.pos I hc';have lt := aLM I h;have hd := I.d1b;have l0 := h.l0;have l1 := h.l1;refine ⟨?_, ?_, p⟩
 · rw [eq]; exact cG (by omega) (by omega)
 · rw [el, cG (x := d1) (by omega) (by omega)]; exact cG (by omega) (by omega)
theorem uV {r2 r1 r0 d1 d0 q left q' left' : Int} (I : dG r2 r1 r0 d1 d0) (h : bT r2 r1 r0 d1 d0 q left)
 (hc : 4294967295 < q ∨ (¬ 4294967295 < q ∧ aA .or .u64 (aA .shl .u64 left 32) (IntKind.u64.wrap r0) < aA .mul .u64 q (IntKind.u64.wrap d0)))
 (eq : q' = aA .sub .u64 q 1) (el : left' = aA .add .u64 left (IntKind.u64.wrap d1)) (hl : ¬ 4294967295 < left') : q'.toNat < q.toNat ∧ bT r2 r1 r0 d1 d0 q' left' := by
 obtain ⟨e1, e2, p⟩ := xA I h hc eq el;have hc' := oI I h hc;subst e1 e2;exact ⟨by omega, h.step I hc' (by omega)⟩
theorem aKK {r2 r1 r0 d1 d0 q left q' left' : Int} (I : dG r2 r1 r0 d1 d0) (h : bT r2 r1 r0 d1 d0 q left)
 (hc : 4294967295 < q ∨ (¬ 4294967295 < q ∧ aA .or .u64 (aA .shl .u64 left 32) (IntKind.u64.wrap r0) < aA .mul .u64 q (IntKind.u64.wrap d0)))
 (eq : q' = aA .sub .u64 q 1) (el : left' = aA .add .u64 left (IntKind.u64.wrap d1)) (hl : 4294967295 < left') : IntKind.u32.wrap q' = eC r2 r1 r0 d1 d0 := by
 obtain ⟨e1, e2, p⟩ := xA I h hc eq el;have hc' := oI I h hc;subst e1 e2;have ok := h.brk I hc' (by omega);have := ok.q0;have := ok.q1;rw [wu32, Bi (by omega) (by omega)];exact ok.eq I
theorem aKH {t : Int} (h : 0 < t) : blen t = blen (t / 2) + 1 := by
 rcases Bm t 2 with k | k
 · have : t = 1 := by omega
   subst this; decide
 · have := kJ (x := t) 1 k;simp at this;omega
theorem aLR {t : Int} (h : 0 ≤ t) (h' : t < 4294967296) : aA .quo .u32 t 2 = t / 2 := by
 show IntKind.u32.wrap (t.tdiv 2) = _;rw [Dc h, wu32]; omega
theorem vB {r : Nat} (h : r < 32) : (2 : Int) ^ r ≤ 2147483648 ∧ 0 < (2 : Int) ^ r := by
 have h1 : (2 : Nat) ^ r ≤ 2 ^ 31 := Ag (by decide) (by omega);have h2 : 0 < (2 : Nat) ^ r := Bg (by decide);rw [eR];omega
theorem qP {r : Int} (h0 : 0 ≤ r) (h1 : r < 32) : aA .shl .u32 1 r = 2 ^ r.toNat := by
 show IntKind.u32.wrap (1 * 2 ^ min r.toNat IntKind.u32.bits) = _;rw [Nat.min_eq_left (show r.toNat ≤ IntKind.u32.bits by show r.toNat ≤ 32; omega), Int.one_mul, wu32];have := vB (r := r.toNat) (by omega);omega
theorem aOV {x r : Int} (h0 : 0 ≤ r) (h1 : r < 32) : aA .shr .u64 x r = x / 2 ^ r.toNat := by
 show x.fdiv (2 ^ min r.toNat IntKind.u64.bits) = _;rw [Nat.min_eq_left (show r.toNat ≤ IntKind.u64.bits by show r.toNat ≤ 64; omega)];exact Dn _ (Am (Dq (by decide)))
theorem kL (i : Nat) : (2 : Nat) ^ i = 4294967296 ^ (i / 32) * 2 ^ (i % 32) := by
 rw [show (4294967296 : Nat) = 2 ^ 32 from rfl, ← Cj, ← Ap];congr 1; omega
theorem vH {r : Nat} (h : r < 32) : (4294967296 : Nat) = 2 ^ r * (2 ^ (31 - r) * 2) := by
 rw [← Aq, ← Ap, show r + (31 - r + 1) = 32 by omega]
theorem aHO {a : List Int} (ha : Lb a) (k : Nat) : lv a / 4294967296 ^ k = (a.getD k 0).toNat + 4294967296 * lv (a.drop (k + 1)) := by
 rcases Ar a.length k with h | h
 · rw [getD_past (by omega), List.drop_eq_nil_of_le (by omega)];have l := bP ha;have p : (4294967296 : Nat) ^ a.length ≤ 4294967296 ^ k := Ag (by decide) (by omega);rw [Ca (by omega)]; rfl
 · rw [← nM ha k h, cI]
theorem aSQ {a : List Int} (ha : Lb a) (i : Nat) : (a.getD (i / 32) 0).toNat / 2 ^ (i % 32) % 2 = lv a / 2 ^ i % 2 := by
 have hr : i % 32 < 32 := Cz _ (by decide);have e := aHO ha (i / 32);rw [kL i, ← Cl, e];have p := vH hr;generalize (a.getD (i / 32) 0).toNat = x at *
 generalize lv (a.drop (i / 32 + 1)) = H at *
 generalize i % 32 = r at *
 have hp : 0 < 2 ^ r := Bg (by decide);rw [p, Aw, Ed _ _ hp, Aw (2 ^ (31 - r)) 2 H, Dd];omega
theorem padL {a : List Int} (ha : Lb a) (k : Nat) : Lb (a ++ List.replicate (k + 1 - a.length) 0) ∧ lv (a ++ List.replicate (k + 1 - a.length) 0) = lv a ∧ k < (a ++ List.replicate (k + 1 - a.length) 0).length ∧
 (a ++ List.replicate (k + 1 - a.length) 0).length = max a.length (k + 1) :=
 ⟨ha.append (Lb.replicate _), aRL a _, by simp; omega, by simp; omega⟩
theorem aGU {a : List Int} (ha : Lb a) (i : Nat) (hd : 2 ^ (i + 1) ∣ lv a) :
 (a ++ List.replicate (i / 32 + 1 - a.length) 0).getD (i / 32) 0 + 2 ^ (i % 32) < 4294967296 ∧ Lb (setL a i) ∧ lv (setL a i) = lv a + 2 ^ i ∧ (setL a i).length = max a.length (i / 32 + 1) := by
 have hr : i % 32 < 32 := Cz _ (by decide);obtain ⟨p1, p2, p3, p4⟩ := padL ha (i / 32);unfold setL;generalize a ++ List.replicate (i / 32 + 1 - a.length) 0 = p at *
 have gx := p1.getD (i / 32);have e := aHO p1 (i / 32);have two := vH hr;have t := vB hr;have key : (p.getD (i / 32) 0) + 2 ^ (i % 32) < 4294967296 := by
  rw [p2] at e;obtain ⟨q, hq⟩ := hd;rw [hq, Aq, kL i, Aw, Aw, Nat.mul_div_cancel_left _ (Bg (by decide))] at e;obtain ⟨x, hx⟩ := Al gx.1;rw [hx] at e gx ⊢;rw [eR];have hx' : x < 4294967296 := by omega
  simp only [Ak] at e;generalize lv (p.drop (i / 32 + 1)) = H at *
  generalize i % 32 = r at *
  have hp : 0 < 2 ^ r := Bg (by decide);have m : 2 ^ r * 2 ∣ x := by
   have d1 : 2 ^ r * 2 ∣ x + 4294967296 * H := ⟨q, by rw [← e, Aw]⟩
   have d2 : 2 ^ r * 2 ∣ 4294967296 * H := ⟨2 ^ (31 - r) * H, by rw [two]; simp only [Aw]; congr 1; rw [Dd]⟩
   exact (Nat.dvd_add_iff_left d2).2 d1
  obtain ⟨u, hu⟩ := m;have lt : 2 ^ r * 2 * u < 2 ^ r * 2 * 2 ^ (31 - r) := by
   rw [← hu];have : 2 ^ r * 2 * 2 ^ (31 - r) = 4294967296 := by rw [two, Aw, Ax 2]
   omega
  have ul : u < 2 ^ (31 - r) := Nat.lt_of_mul_lt_mul_left lt;have : 2 ^ r * 2 * (u + 1) ≤ 2 ^ r * 2 * 2 ^ (31 - r) := As _ ul;have e2 : 2 ^ r * 2 * 2 ^ (31 - r) = 4294967296 := by rw [two, Aw, Ax 2]
  rw [Bz] at this;omega
 refine ⟨key, p1.set _ (by omega) key, ?_, by simp [p4]⟩;have s := fS (l := p) (i := i / 32) (p.getD (i / 32) 0 + 2 ^ (i % 32)) p3;have c : (p.getD (i / 32) 0 + 2 ^ (i % 32)).toNat = (p.getD (i / 32) 0).toNat + 2 ^ (i % 32) := by
  have : ((2 ^ (i % 32) : Nat) : Int) = 2 ^ (i % 32) := by push_cast; rfl
  omega
 rw [c, Bz, ← kL i, p2] at s;omega
theorem aBF {A D i : Nat} (hD : 0 < D) :
 (2 * (A / 2 ^ (i + 1) % D) + A / 2 ^ i % 2 < D → A / 2 ^ i % D = 2 * (A / 2 ^ (i + 1) % D) + A / 2 ^ i % 2 ∧ A / 2 ^ i / D = 2 * (A / 2 ^ (i + 1) / D)) ∧
 (D ≤ 2 * (A / 2 ^ (i + 1) % D) + A / 2 ^ i % 2 → A / 2 ^ i % D = 2 * (A / 2 ^ (i + 1) % D) + A / 2 ^ i % 2 - D ∧ A / 2 ^ i / D = 2 * (A / 2 ^ (i + 1) / D) + 1) := by
 have e : A / 2 ^ (i + 1) = A / 2 ^ i / 2 := by rw [Aq, Cl]
 rw [e];generalize A / 2 ^ i = x;have h1 := Ch (x / 2) D;have h2 := Cz (x / 2) hD;generalize x / 2 / D = q at *
 generalize x / 2 % D = r at *
 have h3 : x = D * (2 * q) + (2 * r + x % 2) := by
  have : D * (2 * q) = 2 * (D * q) := by rw [Dd]
  omega
 constructor
 · intro h;constructor
   · conv => lhs; rw [h3]
     rw [Nat.mul_add_mod, Dh h]
   · conv => lhs; rw [h3]
     rw [Nat.mul_add_div hD, Ca h]; rfl
 · intro h;have h4 : x = D * (2 * q + 1) + (2 * r + x % 2 - D) := by rw [Bz]; omega
   have h5 : 2 * r + x % 2 - D < D := by omega
   constructor
   · conv => lhs; rw [h4]
     rw [Nat.mul_add_mod, Dh h5]
   · conv => lhs; rw [h4]
     rw [Nat.mul_add_div hD, Ca h5]
def v2 (n : Nat) : Nat := if h : 0 < n ∧ n % 2 = 0 then v2 (n / 2) + 1 else 0
termination_by n
decreasing_by omega
theorem v2_even {n : Nat} (h : 0 < n) (h2 : n % 2 = 0) : v2 n = v2 (n / 2) + 1 := by rw [v2, dif_pos ⟨h, h2⟩]
theorem v2_odd {n : Nat} (h2 : n % 2 ≠ 0) : v2 n = 0 := by rw [v2, dif_neg (fun k => h2 k.2)]
theorem v2_spec : ∀ (n : Nat), 0 < n → n / 2 ^ v2 n * 2 ^ v2 n = n ∧ n / 2 ^ v2 n % 2 = 1 ∧ 2 ^ v2 n ≤ n := by
 intro n;induction n using Nat.strongRecOn with
 | ind n ih =>
  intro h;rcases Ci n with k | k
  · rw [v2_even h k];obtain ⟨i1, i2, i3⟩ := ih (n / 2) (by omega) (by omega);rw [Aq, Ax (2 ^ _) 2, ← Cl];refine ⟨?_, i2, by omega⟩;rw [Dd, i1]; omega
  · rw [v2_odd (by omega)];simp; omega
theorem sY {n k : Nat} (h0 : 0 < n) (h : n < 2 ^ k) : v2 n < k := by
 have := (v2_spec n h0).2.2;rcases Ar (v2 n) k with j | j
 · exact j
 · have : (2 : Nat) ^ k ≤ 2 ^ v2 n := Ag (by decide) j;omega
def dyMake (neg : Bool) (k : Nat) (e : Int) : Bool × Nat × Int :=
 if k = 0 ∨ e < -4194304 ∨ 4194304 < e then (false, 0, 0) else if 4194304 < e + v2 k then (false, 0, 0) else (neg, k / 2 ^ v2 k, e + v2 k)
theorem vA {k j : Nat} : k / 2 ^ j / 2 = k / 2 ^ (j + 1) := by rw [Cl, Aq]
theorem aEI {k j : Nat} (hk : 0 < k) (h : v2 k = j + v2 (k / 2 ^ j)) (hp : 0 < k / 2 ^ j) :
 (k / 2 ^ j % 2 = 0 → v2 k = j + 1 + v2 (k / 2 ^ (j + 1)) ∧ 0 < k / 2 ^ (j + 1)) ∧ (k / 2 ^ j % 2 ≠ 0 → v2 k = j) := by
 constructor
 · intro e;rw [v2_even hp e, vA] at h;exact ⟨by omega, by rw [← vA]; omega⟩
 · intro e;rw [v2_odd e] at h; omega
def rnd (ng : Bool) (k : Nat) (e : Int) (up : Bool) : Num :=
 if k = 0 then Num.zero
 else if blen (k : Int) ≤ 64 then Num.bound ng ((k * 2 ^ (64 - blen (k : Int)).toNat : Nat) : Int) (e + blen (k : Int) - 64) (up != ng)
 else Num.grow ng ((k / 2 ^ (blen (k : Int) - 64).toNat : Nat) : Int) (e + blen (k : Int) - 64) true (up != ng)
theorem fA {k : Nat} (h : 0 < k) : ∃ n : Nat, blen (k : Int) = n + 1 ∧ 2 ^ n ≤ k ∧ k < 2 ^ (n + 1) := by
 obtain ⟨n, h1, h2, h3⟩ := fC (x := (k : Int)) (by omega);rw [eR] at h2 h3;exact ⟨n, h1, by omega, by omega⟩
theorem blen_eq {k n : Nat} (h1 : 2 ^ n ≤ k) (h2 : k < 2 ^ (n + 1)) : blen (k : Int) = n + 1 := (lM n).2 ⟨h1, h2⟩
theorem pQ {k : Nat} (h : k < 18446744073709551616) : (lim k).length ≤ 2 := lim_length_le (by show k < 4294967296 ^ 2; omega)
theorem aGL {k : Nat} (h0 : 0 < k) (h : blen (k : Int) ≤ 64) : k * 2 ^ (64 - blen (k : Int)).toNat < 18446744073709551616 := by
 obtain ⟨n, h1, h2, h3⟩ := fA h0;rw [h1] at h ⊢;have e : (18446744073709551616 : Nat) = 2 ^ (n + 1) * 2 ^ (64 - ((n : Int) + 1)).toNat := by
  rw [← Ap, show n + 1 + (64 - ((n : Int) + 1)).toNat = 64 by omega]
 rw [e];exact Cg h3 (Bg (by decide))
theorem wJ {k : Nat} (h0 : 0 < k) (h : 64 < blen (k : Int)) : 9223372036854775808 ≤ k / 2 ^ (blen (k : Int) - 64).toNat ∧ k / 2 ^ (blen (k : Int) - 64).toNat < 18446744073709551616 := by
 obtain ⟨n, h1, h2, h3⟩ := fA h0;rw [h1] at h ⊢;have p : 0 < 2 ^ ((n : Int) + 1 - 64).toNat := Bg (by decide);constructor
 · rw [Cu p];have e : (9223372036854775808 : Nat) * 2 ^ ((n : Int) + 1 - 64).toNat = 2 ^ n := by
    rw [show (9223372036854775808 : Nat) = 2 ^ 63 from rfl, ← Ap, show 63 + ((n : Int) + 1 - 64).toNat = n by omega]
   omega
 · rw [Bv p];have e : (18446744073709551616 : Nat) * 2 ^ ((n : Int) + 1 - 64).toNat = 2 ^ (n + 1) := by
    rw [show (18446744073709551616 : Nat) = 2 ^ 64 from rfl, ← Ap, show 64 + ((n : Int) + 1 - 64).toNat = n + 1 by omega]
   omega
theorem aNX {t : Nat} (h1 : 9223372036854775808 ≤ t) (h2 : t < 18446744073709551616) : (64 < blen ((t + 1 : Nat) : Int) ↔ t = 18446744073709551615) ∧ (t = 18446744073709551615 → (t + 1) / 2 ^ (1 : Int).toNat = 9223372036854775808) := by
 refine ⟨?_, fun h => by subst h; rfl⟩;constructor
 · intro h;rcases Ar t 18446744073709551615 with k | k
   · have := blen_eq (k := t + 1) (n := 63) (by show 9223372036854775808 ≤ t + 1; omega) (by show t + 1 < 18446744073709551616; omega);omega
   · omega
 · intro h;subst h;rw [blen_eq (k := 18446744073709551615 + 1) (n := 64) (by decide) (by decide)];decide
def dyL (p : Bool × Nat × Int) : Bool × List Int × Int := (p.1, lim p.2.1, p.2.2)
theorem fB (neg : Bool) (k : Nat) (e : Int) : -4194304 ≤ (dyMake neg k e).2.2 ∧ (dyMake neg k e).2.2 ≤ 4194304 ∧ (dyMake neg k e).2.1 ≤ k := by
 unfold dyMake;split
 · exact ⟨by show (-4194304 : Int) ≤ 0; decide, by show (0 : Int) ≤ 4194304; decide, Nat.zero_le _⟩
 · rename_i h;split
   · exact ⟨by show (-4194304 : Int) ≤ 0; decide, by show (0 : Int) ≤ 4194304; decide, Nat.zero_le _⟩
   · exact ⟨by show -4194304 ≤ e + v2 k; omega, by show e + v2 k ≤ 4194304; omega, Bo _ _⟩
def Num.exact (n : Num) : (Bool × Nat × Int) × Bool :=
 if n.may = false ∨ n.kind = 2 then ((false, 0, 0), false) else if n.kind = 0 then ((false, 0, 0), true) else (dyMake n.neg n.m.toNat n.e, true)
def dyNorm (p : Bool × Nat × Int) : Bool × Nat × Int := dyMake p.1 p.2.1 p.2.2
def fL (p : Bool × Nat × Int) (up : Bool) : Num := rnd (dyNorm p).1 (dyNorm p).2.1 (dyNorm p).2.2 up
def Iv.cells (x : Iv) : List AV := [.bool (.s x.empty), .int .i64 (.s x.lo.kind), .bool (.s x.lo.neg), .int .u64 (.s x.lo.m), .int .i64 (.s x.lo.e),
  .int .i64 (.s x.hi.kind), .bool (.s x.hi.neg), .int .u64 (.s x.hi.m), .int .i64 (.s x.hi.e)]
def Iv.bad (x : Iv) : Bool := x.empty || !x.may
def pw (e : Int) : Int := 2 ^ (e + 8388608).toNat
theorem bG (e : Int) : 0 < pw e := Dq (by decide)
theorem eK {e f : Int} (h : -8388608 ≤ e) (h2 : 0 ≤ f) : pw (e + f) = pw e * 2 ^ f.toNat := by
 unfold pw; rw [show (e + f + 8388608).toNat = (e + 8388608).toNat + f.toNat by omega, Cw]
theorem tY {e : Int} (h : -8388608 ≤ e) : pw (e + 1) = pw e * 2 := eK h (by decide)
theorem aKW {e : Int} (h : -8388608 ≤ e) : pw (e + 64) = pw e * 18446744073709551616 := eK h (by decide)
theorem aQQ {e : Int} (h : -8388608 ≤ e) : pw (e + 63) = pw e * 9223372036854775808 := eK h (by decide)
theorem iQ {e f : Int} (h : -8388608 ≤ e) (h2 : e ≤ f) : pw e ≤ pw f := by
 have e1 := eK h (show 0 ≤ f - e by omega);rw [show e + (f - e) = f by omega] at e1;rw [e1];have p := bG e;have q : (0 : Int) < 2 ^ (f - e).toNat := Dq (by decide);have := Cb (show (1 : Int) ≤ 2 ^ (f - e).toNat by omega) (Am p);omega
theorem aEP {e f : Int} (h : -8388608 ≤ e) (h2 : e < f) : pw e * 2 ≤ pw f := by
 rw [← tY h]; exact iQ (by omega) (by omega)
def Num.W (n : Num) : Int := if n.kind = 0 then 0 else if n.kind = 1 then n.m * pw n.e else pw 1048640
def Num.val (n : Num) : Int := if n.neg then -n.W else n.W
structure Num.Fin (n : Num) : Prop where
 kind : n.kind = 1
 lo : 9223372036854775808 ≤ n.m
 hi : n.m < 18446744073709551616
 elo : -1048576 ≤ n.e
 ehi : n.e ≤ 1048576
theorem Num.may3 {n : Num} (h : n.may = true) (ho : n.ok) : n = Num.zero ∨ n.Fin ∨ n = Num.inf n.neg := by
 rcases Num.may_cases h with h | h | h
 · exact .inl h
 · exact .inr (.inl ⟨h.1, h.2.1, ho.2, h.2.2.1, h.2.2.2⟩)
 · exact .inr (.inr h)
theorem Num.Fin.may {n : Num} (h : n.Fin) : n.may = true := by
 unfold Num.may; rw [if_neg (by rw [h.kind]; decide), if_pos h.kind];simp [h.lo, h.elo, h.ehi]
theorem Num.Fin.ok {n : Num} (h : n.Fin) : n.ok := ⟨by have := h.lo; omega, h.hi⟩
theorem Num.Fin.W {n : Num} (h : n.Fin) : n.W = n.m * pw n.e := by
 unfold Num.W; rw [if_neg (by rw [h.kind]; decide), if_pos h.kind]
theorem Num.Fin.lt {n : Num} (h : n.Fin) : 0 < n.W ∧ n.W < pw 1048640 := by
 rw [h.W];have p := bG n.e;have l := h.lo;have u := h.hi;have e1 := aKW (e := n.e) (by have := h.elo; omega);have e2 := iQ (e := n.e + 64) (f := 1048640) (by have := h.elo; omega) (by have := h.ehi; omega);have e3 : n.m * pw n.e < 18446744073709551616 * pw n.e := Bb u p;have e4 : 0 < n.m * pw n.e := Df (by omega) p;omega
theorem Num.mW : Num.zero.W = 0 := rfl
theorem Num.aHH (b : Bool) : (Num.inf b).W = pw 1048640 := rfl
theorem Num.zero_may : Num.zero.may = true := by decide
theorem Num.lC (b : Bool) : (Num.inf b).may = true := by cases b <;> decide
theorem lex_lt {m e m' e' : Int} (h1 : 9223372036854775808 ≤ m') (h2 : m < 18446744073709551616) (he : -8388608 ≤ e) (h : e < e') : m * pw e < m' * pw e' := by
 have p := bG e;have e1 := aEP he h;have e2 : m * pw e < 18446744073709551616 * pw e := Bb h2 p;have e3 : 9223372036854775808 * pw e' ≤ m' * pw e' := Af h1 (by omega);omega
theorem Num.iH {a b : Num} (ha : a.may = true) (hb : b.may = true) (oa : a.ok) (ob : b.ok) : a.farther b = true ↔ b.W < a.W := by
 rcases Num.may3 ha oa with h | h | h <;> rcases Num.may3 hb ob with k | k | k
 · rw [h, k]; simp [Num.farther]
 · rw [h]; have := k.lt; simp [Num.farther, k.kind, Num.zero, Num.W]; rw [← k.W]; omega
 · rw [h, k]; have := bG 1048640; simp [Num.farther, Num.zero, Num.inf, Num.W]; omega
 · rw [k]; have := h.lt; simp [Num.farther, h.kind, Num.zero, Num.W]; rw [← h.W]; omega
 · unfold Num.farther;rw [if_neg (by simp [h.kind, k.kind]), h.W, k.W];have := h.lo; have := h.hi; have := h.elo; have := h.ehi;have := k.lo; have := k.hi; have := k.elo; have := k.ehi;by_cases he : a.e = b.e
   · rw [if_neg (by simp [he]), he, Ab];have p := bG b.e;exact (Int.mul_lt_mul_right p).symm
   · rw [if_pos he, Ab];constructor
     · intro g; exact lex_lt h.lo k.hi (by omega) g
     · intro g;rcases Bm b.e a.e with g' | g'
       · exact g'
       · have := lex_lt k.lo h.hi (by omega) (show a.e < b.e by omega);omega
 · rw [k]; have := h.lt; simp [Num.farther, h.kind, Num.inf, Num.W]; rw [← h.W]; omega
 · rw [h, k]; have := bG 1048640; simp [Num.farther, Num.zero, Num.inf, Num.W]; omega
 · rw [h]; have := k.lt; simp [Num.farther, k.kind, Num.inf, Num.W]; rw [← k.W]; omega
 · rw [h, k]; simp [Num.farther, Num.inf, Num.W]
theorem Num.sign_of {n : Num} (h : n.may = true) (o : n.ok) : (n.sign = 0 ∧ n.val = 0 ∧ n.W = 0 ∧ n = Num.zero) ∨ (n.sign = 1 ∧ n.val = n.W ∧ 0 < n.W ∧ n.neg = false ∧ n.kind ≠ 0) ∨ (n.sign = -1 ∧ n.val = -n.W ∧ 0 < n.W ∧ n.neg = true ∧ n.kind ≠ 0) := by
 unfold Num.sign Num.val;rw [Num.aS h];rcases Num.may3 h o with k | k | k
 · left; rw [k]; simp [Num.zero, Num.W]
 · right;have := k.lt;rw [if_neg (by rw [k.kind]; decide)];cases hn : n.neg
   · left; simp [k.kind]; omega
   · right; simp [k.kind]; omega
 · right;have := bG 1048640;rw [k];cases hn : n.neg
   · left; simp [Num.inf, Num.W]; exact this
   · right; simp [Num.inf, Num.W]; exact this
theorem Num.cmp_spec {a b : Num} (oa : a.ok) (ob : b.ok) :
 (a.cmp b = -1 ∧ a.fair.val < b.fair.val) ∨ (a.cmp b = 0 ∧ a.fair.val = b.fair.val) ∨ (a.cmp b = 1 ∧ b.fair.val < a.fair.val) := by
 have ma := a.fair_may;have mb := b.fair_may;replace oa := Num.fair_ok oa;replace ob := Num.fair_ok ob;unfold Num.cmp;generalize a.fair = A at *
 generalize b.fair = B at *
 have f1 := Num.iH ma mb oa ob;have f2 := Num.iH mb ma ob oa;have w0 : IntKind.i64.wrap (0 - 0) = 0 := by decide
 have w1 : IntKind.i64.wrap (0 - 1) = -1 := by decide
 have w2 : IntKind.i64.wrap (0 - -1) = 1 := by decide
 rcases Num.sign_of ma oa with h | h | h <;> rcases Num.sign_of mb ob with k | k | k <;> rw [h.1, k.1] <;> simp only [f1, f2, w0, w1, w2] <;> repeat' split <;> omega
theorem Num.zY {a b : Num} (oa : a.ok) (ob : b.ok) : a.cmp b ≤ 0 ↔ a.fair.val ≤ b.fair.val := by
 rcases Num.cmp_spec oa ob with h | h | h <;> omega
theorem Num.zR {a b : Num} (oa : a.ok) (ob : b.ok) : a.cmp b < 0 ↔ a.fair.val < b.fair.val := by
 rcases Num.cmp_spec oa ob with h | h | h <;> omega
theorem Num.gP {a b : Num} (oa : a.ok) (ob : b.ok) : 0 < a.cmp b ↔ b.fair.val < a.fair.val := by
 rcases Num.cmp_spec oa ob with h | h | h <;> omega
theorem Num.val_inf (b : Bool) : (Num.inf b).val = if b then -pw 1048640 else pw 1048640 := rfl
theorem Num.val_zero : Num.zero.val = 0 := rfl
theorem Num.oO {n : Num} (h : n.may = true) (o : n.ok) : -pw 1048640 ≤ n.val ∧ n.val ≤ pw 1048640 := by
 have p := bG 1048640;rcases Num.may3 h o with k | k | k
 · rw [k, Num.val_zero]; omega
 · have := k.lt; unfold Num.val; split <;> omega
 · rw [k, Num.val_inf]; split <;> omega
theorem Num.val_inj {a b : Num} (ha : a.may = true) (hb : b.may = true) (oa : a.ok) (ob : b.ok) (h : a.val = b.val) : a = b := by
 have f1 := Num.iH ha hb oa ob;have f2 := Num.iH hb ha ob oa;have key : a.neg = b.neg ∧ a.W = b.W := by
  rcases Num.sign_of ha oa with h | h | h <;> rcases Num.sign_of hb ob with k | k | k <;> first | (exfalso; omega) | (refine ⟨?_, by omega⟩; first | rw [h.2.2.2, k.2.2.2] | rw [h.2.2.2.1, k.2.2.2.1])
 rw [key.2] at f1 f2;have g1 : a.farther b = false := by
  cases hh : a.farther b
  · rfl
  · have := f1.1 hh; omega
 have g2 : b.farther a = false := by
  cases hh : b.farther a
  · rfl
  · have := f2.1 hh; omega
 unfold Num.farther at g1 g2;by_cases hk : a.kind = b.kind
 · rw [if_neg (by simp [hk])] at g1 g2;by_cases he : a.e = b.e
   · rw [if_neg (by simp [he]), Aa] at g1 g2;exact (Num.eq_iff a b).2 ⟨hk, key.1, by omega, he⟩
   · rw [if_pos he, Aa] at g1;rw [if_pos (fun h => he h.symm), Aa] at g2;omega
 · rw [if_pos hk, Aa] at g1;rw [if_pos (fun h => hk h.symm), Aa] at g2;omega
theorem Num.mF {n : Num} (h : n.may = true) (o : n.ok) : (n ≠ Num.inf false ↔ n.val < pw 1048640) ∧ (n ≠ Num.inf true ↔ -pw 1048640 < n.val) := by
 have b := Num.oO h o;constructor
 · constructor
   · intro g;rcases Bm n.val (pw 1048640) with k | k
     · exact k
     · exact absurd (Num.val_inj h (Num.lC _) o (Num.mS _) (by rw [Num.val_inf]; simp; omega)) g
   · rintro g rfl;rw [Num.val_inf] at g; simp at g
 · constructor
   · intro g;rcases Bm (-pw 1048640) n.val with k | k
     · exact k
     · exact absurd (Num.val_inj h (Num.lC _) o (Num.mS _) (by rw [Num.val_inf]; simp; omega)) g
   · rintro g rfl;rw [Num.val_inf] at g; simp at g
theorem Num.opp_may (n : Num) : n.opp.may = true := by
 have h := n.fair_may;unfold Num.opp;unfold Num.may at h ⊢;dsimp only;generalize n.fair = A at *
 split
 · rename_i h0; rw [if_pos h0] at h;simp only [Ab] at h ⊢;rw [h]; rfl
 · rename_i h0; rw [if_neg h0] at h;exact h
theorem Num.opp_ok {n : Num} (h : n.ok) : n.opp.ok := Num.fair_ok h
theorem Num.uJ (n : Num) : n.opp.opp = n.fair := by
 have e := Num.aS n.opp_may;rw [Num.eq_iff];show n.opp.fair.kind = _ ∧ (decide (n.opp.fair.kind ≠ 0) && !n.opp.fair.neg) = _ ∧ n.opp.fair.m = _ ∧ n.opp.fair.e = _;rw [e];refine ⟨rfl, ?_, rfl, rfl⟩;show (decide (n.fair.kind ≠ 0) && !(decide (n.fair.kind ≠ 0) && !n.fair.neg)) = n.fair.neg;rcases Num.may_cases n.fair_may with h | h | h
 · rw [h]; rfl
 · simp [h.1]
 · rw [h]; cases n.fair.neg <;> rfl
theorem Num.jT {n : Num} : n.opp.val = -n.fair.val := by
 unfold Num.opp Num.val;dsimp only;by_cases h : n.fair.kind = 0
 · have e : n.fair = Num.zero := by
    rcases Num.may_cases n.fair_may with k | k | k
    · exact k
    · omega
    · rw [k] at h; simp [Num.inf] at h
   rw [e]; rfl
 · have e : (decide (n.fair.kind ≠ 0) && !n.fair.neg) = !n.fair.neg := by simp [h]
   rw [e];have e2 : (Num.mk n.fair.kind (!n.fair.neg) n.fair.m n.fair.e).W = n.fair.W := rfl;rw [e2];cases n.fair.neg <;> simp
structure Iv.Real (x : Iv) : Prop where
 some : x.empty = false
 lom : x.lo.may = true
 him : x.hi.may = true
 loo : x.lo.ok
 hio : x.hi.ok
 le : x.lo.val ≤ x.hi.val
 lt : x.lo.val < pw 1048640
 gt : -pw 1048640 < x.hi.val
theorem Iv.Real.may {x : Iv} (h : x.Real) : x.may = true := by
 unfold Iv.may;rw [if_neg (by simp [h.some]), h.lom, h.him];have e1 := (Num.zY h.loo h.hio).2 (by rw [Num.aS h.lom, Num.aS h.him]; exact h.le);have e2 := (Num.mF h.lom h.loo).1.2 h.lt;have e3 := (Num.mF h.him h.hio).2.2 h.gt;simp [e1, e2, e3]
theorem Iv.Real.fair {x : Iv} (h : x.Real) : x.fair = x := by unfold Iv.fair; rw [if_pos h.may]
theorem Iv.Real.good {x : Iv} (h : x.Real) : x.bad = false := by simp [Iv.bad, h.some, h.may]
theorem Iv.real_of {x : Iv} (h : x.may = true) (hs : x.empty = false) (o1 : x.lo.ok) (o2 : x.hi.ok) : x.Real := by
 unfold Iv.may at h;rw [if_neg (by simp [hs])] at h;simp only [Aj, Ab] at h;obtain ⟨⟨⟨⟨h1, h2⟩, h3⟩, h4⟩, h5⟩ := h;have e1 := (Num.zY o1 o2).1 h3;rw [Num.aS h1, Num.aS h2] at e1;exact ⟨hs, h1, h2, o1, o2, e1, (Num.mF h1 o1).1.1 h4, (Num.mF h2 o2).2.1 h5⟩
theorem Iv.pO {x : Iv} (h : x.bad = false) (o1 : x.lo.ok) (o2 : x.hi.ok) : x.Real := by
 unfold Iv.bad at h;simp only [Bool.or_eq_false_iff, Bool.not_eq_false'] at h;exact Iv.real_of h.2 h.1 o1 o2
theorem Iv.empty_may {x : Iv} (h : x.may = true) (hs : x.empty = true) : x = Iv.none := by
 unfold Iv.may at h;rw [if_pos hs] at h
 simpa using h
theorem Iv.uH (lo hi : Num) : Iv.make lo hi = Iv.fair ⟨false, lo.fair, hi.fair⟩ := by unfold Iv.make; rw [Num.uJ, Num.uJ]
theorem Iv.sG {lo hi : Num} (h : (Iv.mk false lo.fair hi.fair).Real) : Iv.make lo hi = ⟨false, lo.fair, hi.fair⟩ := by rw [Iv.uH, h.fair]
theorem Iv.make_cases {lo hi : Num} (o1 : lo.ok) (o2 : hi.ok) : (Iv.make lo hi = Iv.none ∧ ¬ (Iv.mk false lo.fair hi.fair).Real) ∨ (Iv.make lo hi = ⟨false, lo.fair, hi.fair⟩ ∧ (Iv.mk false lo.fair hi.fair).Real) := by
 by_cases h : (Iv.mk false lo.fair hi.fair).Real
 · exact .inr ⟨Iv.sG h, h⟩
 · refine .inl ⟨?_, h⟩;rw [Iv.uH];unfold Iv.fair;split
   · rename_i k;exact absurd (Iv.real_of k rfl (Num.fair_ok o1) (Num.fair_ok o2)) h
   · rfl
theorem Num.least_go (l : List Num) : ∀ (o : Num), o.may = true → o.ok → (∀ x ∈ l, x.ok) →
 (l.foldl Num.lesser o).may = true ∧ (l.foldl Num.lesser o).ok ∧ (l.foldl Num.lesser o).val ≤ o.val ∧ (∀ x ∈ l, (l.foldl Num.lesser o).val ≤ x.fair.val) ∧ (l.foldl Num.lesser o = o ∨ ∃ x ∈ l, l.foldl Num.lesser o = x.fair) := by
 induction l with
 | nil => intro o m k _; exact ⟨m, k, Bc _, by simp, .inl rfl⟩
 | cons a l ih =>
  intro o m k hl;have ha := hl a (List.mem_cons_self ..);have hs := Num.zR ha k;rw [Num.aS m] at hs;have key : (Num.lesser o a).may = true ∧ (Num.lesser o a).ok ∧ (Num.lesser o a).val ≤ o.val ∧ (Num.lesser o a).val ≤ a.fair.val ∧ (Num.lesser o a = o ∨ Num.lesser o a = a.fair) := by
   unfold Num.lesser;split
   · exact ⟨a.fair_may, Num.fair_ok ha, by omega, Bc _, .inr rfl⟩
   · exact ⟨m, k, Bc _, by omega, .inl rfl⟩
  obtain ⟨k1, k2, k3, k4, k5⟩ := key;obtain ⟨i1, i2, i3, i4, i5⟩ := ih _ k1 k2 (fun x hx => hl x (List.mem_cons_of_mem _ hx));rw [List.foldl_cons];refine ⟨i1, i2, by omega, ?_, ?_⟩
  · intro x hx;rcases List.mem_cons.1 hx with rfl | hx
    · omega
    · exact i4 x hx
  · rcases i5 with i5 | ⟨x, hx, i5⟩
    · rcases k5 with k5 | k5
      · exact .inl (by rw [i5, k5])
      · exact .inr ⟨a, List.mem_cons_self .., by rw [i5, k5]⟩
    · exact .inr ⟨x, List.mem_cons_of_mem _ hx, i5⟩
theorem Num.least_spec (l : List Num) (hl : ∀ x ∈ l, x.ok) : (Num.least l).may = true ∧ (Num.least l).ok ∧ (∀ x ∈ l, (Num.least l).val ≤ x.fair.val) ∧ (Num.least l = Num.inf false ∨ ∃ x ∈ l, Num.least l = x.fair) := by
 obtain ⟨h1, h2, _, h4, h5⟩ := Num.least_go l (Num.inf false) (Num.lC _) (Num.mS _) hl;exact ⟨h1, h2, h4, h5⟩
theorem Num.aON (l : List Num) : ∀ (o : Num), o.may = true → o.ok → (∀ x ∈ l, x.ok) →
 (l.foldl Num.greater o).may = true ∧ (l.foldl Num.greater o).ok ∧ o.val ≤ (l.foldl Num.greater o).val ∧ (∀ x ∈ l, x.fair.val ≤ (l.foldl Num.greater o).val) ∧ (l.foldl Num.greater o = o ∨ ∃ x ∈ l, l.foldl Num.greater o = x.fair) := by
 induction l with
 | nil => intro o m k _; exact ⟨m, k, Bc _, by simp, .inl rfl⟩
 | cons a l ih =>
  intro o m k hl;have ha := hl a (List.mem_cons_self ..);have hs := Num.gP ha k;rw [Num.aS m] at hs;have key : (Num.greater o a).may = true ∧ (Num.greater o a).ok ∧ o.val ≤ (Num.greater o a).val ∧ a.fair.val ≤ (Num.greater o a).val ∧ (Num.greater o a = o ∨ Num.greater o a = a.fair) := by
   unfold Num.greater;split
   · exact ⟨a.fair_may, Num.fair_ok ha, by omega, Bc _, .inr rfl⟩
   · exact ⟨m, k, Bc _, by omega, .inl rfl⟩
  obtain ⟨k1, k2, k3, k4, k5⟩ := key;obtain ⟨i1, i2, i3, i4, i5⟩ := ih _ k1 k2 (fun x hx => hl x (List.mem_cons_of_mem _ hx));rw [List.foldl_cons];refine ⟨i1, i2, by omega, ?_, ?_⟩
  · intro x hx;rcases List.mem_cons.1 hx with rfl | hx
    · omega
    · exact i4 x hx
  · rcases i5 with i5 | ⟨x, hx, i5⟩
    · rcases k5 with k5 | k5
      · exact .inl (by rw [i5, k5])
      · exact .inr ⟨a, List.mem_cons_self .., by rw [i5, k5]⟩
    · exact .inr ⟨x, List.mem_cons_of_mem _ hx, i5⟩
theorem Num.most_spec (l : List Num) (hl : ∀ x ∈ l, x.ok) : (Num.most l).may = true ∧ (Num.most l).ok ∧ (∀ x ∈ l, x.fair.val ≤ (Num.most l).val) ∧ (Num.most l = Num.inf true ∨ ∃ x ∈ l, Num.most l = x.fair) := by
 obtain ⟨h1, h2, _, h4, h5⟩ := Num.aON l (Num.inf true) (Num.lC _) (Num.mS _) hl;exact ⟨h1, h2, h4, h5⟩
structure Rnd (r : Num) (neg away : Bool) (q q' e : Int) : Prop where
 may : r.may = true
 ok : r.ok
 neg : r.kind = 0 ∨ r.neg = neg
 down : away = false → r.kind ≠ 2 ∧ r.W ≤ q * pw e
 up : away = true → r.kind ≠ 0 ∧ (r.kind = 2 ∨ q' * pw e ≤ r.W)
theorem rV {neg away : Bool} {m e : Int} (hm : 9223372036854775808 ≤ m) (hm' : m < 18446744073709551616) (he : -4194304 ≤ e) (he' : e ≤ 4194304) :
 Rnd (Num.bound neg m e away) neg away m m e := by
 unfold Num.bound;by_cases h1 : 1048576 < e
 · rw [if_pos h1];cases away
   · rw [if_neg (by decide)];refine ⟨by cases neg <;> decide, by constructor <;> simp [Num.huge], .inr rfl, fun _ => ⟨by simp [Num.huge], ?_⟩, by simp⟩;show 18446744073709551615 * pw 1048576 ≤ _;have := lex_lt (m := 18446744073709551615) hm (by decide) (by decide) h1;omega
   · rw [if_pos rfl];exact ⟨Num.lC _, Num.mS _, .inr rfl, by simp, fun _ => ⟨by simp [Num.inf], .inl rfl⟩⟩
 · rw [if_neg h1];by_cases h2 : e < -1048576
   · rw [if_pos h2];cases away
     · rw [if_neg (by decide)];refine ⟨Num.zero_may, Num.zero_ok, .inl rfl, fun _ => ⟨by simp [Num.zero], ?_⟩, by simp⟩;rw [Num.mW]; exact Bj (by omega) (Am (bG _))
     · rw [if_pos rfl];refine ⟨by cases neg <;> decide, by constructor <;> simp [Num.tiny, Num.top], .inr rfl, by simp, fun _ => ⟨by simp [Num.tiny], .inr ?_⟩⟩;show _ ≤ 9223372036854775808 * pw (-1048576);have := lex_lt (m' := 9223372036854775808) (by decide) hm' (by omega) h2;omega
   · rw [if_neg h2];have f : (Num.mk 1 neg m e).Fin := ⟨rfl, hm, hm', by show -1048576 ≤ e; omega, by show e ≤ 1048576; omega⟩
     exact ⟨f.may, f.ok, .inr rfl, fun _ => ⟨by simp, by rw [f.W]; exact Bc _⟩, fun _ => ⟨by simp, .inr (by rw [f.W]; exact Bc _)⟩⟩
theorem uP {neg cut away : Bool} {m e : Int} (hm : 9223372036854775808 ≤ m) (hm' : m < 18446744073709551616) (he : -4194303 ≤ e) (he' : e ≤ 4194303) :
 Rnd (Num.grow neg m e cut away) neg away m (if cut then m + 1 else m) e := by
 unfold Num.grow;by_cases hc : (cut && away) = true
 · rw [if_pos hc];simp only [Aj] at hc;obtain ⟨h1, h2⟩ := hc;subst h1; subst h2;rw [if_pos rfl];by_cases h0 : IntKind.u64.wrap (m + 1) = 0
   · rw [if_pos h0];have em : m + 1 = 18446744073709551616 := by rw [wu64] at h0; omega
     have ee : IntKind.i64.wrap (e + 1) = e + 1 := by rw [wi64]; omega
     rw [ee, em];have b := rV (neg := neg) (away := true) (m := Num.top) (e := e + 1) (by decide) (by decide) (by omega) (by omega);have e2 : Num.top * pw (e + 1) = 18446744073709551616 * pw e := by
      rw [tY (by omega)]; show 9223372036854775808 * (pw e * 2) = _; omega
     exact ⟨b.may, b.ok, b.neg, by simp, fun h => ⟨(b.up h).1, by rw [← e2]; exact (b.up h).2⟩⟩
   · rw [if_neg h0];have em : IntKind.u64.wrap (m + 1) = m + 1 := by rw [wu64] at h0 ⊢; omega
     have hlt : m + 1 < 18446744073709551616 := by rw [wu64] at h0; omega
     rw [em];have b := rV (neg := neg) (away := true) (m := m + 1) (e := e) (by omega) hlt (by omega) (by omega);exact ⟨b.may, b.ok, b.neg, by simp, b.up⟩
 · rw [if_neg hc];have b := rV (neg := neg) (away := away) hm hm' (e := e) (by omega) (by omega);refine ⟨b.may, b.ok, b.neg, b.down, ?_⟩;intro ha;subst ha;simp only [Dm, Bool.not_eq_true] at hc;rw [if_neg (by simp [hc])];exact b.up rfl
structure Side (r : Num) (up : Bool) (t c : Int) : Prop where
 may : r.may = true
 ok : r.ok
 down : up = false → r ≠ Num.inf false ∧ (r = Num.inf true ∨ r.val * c ≤ t)
 up : up = true → r ≠ Num.inf true ∧ (r = Num.inf false ∨ t ≤ r.val * c)
theorem Num.mD {r : Num} (h : r.may = true) (o : r.ok) (hk : r.kind = 2) : r = Num.inf r.neg := by
 rcases Num.may3 h o with k | k | k
 · rw [k] at hk; simp [Num.zero] at hk
 · have := k.kind; omega
 · exact k
theorem Rnd.side {r : Num} {neg up : Bool} {q q' e T c : Int} (R : Rnd r neg (up != neg) q q' e) (h1 : q * pw e * c ≤ T) (h2 : T ≤ q' * pw e * c) (hT : 0 ≤ T) (hc : 0 ≤ c) : Side r up (if neg then -T else T) c := by
 have hv : r.val * c = if r.neg then -(r.W * c) else r.W * c := by
  unfold Num.val; cases r.neg <;> simp [Cd]
 have down : (up != neg) = false → r.kind ≠ 2 ∧ r.W * c ≤ T := fun h => ⟨(R.down h).1, De (Af (R.down h).2 hc) h1⟩
 have upw : (up != neg) = true → r.kind ≠ 0 ∧ (r.kind = 2 ∨ T ≤ r.W * c) := by
  intro h;refine ⟨(R.up h).1, ?_⟩;rcases (R.up h).2 with k | k
  · exact .inl k
  · exact .inr (De h2 (Af k hc))
 have w0 : r.kind = 0 → r.W = 0 := fun h => by unfold Num.W; rw [if_pos h]
 have n0 : ∀ b, r.kind ≠ 2 → r ≠ Num.inf b := fun b h g => h (by rw [g]; rfl)
 refine ⟨R.may, R.ok, ?_, ?_⟩
 · intro hu;subst hu;cases neg
   · obtain ⟨d1, d2⟩ := down rfl;refine ⟨n0 _ d1, .inr ?_⟩;rw [hv];rcases R.neg with h | h
     · rw [w0 h]; simp; exact hT
     · rw [h]; simpa using d2
   · obtain ⟨d1, d2⟩ := upw rfl;have hn : r.neg = true := by rcases R.neg with h | h <;> simp_all
     refine ⟨fun g => by rw [g] at hn; simp [Num.inf] at hn, ?_⟩;rcases d2 with d2 | d2
     · left; rw [Num.mD R.may R.ok d2, hn]
     · right; rw [hv, hn]; simp; exact d2
 · intro hu;subst hu;cases neg
   · obtain ⟨d1, d2⟩ := upw rfl;have hn : r.neg = false := by rcases R.neg with h | h <;> simp_all
     refine ⟨fun g => by rw [g] at hn; simp [Num.inf] at hn, ?_⟩;rcases d2 with d2 | d2
     · left; rw [Num.mD R.may R.ok d2, hn]
     · right; rw [hv, hn]; simpa using d2
   · obtain ⟨d1, d2⟩ := down rfl;refine ⟨n0 _ d1, .inr ?_⟩;rw [hv];rcases R.neg with h | h
     · rw [w0 h]; simp; exact hT
     · rw [h]; simpa using d2
theorem Num.inf_val {n : Num} (m : n.may = true) (o : n.ok) (k : n.kind = 2) : (n.neg = true ∧ n.val = -pw 1048640) ∨ (n.neg = false ∧ n.val = pw 1048640) := by
 have e := Num.mD m o k;cases hn : n.neg
 · right; rw [e, hn]; exact ⟨rfl, rfl⟩
 · left; rw [e, hn]; exact ⟨rfl, rfl⟩
end
section
open Go
structure Dbl where
 hi : Int
 lo : Int
 cut : Bool
def Dbl.av (d : Dbl) : AV := .agg [.int .u64 (.s d.hi), .int .u64 (.s d.lo), .bool (.s d.cut)]
def dS (m k : Int) : Dbl := ⟨m * 18446744073709551616 / 2 ^ k.toNat / 18446744073709551616, m * 18446744073709551616 / 2 ^ k.toNat % 18446744073709551616, decide (m * 18446744073709551616 % 2 ^ k.toNat ≠ 0)⟩
theorem two_pos (n : Nat) : (0 : Int) < 2 ^ n := Dq (by decide)
theorem rF {k : Int} (h : 0 ≤ k) (h' : k ≤ 64) : (18446744073709551616 : Int) = 2 ^ (64 - k).toNat * 2 ^ k.toNat := by
 rw [← Cw, show (64 - k).toNat + k.toNat = 64 by omega]; rfl
theorem aDJ {m k : Int} (hk : 0 ≤ k) (hk' : k < 64) : dS m k = ⟨m / 2 ^ k.toNat, m * 2 ^ (64 - k).toNat % 18446744073709551616, false⟩ := by
 have e := rF hk (by omega);have p := two_pos k.toNat;have q := two_pos (64 - k).toNat;have e1 : m * 18446744073709551616 / 2 ^ k.toNat = m * 2 ^ (64 - k).toNat := by
  rw [e, ← Bh]; exact Dg _ (by omega)
 have e2 : m * 18446744073709551616 % 2 ^ k.toNat = 0 := by
  rw [e, ← Bh]; exact Int.mul_emod_left _ _
 have e3 : m * 2 ^ (64 - k).toNat / 18446744073709551616 = m / 2 ^ k.toNat := by
  rw [e, At m, Ds _ _ q]
 unfold dS;rw [e1, e2, e3]; rfl
theorem aIZ {m k : Int} (h0 : 0 ≤ m) (h1 : m < 18446744073709551616) (hk : 64 ≤ k) (hk' : k < 128) :
 dS m k = ⟨0, m / 2 ^ (k - 64).toNat, decide (m * 2 ^ (128 - k).toNat % 18446744073709551616 ≠ 0)⟩ := by
 have e : (2 : Int) ^ k.toNat = 18446744073709551616 * 2 ^ (k - 64).toNat := by
  rw [show k.toNat = 64 + (k - 64).toNat by omega, Cw]; rfl
 have p := two_pos (k - 64).toNat;have q := two_pos (128 - k).toNat;have e1 : m * 18446744073709551616 / 2 ^ k.toNat = m / 2 ^ (k - 64).toNat := by
  rw [e, At m, Ds _ _ (by decide)]
 have e2 : m * 18446744073709551616 % 2 ^ k.toNat = 18446744073709551616 * (m % 2 ^ (k - 64).toNat) := by
  rw [e, At m, Int.mul_emod_mul_of_pos _ _ (by decide)]
 have e3 : m * 2 ^ (128 - k).toNat % 18446744073709551616 = 2 ^ (128 - k).toNat * (m % 2 ^ (k - 64).toNat) := by
  have f : (18446744073709551616 : Int) = 2 ^ (128 - k).toNat * 2 ^ (k - 64).toNat := by
   rw [← Cw, show (128 - k).toNat + (k - 64).toNat = 64 by omega]; rfl
  rw [f, At m, Int.mul_emod_mul_of_pos _ _ q]
 have l := Bq m (show (2 : Int) ^ (k - 64).toNat ≠ 0 by omega);have e4 : m / 2 ^ (k - 64).toNat / 18446744073709551616 = 0 := Du (Cc h0 (by omega)) (by have := Int.ediv_le_self (2 ^ (k - 64).toNat) h0; omega);have e5 : m / 2 ^ (k - 64).toNat % 18446744073709551616 = m / 2 ^ (k - 64).toNat := Bi (Cc h0 (by omega)) (by have := Int.ediv_le_self (2 ^ (k - 64).toNat) h0; omega);unfold dS;rw [e1, e2, e3, e4, e5];congr 1;apply Bk.2;constructor
 · intro g g';apply g;rcases Int.mul_eq_zero.1 g' with g' | g'
   · omega
   · rw [g']; simp
 · intro g g';apply g;have : m % 2 ^ (k - 64).toNat = 0 := by omega
   rw [this]; simp
theorem aKF {m k : Int} (h0 : 0 < m) (h1 : m < 18446744073709551616) (hk : 128 ≤ k) : dS m k = ⟨0, 0, true⟩ := by
 have e : (340282366920938463463374607431768211456 : Int) ≤ 2 ^ k.toNat := by
  have : (2 : Int) ^ 128 ≤ 2 ^ k.toNat := by
   have := Ag (n := 2) (by omega) (show 128 ≤ k.toNat by omega)
   exact_mod_cast this
  exact this
 have e1 : m * 18446744073709551616 / 2 ^ k.toNat = 0 := Du (by omega) (by omega);have e2 : m * 18446744073709551616 % 2 ^ k.toNat = m * 18446744073709551616 := Bi (by omega) (by omega);unfold dS;rw [e1, e2];congr 1;exact Au (by omega)
theorem kG (m k : Int) (h : 0 ≤ m) : 0 ≤ (dS m k).hi := by
 have p := two_pos k.toNat;exact Cc (Cc (by omega) (by omega)) (by decide)
def plusX (a b : Num) : Int := a.m * 18446744073709551616 + b.m * 18446744073709551616 / 2 ^ (a.e - b.e).toNat
def eW (a b : Num) : Bool := decide (b.m * 18446744073709551616 % 2 ^ (a.e - b.e).toNat ≠ 0)
def mJ (a b : Num) (up : Bool) : Num :=
 if plusX a b < 340282366920938463463374607431768211456 then Num.grow a.neg (plusX a b / 18446744073709551616) a.e (eW a b || decide (plusX a b % 18446744073709551616 ≠ 0)) (up != a.neg)
 else Num.grow a.neg (plusX a b / 36893488147419103232) (a.e + 1) (eW a b || decide (plusX a b % 36893488147419103232 ≠ 0)) (up != a.neg)
theorem aSK {x : Int} (h0 : 0 ≤ x) (h1 : x < 9223372036854775808) : IntKind.u64.wrap ((BitVec.ofInt IntKind.u64.bits x ||| BitVec.ofInt IntKind.u64.bits 9223372036854775808).toNat : Int) = x + 9223372036854775808 := by
 show IntKind.u64.wrap ((BitVec.ofInt 64 x ||| BitVec.ofInt 64 9223372036854775808).toNat : Int) = _;rw [Dt];have a1 : (BitVec.ofInt 64 x).toNat = x.toNat := by
  have := gJ x;omega
 have a2 : (BitVec.ofInt 64 9223372036854775808).toNat = 1 <<< 63 := by decide
 rw [a1, a2, Nat.or_comm, ← Nat.shiftLeft_add_eq_or_of_lt (by omega), Nat.shiftLeft_eq, wu64];omega
theorem and_1 (x : Int) : IntKind.u64.wrap ((BitVec.ofInt IntKind.u64.bits x &&& BitVec.ofInt IntKind.u64.bits 1).toNat : Int) = x % 2 := by
 have := aPD x 1 (by omega);rw [show (2 ^ 1 - 1 : Int) = 1 by decide, show (2 ^ 1 : Int) = 2 by decide] at this;show IntKind.u64.wrap ((BitVec.ofInt 64 x &&& BitVec.ofInt 64 1).toNat : Int) = _;rw [this, wu64]; omega
section
variable {a b : Num} {up : Bool} {D : Dbl}
theorem oP (ha : a.Fin) (hb : b.Fin) (hD : D = dS b.m (a.e - b.e)) :
 0 ≤ plusX a b ∧ a.m + D.hi = plusX a b / 18446744073709551616 ∧ D.lo = plusX a b % 18446744073709551616 ∧ D.cut = eW a b ∧ plusX a b < 680564733841876926926749214863536422912 := by
 have := ha.lo; have := ha.hi; have := hb.lo; have := hb.hi;have p := two_pos (a.e - b.e).toNat;have n := Cc (show 0 ≤ b.m * 18446744073709551616 by omega) (Am p);have l := Int.ediv_le_self (2 ^ (a.e - b.e).toNat) (show 0 ≤ b.m * 18446744073709551616 by omega);subst hD;unfold dS plusX eW;dsimp only;generalize b.m * 18446744073709551616 / 2 ^ (a.e - b.e).toNat = L at *
 refine ⟨by omega, by omega, by omega, rfl, by omega⟩
theorem aFT (ha : a.Fin) (hb : b.Fin) (hD : D = dS b.m (a.e - b.e)) (h : (a.m + D.hi + 0) / 18446744073709551616 ≠ 0) :
 mJ a b up = Num.grow a.neg (IntKind.u64.wrap ((BitVec.ofInt IntKind.u64.bits (((a.m + D.hi + 0) % 18446744073709551616).fdiv (2 ^ min (Int.toNat 1) IntKind.u64.bits)) ||| BitVec.ofInt IntKind.u64.bits 9223372036854775808).toNat : Int)) (IntKind.i64.wrap (a.e + 1))
  (D.cut || (decide (D.lo ≠ 0) || decide (IntKind.u64.wrap ((BitVec.ofInt IntKind.u64.bits ((a.m + D.hi + 0) % 18446744073709551616) &&& BitVec.ofInt IntKind.u64.bits 1).toNat : Int) ≠ 0))) (up != a.neg) := by
 obtain ⟨n, e1, e2, e3, l⟩ := oP ha hb hD;have := ha.elo; have := ha.ehi;rw [e1] at h;unfold mJ;rw [e1, e2, e3, shr1, and_1];generalize plusX a b = X at *
 rw [if_neg (by omega), aSK (by omega) (by omega), show IntKind.i64.wrap (a.e + 1) = a.e + 1 by (rw [wi64]; omega),
   show (X / 18446744073709551616 + 0) % 18446744073709551616 / 2 + 9223372036854775808 = X / 36893488147419103232 by omega]
 congr 1;cases eW a b
 · simp only [Bool.false_or];rw [← Bool.decide_or];apply Bk.2;omega
 · rfl
theorem aJH (ha : a.Fin) (hb : b.Fin) (hD : D = dS b.m (a.e - b.e)) (h : ¬ (a.m + D.hi + 0) / 18446744073709551616 ≠ 0) :
 mJ a b up = Num.grow a.neg ((a.m + D.hi + 0) % 18446744073709551616) a.e (D.cut || decide (D.lo ≠ 0)) (up != a.neg) := by
 obtain ⟨n, e1, e2, e3, l⟩ := oP ha hb hD;rw [e1] at h;unfold mJ;rw [e1, e2, e3];generalize plusX a b = X at *
 rw [if_pos (by omega), show (X / 18446744073709551616 + 0) % 18446744073709551616 = X / 18446744073709551616 by omega]
end
end
section
open Go
section
variable {y u un q r : Int}
theorem or_0 (x : Int) (h0 : 0 ≤ x) (h1 : x < 18446744073709551616) : IntKind.u64.wrap ((BitVec.ofInt IntKind.u64.bits x ||| BitVec.ofInt IntKind.u64.bits 0).toNat : Int) = x := by
 show IntKind.u64.wrap ((BitVec.ofInt 64 x ||| BitVec.ofInt 64 0).toNat : Int) = x;have e : BitVec.ofInt 64 x ||| BitVec.ofInt 64 0 = BitVec.ofInt 64 x := by
  rw [show BitVec.ofInt 64 0 = 0#64 by rfl];exact BitVec.or_zero
 rw [e, gJ, wu64]; omega
end
end
section
open Go
def minusZ (a b : Num) : Int := a.m * 18446744073709551616 - b.m * 18446744073709551616 / 2 ^ (a.e - b.e).toNat - (if eW a b then 1 else 0)
def gC (a b : Num) (up : Bool) : Num :=
 Num.grow a.neg (minusZ a b * 2 ^ (128 - blen (minusZ a b)).toNat / 18446744073709551616) (a.e - (128 - blen (minusZ a b))) (eW a b || decide (minusZ a b * 2 ^ (128 - blen (minusZ a b)).toNat % 18446744073709551616 ≠ 0)) (up != a.neg)
theorem rI (m k : Int) : 0 ≤ (dS m k).lo := Bq _ (by decide)
theorem oS (m k : Int) : (dS m k).lo < 18446744073709551616 := Cf _ (by decide)
theorem oQ (m k : Int) (h : 0 ≤ m) (h1 : m < 18446744073709551616) : (dS m k).hi < 18446744073709551616 := by
 have l := Int.ediv_le_self (2 ^ k.toNat) (show 0 ≤ m * 18446744073709551616 by omega);show m * 18446744073709551616 / 2 ^ k.toNat / 18446744073709551616 < _;omega
theorem sH (p : Prop) [Decidable p] : (0 : Int) ≤ if p then 1 else 0 := by split <;> decide
theorem rG (p : Prop) [Decidable p] : (if p then 1 else 0 : Int) ≤ 1 := by split <;> decide
theorem aKX {h l s : Int} (h0 : 0 ≤ h) (h1 : h < 2 ^ (64 - s).toNat) (l0 : 0 ≤ l) (l1 : l < 18446744073709551616) (s0 : 0 < s) (s1 : s < 64) :
 IntKind.u64.wrap ((BitVec.ofInt IntKind.u64.bits (IntKind.u64.wrap (h * 2 ^ s.toNat)) ||| BitVec.ofInt IntKind.u64.bits (l / 2 ^ (64 - s).toNat)).toNat : Int) = h * 2 ^ s.toNat + l / 2 ^ (64 - s).toNat := by
 have p := two_pos s.toNat;have q := two_pos (64 - s).toNat;have e := rF (k := s) (by omega) (by omega);have m1 : h * 2 ^ s.toNat ≤ (2 ^ (64 - s).toNat - 1) * 2 ^ s.toNat := Af (by omega) (by omega);have m2 : (2 ^ (64 - s).toNat - 1) * (2 : Int) ^ s.toNat = 18446744073709551616 - 2 ^ s.toNat := by rw [e]; grind
 have m3 : 0 ≤ h * 2 ^ s.toNat := Bj h0 (by omega);have d0 : 0 ≤ l / 2 ^ (64 - s).toNat := Cc l0 (by omega);have d1 : l / 2 ^ (64 - s).toNat < 2 ^ s.toNat := by
  rw [Int.ediv_lt_iff_lt_mul q, At, ← e]; exact l1
 have e1 : IntKind.u64.wrap (h * 2 ^ s.toNat) = h * 2 ^ s.toNat := by rw [wu64]; omega
 rw [e1];show IntKind.u64.wrap ((BitVec.ofInt 64 (h * 2 ^ s.toNat) ||| BitVec.ofInt 64 (l / 2 ^ (64 - s).toNat)).toNat : Int) = _;rw [Dt];generalize hx : h * 2 ^ s.toNat = x at *
 generalize l / 2 ^ (64 - s).toNat = y at *
 have a1 : (BitVec.ofInt 64 x).toNat = h.toNat <<< s.toNat := by
  have := gJ x;rw [Nat.shiftLeft_eq];have c : ((h.toNat * 2 ^ s.toNat : Nat) : Int) = x := by push_cast; rw [Ef h0]; exact hx
  omega
 have a2 : (BitVec.ofInt 64 y).toNat = y.toNat := by
  have := gJ y;omega
 have a3 : y.toNat < 2 ^ s.toNat := by
  have c : ((2 ^ s.toNat : Nat) : Int) = 2 ^ s.toNat := by push_cast; rfl
  omega
 rw [a1, a2, ← Nat.shiftLeft_add_eq_or_of_lt a3, Nat.shiftLeft_eq, wu64];have c : ((h.toNat * 2 ^ s.toNat + y.toNat : Nat) : Int) = x + y := by push_cast; rw [Ef h0, Ef d0, hx]
 rw [c]; omega
section
variable {a b : Num} {up : Bool} {D : Dbl}
theorem jS (ha : a.Fin) (hb : b.Fin) (hk : b.e ≤ a.e) (hgt : b.e < a.e ∨ b.m < a.m) (hD : D = dS b.m (a.e - b.e)) {c lo br hi : Int} (hc : c = if D.cut then 1 else 0)
 (hlo : lo = (0 - D.lo - c) % 18446744073709551616) (hbr : br = if 0 < D.lo + c then 1 else 0) (hhi : hi = (a.m - D.hi - br) % 18446744073709551616) :
 0 < minusZ a b ∧ minusZ a b < 340282366920938463463374607431768211456 ∧ hi = minusZ a b / 18446744073709551616 ∧ lo = minusZ a b % 18446744073709551616 ∧ D.cut = eW a b := by
 have := ha.lo; have := ha.hi; have := hb.lo; have := hb.hi;have p := two_pos (a.e - b.e).toNat;have n := Cc (show 0 ≤ b.m * 18446744073709551616 by omega) (Am p);have l := Int.ediv_mul_le (b.m * 18446744073709551616) (show (2 : Int) ^ (a.e - b.e).toNat ≠ 0 by omega);have hcut : D.cut = eW a b := by rw [hD]; rfl
 have hcc : c = if eW a b then 1 else 0 := by rw [hc, hcut]
 have key : b.m * 18446744073709551616 / 2 ^ (a.e - b.e).toNat + c < a.m * 18446744073709551616 := by
  by_cases he : a.e = b.e
  · have e0 : (2 : Int) ^ (a.e - b.e).toNat = 1 := by rw [show (a.e - b.e).toNat = 0 by omega]; rfl
    have : eW a b = false := by unfold eW; rw [e0]; simp
    rw [this] at hcc;rw [e0];simp at hcc ⊢;omega
  · have two : (2 : Int) ≤ 2 ^ (a.e - b.e).toNat := by
     have := Ag (n := 2) (by omega) (show 1 ≤ (a.e - b.e).toNat by omega)
     exact_mod_cast this
    have := Cb two n;have c1 : c ≤ 1 := by rw [hc]; split <;> decide
    omega
 have z : minusZ a b = a.m * 18446744073709551616 - b.m * 18446744073709551616 / 2 ^ (a.e - b.e).toNat - c := by unfold minusZ; rw [hcc]
 have h1 : D.hi = b.m * 18446744073709551616 / 2 ^ (a.e - b.e).toNat / 18446744073709551616 := by rw [hD]; rfl
 have h2 : D.lo = b.m * 18446744073709551616 / 2 ^ (a.e - b.e).toNat % 18446744073709551616 := by rw [hD]; rfl
 rw [z];have c0 : c = 0 ∨ c = 1 := by rw [hc]; split <;> simp
 generalize b.m * 18446744073709551616 / 2 ^ (a.e - b.e).toNat = L at *
 refine ⟨by omega, by omega, ?_, ?_, hcut⟩
 · rw [hhi, hbr, h1, h2]; split <;> omega
 · rw [hlo, h2]; omega
theorem sF {Z : Int} (h0 : 0 < Z) (hh : Z / 18446744073709551616 = 0) :
 128 - blen Z = 64 + (64 - blen (Z % 18446744073709551616)) ∧ Z * 2 ^ (128 - blen Z).toNat / 18446744073709551616 = Z % 18446744073709551616 * 2 ^ (64 - blen (Z % 18446744073709551616)).toNat ∧
  Z * 2 ^ (128 - blen Z).toNat % 18446744073709551616 = 0 ∧ 0 ≤ 64 - blen (Z % 18446744073709551616) ∧ Z % 18446744073709551616 * 2 ^ (64 - blen (Z % 18446744073709551616)).toNat < 18446744073709551616 := by
 have e : Z % 18446744073709551616 = Z := by omega
 rw [e];have bl := cQ 64 (x := Z) (by omega);have bn := aX Z;have f : (2 : Int) ^ (128 - blen Z).toNat = 2 ^ (64 - blen Z).toNat * 18446744073709551616 := by
  rw [show (128 - blen Z).toNat = (64 - blen Z).toNat + 64 by omega, Cw]; rfl
 refine ⟨by omega, ?_, ?_, by omega, ?_⟩
 · rw [f, ← Bh, Dg _ (by decide)]
 · rw [f, ← Bh, Int.mul_emod_left]
 · obtain ⟨n, n1, n2, n3⟩ := fC h0;have g : (18446744073709551616 : Int) = 2 ^ (n + 1) * 2 ^ (64 - blen Z).toNat := by
    rw [← Cw, show n + 1 + (64 - blen Z).toNat = 64 by omega]; rfl
   rw [g];exact Bb n3 (two_pos _)
theorem oK {Z : Int} (h0 : 0 < Z) (h1 : Z < 340282366920938463463374607431768211456) (hh : Z / 18446744073709551616 ≠ 0) :
 128 - blen Z = 64 - blen (Z / 18446744073709551616) ∧ 0 ≤ 64 - blen (Z / 18446744073709551616) ∧ 64 - blen (Z / 18446744073709551616) < 64 ∧ Z / 18446744073709551616 < 2 ^ (64 - (64 - blen (Z / 18446744073709551616))).toNat := by
 have d := kJ (x := Z) 64 (by show (18446744073709551616 : Int) ≤ Z; omega);rw [show (2 : Int) ^ 64 = 18446744073709551616 by decide] at d;have q0 : 0 < Z / 18446744073709551616 := by omega
 have bl := cQ 64 (x := Z / 18446744073709551616) (by omega);obtain ⟨n, n1, n2, n3⟩ := fC q0;refine ⟨by omega, by omega, by omega, ?_⟩;rw [show (64 - (64 - blen (Z / 18446744073709551616))).toNat = n + 1 by omega];exact n3
theorem xN {Z s : Int} (s0 : 0 ≤ s) (s1 : s < 64) : Z * 2 ^ s.toNat / 18446744073709551616 = Z / 18446744073709551616 * 2 ^ s.toNat + Z % 18446744073709551616 / 2 ^ (64 - s).toNat ∧
 Z * 2 ^ s.toNat % 18446744073709551616 = Z % 18446744073709551616 * 2 ^ s.toNat % 18446744073709551616 := by
 have p := two_pos s.toNat;have q := two_pos (64 - s).toNat;have e := rF (k := s) (by omega) (by omega);have z : Z = Z / 18446744073709551616 * 18446744073709551616 + Z % 18446744073709551616 := by omega
 generalize hZ : Z % 18446744073709551616 = l at *
 generalize hQ : Z / 18446744073709551616 = h at *
 have e1 : Z * 2 ^ s.toNat = l * 2 ^ s.toNat + (h * 2 ^ s.toNat) * 18446744073709551616 := by rw [z]; grind
 have e2 : l * 2 ^ s.toNat / 18446744073709551616 = l / 2 ^ (64 - s).toNat := by
  rw [e, Int.mul_ediv_mul_of_pos_left _ _ p]
 rw [e1];constructor
 · rw [Int.add_mul_ediv_right _ _ (by decide), e2]; omega
 · rw [Int.add_mul_emod_self_right]
theorem aAS {s : Int} (h : s ≤ 64) : min s.toNat IntKind.u64.bits = s.toNat := by show min s.toNat 64 = _; omega
theorem aDO (ha : a.Fin) (z0 : 0 < minusZ a b) (hA : minusZ a b / 18446744073709551616 = 0) :
 gC a b up = Num.grow a.neg (IntKind.u64.wrap ((BitVec.ofInt IntKind.u64.bits (IntKind.u64.wrap (minusZ a b % 18446744073709551616 * 2 ^ min (64 - blen (minusZ a b % 18446744073709551616)).toNat IntKind.u64.bits)) |||
   BitVec.ofInt IntKind.u64.bits (Int.fdiv 0 (2 ^ min (IntKind.i64.wrap (64 - (64 - blen (minusZ a b % 18446744073709551616)))).toNat IntKind.u64.bits))).toNat : Int))
  (IntKind.i64.wrap (IntKind.i64.wrap (a.e - 64) - (64 - blen (minusZ a b % 18446744073709551616)))) (eW a b || decide (IntKind.u64.wrap (0 * 2 ^ min (64 - blen (minusZ a b % 18446744073709551616)).toNat IntKind.u64.bits) ≠ 0)) (up != a.neg) := by
 obtain ⟨e1, e2, e3, e4, e5⟩ := sF z0 hA;have := ha.elo; have := ha.ehi;have bn := aX (minusZ a b % 18446744073709551616);unfold gC;rw [e2, e3, aAS (by omega)];have q := two_pos (64 - blen (minusZ a b % 18446744073709551616)).toNat;have nn := Bj (Bq (minusZ a b) (show (18446744073709551616 : Int) ≠ 0 by decide)) (Am q);rw [show (Int.fdiv 0 (2 ^ min (IntKind.i64.wrap (64 - (64 - blen (minusZ a b % 18446744073709551616)))).toNat IntKind.u64.bits)) = 0 by rw [gT (Am (two_pos _)), Int.zero_ediv]];generalize hx : minusZ a b % 18446744073709551616 * 2 ^ (64 - blen (minusZ a b % 18446744073709551616)).toNat = x at *
 rw [show IntKind.u64.wrap x = x by (rw [wu64]; omega), show IntKind.u64.wrap ((BitVec.ofInt IntKind.u64.bits x ||| BitVec.ofInt IntKind.u64.bits 0).toNat : Int) = x from or_0 x nn e5];rw [show IntKind.i64.wrap (IntKind.i64.wrap (a.e - 64) - (64 - blen (minusZ a b % 18446744073709551616))) = a.e - (128 - blen (minusZ a b)) by (simp only [wi64]; omega), Int.zero_mul, show IntKind.u64.wrap 0 = 0 by decide]
theorem aBB (ha : a.Fin) (z0 : 0 < minusZ a b) (hA : minusZ a b / 18446744073709551616 = 0) (hp : ¬ 0 < 64 - blen (minusZ a b % 18446744073709551616)) :
 gC a b up = Num.grow a.neg (minusZ a b % 18446744073709551616) (IntKind.i64.wrap (a.e - 64)) (eW a b || decide ((0 : Int) ≠ 0)) (up != a.neg) := by
 obtain ⟨e1, e2, e3, e4, e5⟩ := sF z0 hA;have := ha.elo; have := ha.ehi;unfold gC;rw [e2, e3, show 64 - blen (minusZ a b % 18446744073709551616) = 0 by omega, show IntKind.i64.wrap (a.e - 64) = a.e - (128 - blen (minusZ a b)) by (simp only [wi64]; omega)];simp
theorem aCS (ha : a.Fin) (z0 : 0 < minusZ a b) (z1 : minusZ a b < 340282366920938463463374607431768211456) (hB : minusZ a b / 18446744073709551616 ≠ 0) (hp : 0 < 64 - blen (minusZ a b / 18446744073709551616)) :
 gC a b up = Num.grow a.neg (IntKind.u64.wrap ((BitVec.ofInt IntKind.u64.bits (IntKind.u64.wrap (minusZ a b / 18446744073709551616 * 2 ^ min (64 - blen (minusZ a b / 18446744073709551616)).toNat IntKind.u64.bits)) |||
   BitVec.ofInt IntKind.u64.bits ((minusZ a b % 18446744073709551616).fdiv (2 ^ min (IntKind.i64.wrap (64 - (64 - blen (minusZ a b / 18446744073709551616)))).toNat IntKind.u64.bits))).toNat : Int))
  (IntKind.i64.wrap (a.e - (64 - blen (minusZ a b / 18446744073709551616)))) (eW a b || decide (IntKind.u64.wrap (minusZ a b % 18446744073709551616 * 2 ^ min (64 - blen (minusZ a b / 18446744073709551616)).toNat IntKind.u64.bits) ≠ 0)) (up != a.neg) := by
 obtain ⟨e1, e2, e3, e4⟩ := oK z0 z1 hB;have := ha.elo; have := ha.ehi;unfold gC;rw [e1];generalize hs : 64 - blen (minusZ a b / 18446744073709551616) = s at *
 obtain ⟨f1, f2⟩ := xN (Z := minusZ a b) e2 e3;rw [f1, f2, aAS (by omega), show IntKind.i64.wrap (64 - s) = 64 - s by (simp only [wi64]; omega), aAS (by omega), gT (Am (two_pos _)), aKX (by omega) e4 (by omega) (by omega) hp e3, wu64,
   show IntKind.i64.wrap (a.e - s) = a.e - s by (simp only [wi64]; omega)]
theorem aAQ (ha : a.Fin) (z0 : 0 < minusZ a b) (z1 : minusZ a b < 340282366920938463463374607431768211456) (hB : minusZ a b / 18446744073709551616 ≠ 0) (hp : ¬ 0 < 64 - blen (minusZ a b / 18446744073709551616)) :
 gC a b up = Num.grow a.neg (minusZ a b / 18446744073709551616) a.e (eW a b || decide (minusZ a b % 18446744073709551616 ≠ 0)) (up != a.neg) := by
 obtain ⟨e1, e2, e3, e4⟩ := oK z0 z1 hB;have e0 : 128 - blen (minusZ a b) = 0 := by omega
 unfold gC;rw [e0];simp
end
end
section
open Go
def Num.addS (a b : Num) (up : Bool) : Num := if a.neg = b.neg then mJ a b up else if a.e = b.e ∧ a.m = b.m then Num.zero else gC a b up
def Num.addF (a b : Num) (up : Bool) : Num := if a.e < b.e ∨ (a.e = b.e ∧ a.m < b.m) then Num.addS b a up else Num.addS a b up
def Num.add (a b : Num) (up : Bool) : Num :=
 if a.fair.kind = 2 ∧ b.fair.kind = 2 ∧ a.fair.neg ≠ b.fair.neg then Num.inf (!up)
 else if a.fair.kind = 2 ∨ b.fair.kind = 0 then a.fair else if b.fair.kind = 2 ∨ a.fair.kind = 0 then b.fair else Num.addF a.fair b.fair up
theorem E_br_t {P : Program} {E : Env} (hE : E = aB P) {c : Bool} {t f : Unit → Prop} (h : c = true) (ht : t ()) : E.br c t f := by
 subst hE; exact ⟨fun _ => ht, fun h' => (by rw [h] at h'; cases h')⟩
theorem fD {P : Program} {E : Env} (hE : E = aB P) {c : Bool} {t f : Unit → Prop} (h : c = false) (hf : f ()) : E.br c t f := by
 subst hE; exact ⟨fun h' => (by rw [h] at h'; cases h'), fun _ => hf⟩
def Num.ofInt (n : Int) : Num :=
 if n = 0 then Num.zero else ⟨1, decide (n < 0), IntKind.u64.wrap ((n.natAbs : Int) * 2 ^ min (Int.toNat (64 - blen n.natAbs)) IntKind.u64.bits), IntKind.i64.wrap (0 - (64 - blen n.natAbs))⟩
def Iv.iO (a b : Int) : Iv := Iv.make (Num.ofInt a) (Num.ofInt b)
theorem aLH {n : Int} (h0 : -9223372036854775808 ≤ n) (h : n < 0) : IntKind.u64.wrap (0 - IntKind.u64.wrap n) = (n.natAbs : Int) := by
 simp only [wu64]; omega
theorem aNK {n : Int} (h0 : 0 ≤ n) (h : n < 9223372036854775808) : IntKind.u64.wrap n = (n.natAbs : Int) := by
 simp only [wu64]; omega
theorem Num.dA (n : Int) : (Num.ofInt n).ok := by
 unfold Num.ofInt;split
 · exact Num.zero_ok
 · constructor <;> (simp only [wu64]; omega)
theorem Num.aAZ {neg cut away : Bool} {m e : Int} (h0 : 0 ≤ m) (h1 : m < 18446744073709551616) : (Num.grow neg m e cut away).ok := by
 have b : ∀ (m e : Int), 0 ≤ m → m < 18446744073709551616 → (Num.bound neg m e away).ok := by
  intro m e h0 h1;unfold Num.bound;repeat' split
  all_goals first | exact Num.mS _ | exact Num.zero_ok | exact ⟨h0, h1⟩ | (constructor <;> simp [Num.huge, Num.tiny, Num.top])
 unfold Num.grow;repeat' split
 all_goals (refine b _ _ ?_ ?_) <;> first | (simp only [wu64]; omega) | (simp [Num.top]) | assumption
theorem Iv.nK {lo hi : Num} (h1 : lo.ok) (h2 : hi.ok) : (Iv.make lo hi).lo.ok ∧ (Iv.make lo hi).hi.ok := by
 rcases Iv.make_cases h1 h2 with ⟨e, _⟩ | ⟨e, R⟩
 · rw [e]; exact ⟨Num.zero_ok, Num.zero_ok⟩
 · rw [e]; exact ⟨R.loo, R.hio⟩
theorem Iv.zJ (a b : Int) : (Iv.iO a b).lo.ok ∧ (Iv.iO a b).hi.ok := Iv.nK (Num.dA a) (Num.dA b)
theorem aKT {a b : Num} (ha : a.Fin) (hb : b.Fin) (up : Bool) : (mJ a b up).ok := by
 obtain ⟨n, _, _, _, l⟩ := oP ha hb rfl;unfold mJ;split <;> exact Num.aAZ (by omega) (by omega)
theorem aJM {a b : Num} (ha : a.Fin) (hb : b.Fin) (hk : b.e ≤ a.e) (hgt : b.e < a.e ∨ b.m < a.m) (up : Bool) : (gC a b up).ok := by
 obtain ⟨z0, z1, _, _, _⟩ := jS ha hb hk hgt rfl rfl rfl rfl rfl;unfold gC;by_cases h : minusZ a b / 18446744073709551616 = 0
 · obtain ⟨_, e2, _, _, e5⟩ := sF z0 h;rw [e2];exact Num.aAZ (Bj (by omega) (Am (two_pos _))) e5
 · obtain ⟨e1, e2, e3, e4⟩ := oK z0 z1 h;rw [e1];have q := two_pos (64 - blen (minusZ a b / 18446744073709551616)).toNat;refine Num.aAZ (Cc (Bj (by omega) (by omega)) (by decide)) ?_;generalize hs : 64 - blen (minusZ a b / 18446744073709551616) = s at *
   have e := rF (k := s) e2 (by omega);obtain ⟨f1, _⟩ := xN (Z := minusZ a b) e2 e3;have q' := two_pos (64 - s).toNat;have m1 : minusZ a b / 18446744073709551616 * 2 ^ s.toNat ≤ (2 ^ (64 - s).toNat - 1) * 2 ^ s.toNat := Af (by omega) (by omega);have m2 : (2 ^ (64 - s).toNat - 1) * (2 : Int) ^ s.toNat = 18446744073709551616 - 2 ^ s.toNat := by rw [e]; grind
   have d1 : minusZ a b % 18446744073709551616 / 2 ^ (64 - s).toNat < 2 ^ s.toNat := by
    rw [Int.ediv_lt_iff_lt_mul q', At, ← e]; omega
   rw [f1]; omega
theorem Num.aHF {a b : Num} (ha : a.Fin) (hb : b.Fin) (hk : b.e < a.e ∨ (b.e = a.e ∧ b.m ≤ a.m)) (up : Bool) : (Num.addS a b up).ok := by
 unfold Num.addS;split
 · exact aKT ha hb up
 · split
   · exact Num.zero_ok
   · exact aJM ha hb (by omega) (by omega) up
theorem Num.aMH {a b : Num} (ha : a.ok) (hb : b.ok) (up : Bool) : (Num.add a b up).ok := by
 unfold Num.add;split
 · exact Num.mS _
 · split
   · exact Num.fair_ok ha
   · split
     · exact Num.fair_ok hb
     · have fa := Num.sD (n := a) (by omega) (by omega);have fb := Num.sD (n := b) (by omega) (by omega);have FA : a.fair.Fin := ⟨fa.1, fa.2.1, (Num.fair_ok ha).2, fa.2.2.1, fa.2.2.2⟩
       have FB : b.fair.Fin := ⟨fb.1, fb.2.1, (Num.fair_ok hb).2, fb.2.2.1, fb.2.2.2⟩
       unfold Num.addF;split
       · exact Num.aHF FB FA (by omega) up
       · exact Num.aHF FA FB (by omega) up
theorem aOG {x : Int} (h : 0 < x) (h' : x < 18446744073709551616) : 0 ≤ 64 - blen x ∧ 64 - blen x < 64 ∧ 9223372036854775808 ≤ x * 2 ^ (64 - blen x).toNat ∧ x * 2 ^ (64 - blen x).toNat < 18446744073709551616 := by
 obtain ⟨n, n1, n2, n3⟩ := fC h;have bl := cQ 64 (x := x) (by omega);have q := two_pos (64 - blen x).toNat;refine ⟨by omega, by omega, ?_, ?_⟩
 · have g : (9223372036854775808 : Int) = 2 ^ n * 2 ^ (64 - blen x).toNat := by
    rw [← Cw, show n + (64 - blen x).toNat = 63 by omega]; rfl
   rw [g];exact Af n2 (Am q)
 · have g : (18446744073709551616 : Int) = 2 ^ (n + 1) * 2 ^ (64 - blen x).toNat := by
    rw [← Cw, show n + 1 + (64 - blen x).toNat = 64 by omega]; rfl
   rw [g];exact Bb n3 q
theorem rO {n : Int} (h : n ≠ 0) (h' : n.natAbs < 18446744073709551616) : (Num.ofInt n).Fin ∧ (Num.ofInt n).W = n.natAbs * pw 0 ∧ (Num.ofInt n).neg = decide (n < 0) := by
 obtain ⟨a1, a2, a3, a4⟩ := aOG (x := (n.natAbs : Int)) (by omega) (by omega);have e : Num.ofInt n = ⟨1, decide (n < 0), (n.natAbs : Int) * 2 ^ (64 - blen n.natAbs).toNat, -(64 - blen n.natAbs)⟩ := by
  unfold Num.ofInt;rw [if_neg h, aAS (by omega), show IntKind.u64.wrap ((n.natAbs : Int) * 2 ^ (64 - blen n.natAbs).toNat) = (n.natAbs : Int) * 2 ^ (64 - blen n.natAbs).toNat by (rw [wu64]; omega),
    show IntKind.i64.wrap (0 - (64 - blen n.natAbs)) = -(64 - blen n.natAbs) by (rw [wi64]; omega)]
 rw [e];have f : (Num.mk 1 (decide (n < 0)) ((n.natAbs : Int) * 2 ^ (64 - blen n.natAbs).toNat) (-(64 - blen n.natAbs))).Fin := ⟨rfl, a3, a4, by show -1048576 ≤ -(64 - blen n.natAbs); omega, by show -(64 - blen n.natAbs) ≤ 1048576; omega⟩
 refine ⟨f, ?_, rfl⟩;rw [f.W];show (n.natAbs : Int) * 2 ^ (64 - blen n.natAbs).toNat * pw (-(64 - blen n.natAbs)) = _;have p := eK (e := -(64 - blen n.natAbs)) (f := 64 - blen n.natAbs) (by omega) a1;rw [show -(64 - blen (n.natAbs : Int)) + (64 - blen n.natAbs) = 0 by omega] at p;rw [p]; grind
theorem aIV {n : Int} (h' : n.natAbs < 18446744073709551616) : (Num.ofInt n).val = n * pw 0 := by
 by_cases h : n = 0
 · subst h; show Num.zero.val = _; rw [Num.val_zero, Int.zero_mul]
 · obtain ⟨_, w, s⟩ := rO h h';unfold Num.val;rw [w, s];by_cases hn : n < 0
   · rw [if_pos (by simpa using hn), show n = -(n.natAbs : Int) by omega];rw [show ((-(n.natAbs : Int)).natAbs : Int) = n.natAbs by omega, Cd]
   · rw [if_neg (by simpa using hn), show (n.natAbs : Int) = n by omega]
structure Best (r : Num) (up : Bool) (t c : Int) : Prop where
 may : r.may = true
 ok : r.ok
 down : up = false → r ≠ Num.inf false ∧ (r = Num.inf true ∨ r.val * c ≤ t)
 dopt : up = false → ∀ s : Num, s.may = true → s.ok → s ≠ Num.inf false → s.val * c ≤ t → s.val ≤ r.val
 uopt : up = true → ∀ s : Num, s.may = true → s.ok → s ≠ Num.inf true → t ≤ s.val * c → r.val ≤ s.val
 hi : up = true → r ≠ Num.inf true ∧ (r = Num.inf false ∨ t ≤ r.val * c)
theorem Best.mono {r r' : Num} {up : Bool} {t c t' c' : Int} (h : Best r up t c) (h' : Best r' up t' c') (hc : 0 < c) (hc' : 0 < c') (ht : t * c' ≤ t' * c) : r.val ≤ r'.val := by
 have key : ∀ v : Int, v * c ≤ t → v * c' ≤ t' := by
  intro v hv;have h1 : v * c * c' ≤ t * c' := Af hv (Am hc');refine Cr (a := c) ?_ hc;have : v * c' * c = v * c * c' := by grind
  omega
 have key2 : ∀ v : Int, t' ≤ v * c' → t ≤ v * c := by
  intro v hv;have h1 : t' * c ≤ v * c' * c := Af hv (Am hc);refine Cr (a := c') ?_ hc';have : v * c' * c = v * c * c' := by grind
  omega
 cases up with
 | false =>
  obtain ⟨d1, d2⟩ := h.down rfl;rcases d2 with d2 | d2
  · have := (Num.oO h'.may h'.ok).1;rw [d2, Num.val_inf]
    simpa using this
  · exact h'.dopt rfl r h.may h.ok d1 (key _ d2)
 | true =>
  obtain ⟨d1, d2⟩ := h'.hi rfl;rcases d2 with d2 | d2
  · have := (Num.oO h.may h.ok).2;rw [d2, Num.val_inf]
    simpa using this
  · exact h.uopt rfl r' h'.may h'.ok d1 (key2 _ d2)
theorem Best.uniq {r r' : Num} {up : Bool} {t c t' c' : Int} (h : Best r up t c) (h' : Best r' up t' c') (hc : 0 < c) (hc' : 0 < c') (ht : t * c' = t' * c) : r = r' :=
 Num.val_inj h.may h'.may h.ok h'.ok (Int.le_antisymm (h.mono h' hc hc' (by omega)) (h'.mono h hc' hc (by omega)))
theorem pw_split {e f : Int} (h : -8388608 ≤ e) (h2 : e ≤ f) : pw f = 2 ^ (f - e).toNat * pw e := by
 have := eK (e := e) (f := f - e) h (by omega);rw [show e + (f - e) = f by omega] at this;rw [this, At]
theorem aOK {s : Num} (ms : s.may = true) (os : s.ok) (ks : s.kind ≠ 2) {m e : Int} (hm : 9223372036854775808 ≤ m) (he : -4194303 ≤ e) (h : s.W < (m + 1) * pw e) : s.W ≤ m * pw e := by
 have p := bG e;rcases Num.may3 ms os with k | k | k
 · rw [k, Num.mW]; exact Bj (by omega) (Am p)
 · rw [k.W] at h ⊢;have := k.hi; have := k.elo;rcases Bm s.e e with g | g
   · exact Am (lex_lt hm k.hi (by omega) g)
   · rw [pw_split (by omega) g, ← Bh] at h ⊢;have := Cq h (Am p);exact Af (by omega) (Am p)
 · rw [k] at ks; simp [Num.inf] at ks
theorem aPJ {s : Num} (ms : s.may = true) (os : s.ok) {m e : Int} (hm : 9223372036854775808 ≤ m) (he : -4194303 ≤ e) (h : m * pw e < s.W) : (m + 1) * pw e ≤ s.W := by
 have p := bG e;have up : ∀ (N f : Int), e ≤ f → m * pw e < N * pw f → (m + 1) * pw e ≤ N * pw f := by
  intro N f hf hN;rw [pw_split (by omega) hf, ← Bh] at hN ⊢;have := Cq hN (Am p);exact Af (by omega) (Am p)
 rcases Num.may3 ms os with k | k | k
 · rw [k, Num.mW] at h;have := Bj (show 0 ≤ m by omega) (Am p);omega
 · rw [k.W] at h ⊢;have := k.hi; have := k.elo;rcases Bm s.e e with g | g
   · have := lex_lt hm k.hi (by omega) g;omega
   · exact up _ _ g h
 · rw [k, Num.aHH] at h ⊢;rcases Bm 1048640 e with g | g
   · have h1 := aEP (e := 1048640) (by decide) g;have h2 : 1 * pw e ≤ m * pw e := Af (by omega) (Am p);have := bG 1048640;omega
   · have := up 1 1048640 g (by omega);omega
theorem W_nn (s : Num) (ms : s.may = true) (os : s.ok) : 0 ≤ s.W := by
 rcases Num.may3 ms os with k | k | k
 · rw [k, Num.mW]; exact Bc _
 · exact Am k.lt.1
 · rw [k, Num.aHH]; exact Am (bG _)
theorem aRG {s : Num} (ms : s.may = true) (os : s.ok) (ks : s.kind ≠ 2) : s.W ≤ 18446744073709551615 * pw 1048576 := by
 rcases Num.may3 ms os with k | k | k
 · rw [k, Num.mW]; exact Bj (by decide) (Am (bG _))
 · rw [k.W];have h1 := k.hi; have h2 := k.lo; have h3 := k.elo; have h4 := k.ehi;have h5 : s.m * pw s.e ≤ 18446744073709551615 * pw s.e := Af (by omega) (Am (bG _));have h6 : 18446744073709551615 * pw s.e ≤ 18446744073709551615 * pw 1048576 := Cb (iQ (by omega) h4) (by decide);omega
 · rw [k] at ks; simp [Num.inf] at ks
theorem aMW {s : Num} (ms : s.may = true) (os : s.ok) (h : 0 < s.W) : 9223372036854775808 * pw (-1048576) ≤ s.W := by
 rcases Num.may3 ms os with k | k | k
 · rw [k, Num.mW] at h; omega
 · rw [k.W];have h1 := k.hi; have h2 := k.lo; have h3 := k.elo; have h4 := k.ehi;have h5 : 9223372036854775808 * pw s.e ≤ s.m * pw s.e := Af h2 (Am (bG _));have h6 : 9223372036854775808 * pw (-1048576) ≤ 9223372036854775808 * pw s.e := Cb (iQ (by decide) h3) (by decide);omega
 · rw [k, Num.aHH];have h6 : pw (-1048576 + 63) ≤ pw 1048640 := iQ (by decide) (by decide);rw [aQQ (by decide)] at h6;omega
theorem mag_dn {neg cut : Bool} {m e : Int} (hm : 9223372036854775808 ≤ m) (hm' : m < 18446744073709551616) (he : -4194303 ≤ e) {s : Num} (ms : s.may = true) (os : s.ok) (ks : s.kind ≠ 2)
 (h : s.W < (m + 1) * pw e) : s.W ≤ (Num.grow neg m e cut false).W := by
 unfold Num.grow;rw [if_neg (by simp)];unfold Num.bound;by_cases h1 : 1048576 < e
 · rw [if_pos h1, if_neg (by decide)];exact aRG ms os ks
 · rw [if_neg h1];by_cases h2 : e < -1048576
   · rw [if_pos h2, if_neg (by decide), Num.mW];rcases Bm 0 s.W with h3 | h3
     · have h4 := aMW ms os h3;have h5 : (m + 1) * pw e ≤ 18446744073709551616 * pw e := Af (by omega) (Am (bG _));have h6 := aEP (e := e) (f := -1048576) (by omega) h2;omega
     · exact h3
   · rw [if_neg h2];have f : (Num.mk 1 neg m e).Fin := ⟨rfl, hm, hm', by show -1048576 ≤ e; omega, by show e ≤ 1048576; omega⟩
     rw [f.W];exact aOK ms os ks hm he h
theorem wT {neg : Bool} {m e : Int} (hm : 9223372036854775808 ≤ m) (hm' : m < 18446744073709551616) (he : -4194303 ≤ e) {s : Num} (ms : s.may = true) (os : s.ok)
 (h : m * pw e ≤ s.W) : (Num.bound neg m e true).W ≤ s.W := by
 unfold Num.bound;by_cases h1 : 1048576 < e
 · rw [if_pos h1, if_pos rfl, Num.aHH];have h2 : pw (1048577 + 63) ≤ pw (e + 63) := iQ (by decide) (by omega);rw [aQQ (e := e) (by omega), show (1048577 + 63 : Int) = 1048640 by decide] at h2;have h3 : 9223372036854775808 * pw e ≤ m * pw e := Af hm (Am (bG _));omega
 · rw [if_neg h1];by_cases h2 : e < -1048576
   · rw [if_pos h2, if_pos rfl];have h3 : 0 < m * pw e := Df (by omega) (bG _);exact aMW ms os (by omega)
   · rw [if_neg h2];have f : (Num.mk 1 neg m e).Fin := ⟨rfl, hm, hm', by show -1048576 ≤ e; omega, by show e ≤ 1048576; omega⟩
     rw [f.W];exact h
theorem mag_up {neg cut : Bool} {m e : Int} (hm : 9223372036854775808 ≤ m) (hm' : m < 18446744073709551616) (he : -4194303 ≤ e) (he' : e ≤ 4194303) {s : Num} (ms : s.may = true) (os : s.ok)
 (h : if cut then m * pw e < s.W else m * pw e ≤ s.W) : (Num.grow neg m e cut true).W ≤ s.W := by
 unfold Num.grow;cases cut with
 | false =>
  rw [if_neg (by decide)] at h;rw [if_neg (by decide)];exact wT hm hm' he ms os h
 | true =>
  rw [if_pos rfl] at h;rw [if_pos (by decide)];have h' := aPJ ms os hm he h;by_cases h0 : IntKind.u64.wrap (m + 1) = 0
  · rw [if_pos h0];have em : m + 1 = 18446744073709551616 := by rw [wu64] at h0; omega
    have ee : IntKind.i64.wrap (e + 1) = e + 1 := by rw [wi64]; omega
    rw [ee];have et : Num.top = 9223372036854775808 := rfl;rw [et];refine wT (by omega) (by omega) (by omega) ms os ?_;rw [tY (by omega)];rw [em] at h';omega
  · rw [if_neg h0];have em : IntKind.u64.wrap (m + 1) = m + 1 := by rw [wu64] at h0 ⊢; omega
    have hlt : m + 1 < 18446744073709551616 := by rw [wu64] at h0; omega
    rw [em];exact wT (by omega) hlt (by omega) ms os h'
theorem Num.val_of {s : Num} (ms : s.may = true) (os : s.ok) : (0 ≤ s.val ∧ s.val = s.W) ∨ (s.val < 0 ∧ s.val = -s.W) := by
 have := W_nn s ms os;unfold Num.val;by_cases h : s.neg = true
 · rw [if_pos h];rcases Bm 0 s.W with g | g
   · right; omega
   · left; omega
 · rw [if_neg h]; left; omega
theorem kF {neg cut up : Bool} {m e T c : Int} (hm : 9223372036854775808 ≤ m) (hm' : m < 18446744073709551616) (he : -4194303 ≤ e) (he' : e ≤ 4194303) (hc : 0 < c)
 (h : if cut then m * pw e * c < T ∧ T < (m + 1) * pw e * c else T = m * pw e * c) : Best (Num.grow neg m e cut (up != neg)) up (if neg then -T else T) c := by
 have p := bG e;have p1 : 0 < m * pw e := Df (by omega) p;have p2 : 0 < m * pw e * c := Df p1 hc;have p3 : m * pw e * c ≤ T ∧ T < (m + 1) * pw e * c := by
  cases cut with
  | true => exact ⟨Am h.1, h.2⟩
  | false =>
   have h : T = m * pw e * c := h;have : (m + 1) * pw e * c = m * pw e * c + pw e * c := by grind
   have : 0 < pw e * c := Df p hc;omega
 have S : Side (Num.grow neg m e cut (up != neg)) up (if neg then -T else T) c := by
  refine (uP (neg := neg) (cut := cut) (away := up != neg) hm hm' (e := e) he he').side p3.1 ?_ (by omega) (Am hc);cases cut with
  | true => rw [if_pos rfl]; exact Am p3.2
  | false => rw [if_neg (by decide)]; exact Int.le_of_eq h
 have dn : ∀ s : Num, s.may = true → s.ok → s.kind ≠ 2 → s.W * c ≤ T → s.W ≤ (Num.grow neg m e cut false).W := by
  intro s ms os ks hs;refine mag_dn hm hm' he ms os ks ?_;exact Cq (a := c) (by omega) (Am hc)
 have upw : ∀ s : Num, s.may = true → s.ok → T ≤ s.W * c → (Num.grow neg m e cut true).W ≤ s.W := by
  intro s ms os hs;refine mag_up hm hm' he he' ms os ?_;cases cut with
  | true => exact Cq (a := c) (by have := h.1; omega) (Am hc)
  | false =>
   have h : T = m * pw e * c := h;exact Cr (a := c) (by omega) hc
 have neg_mul : ∀ s : Num, -s.W * c = -(s.W * c) := fun s => Cd _ _
 refine ⟨S.may, S.ok, S.down, ?_, ?_, S.up⟩
 · intro hu s ms os hs hv;subst hu;have R := uP (neg := neg) (cut := cut) (away := false != neg) hm hm' (e := e) he he';cases neg with
   | false =>
    have hr : (Num.grow false m e cut (false != false)).val = (Num.grow false m e cut false).W := by
     rcases R.neg with k | k
     · have : (Num.grow false m e cut (false != false)).W = 0 := by unfold Num.W; rw [if_pos k]
       rcases Num.val_of R.may R.ok with q | q
       · exact q.2
       · show _ = (Num.grow false m e cut (false != false)).W;omega
     · unfold Num.val; rw [if_neg (by rw [k]; decide)]; rfl
    rw [hr];have r0 := W_nn _ R.may R.ok;rcases Num.val_of ms os with q | q
    · rw [q.2];refine dn s ms os ?_ (by rw [← q.2]; exact hv);intro k;have e1 := Num.mD ms os k;cases hn : s.neg with
      | false => exact hs (by rw [e1, hn])
      | true =>
       rw [e1, hn, Num.val_inf] at q;have := bG 1048640;simp at q;omega
    · have : 0 ≤ s.W := W_nn s ms os;show s.val ≤ (Num.grow false m e cut (false != false)).W;omega
   | true =>
    have hr : (Num.grow true m e cut (false != true)).val = -(Num.grow true m e cut true).W := by
     rcases R.neg with k | k
     · exact absurd k (R.up rfl).1
     · unfold Num.val; rw [if_pos k]; rfl
    rw [hr];simp only [if_true] at hv;rcases Num.val_of ms os with q | q
    · exfalso;have := Bj q.1 (Am hc);omega
    · rw [q.2] at hv ⊢;rw [neg_mul] at hv;have := upw s ms os (by omega);omega
 · intro hu s ms os hs hv;subst hu;have R := uP (neg := neg) (cut := cut) (away := true != neg) hm hm' (e := e) he he';cases neg with
   | false =>
    have hr : (Num.grow false m e cut (true != false)).val = (Num.grow false m e cut true).W := by
     rcases R.neg with k | k
     · exact absurd k (R.up rfl).1
     · unfold Num.val; rw [if_neg (by rw [k]; decide)]; rfl
    rw [hr];simp only [Br, if_false] at hv;rcases Num.val_of ms os with q | q
    · rw [q.2] at hv ⊢;exact upw s ms os hv
    · exfalso;have := Bj (W_nn s ms os) (Am hc);rw [q.2, neg_mul] at hv;omega
   | true =>
    have hr : (Num.grow true m e cut (true != true)).val = -(Num.grow true m e cut false).W := by
     rcases R.neg with k | k
     · have : (Num.grow true m e cut (true != true)).W = 0 := by unfold Num.W; rw [if_pos k]
       rcases Num.val_of R.may R.ok with q | q
       · show _ = -(Num.grow true m e cut (true != true)).W;omega
       · exact q.2
     · unfold Num.val; rw [if_pos k]; rfl
    rw [hr];have r0 := W_nn _ R.may R.ok;simp only [if_true] at hv;rcases Num.val_of ms os with q | q
    · have : 0 ≤ s.W := W_nn s ms os;show -(Num.grow true m e cut (true != true)).W ≤ s.val;omega
    · rw [q.2] at hv ⊢;rw [neg_mul] at hv;have := dn s ms os (by
        intro k;have e1 := Num.mD ms os k;cases hn : s.neg with
        | true => exact hs (by rw [e1, hn])
        | false =>
          rw [e1, hn, Num.val_inf] at q;have := bG 1048640;simp at q;omega) (by omega)
      omega
theorem aPE {N d P e c : Int} (hd : 0 < d) (hP : 0 < P) (hs : pw e * c = d * P) :
 if decide (N % d ≠ 0) = true then N / d * pw e * c < N * P ∧ N * P < (N / d + 1) * pw e * c else N * P = N / d * pw e * c := by
 have e1 := Bw N d;have e2 := Bq N (show d ≠ 0 by omega);have e3 := Cf N hd;have a1 : ∀ q : Int, q * pw e * c = d * q * P := fun q => by rw [Bh, hs]; grind
 rw [a1, a1];split
 · rename_i h;simp only [Ab] at h;constructor
   · exact Bb (by omega) hP
   · refine Bb ?_ hP;have : d * (N / d + 1) = d * (N / d) + d := by grind
     omega
 · rename_i h;simp only [Ab, Classical.not_not] at h;congr 1;omega
theorem qM {neg up : Bool} {N d P e c : Int} (hd : 0 < d) (hP : 0 < P) (hs : pw e * c = d * P) (hc : 0 < c) (h1 : 9223372036854775808 ≤ N / d) (h2 : N / d < 18446744073709551616) (he : -4194303 ≤ e) (he' : e ≤ 4194303) :
 Best (Num.grow neg (N / d) e (decide (N % d ≠ 0)) (up != neg)) up (if neg then -(N * P) else N * P) c :=
 kF h1 h2 he he' hc (aPE hd hP hs)
theorem aET {N d : Int} (hd : 0 < d) {l u : Int} (h1 : d * l ≤ N) (h2 : N < d * u) : l ≤ N / d ∧ N / d < u :=
 ⟨(Cm hd).2 (by rw [At]; exact h1), Eb hd (by rw [At]; exact h2)⟩
theorem aAA {N K D : Int} (hK : 0 < K) (hD : 0 < D) : N / K / D = N / (K * D) ∧ (decide (N % K ≠ 0) || decide (N / K % D ≠ 0)) = decide (N % (K * D) ≠ 0) := by
 have h0 : N / K / D = N / (K * D) := Int.ediv_ediv_of_nonneg (Am hK);refine ⟨h0, ?_⟩;have h : N % (K * D) = N % K + K * (N / K % D) := by
  have e1 := Bw N K;have e2 := Bw (N / K) D;have e3 := Bw N (K * D);rw [h0] at e2;have e4 : K * (D * (N / (K * D)) + N / K % D) = K * D * (N / (K * D)) + K * (N / K % D) := by rw [Dx, Bh]
  rw [e2] at e4;omega
 have h1 := Bq N (show K ≠ 0 by omega);have h2 := Bq (N / K) (show D ≠ 0 by omega);have h3 : 0 ≤ K * (N / K % D) := Bj (Am hK) h2;have h4 : N / K % D ≠ 0 → 0 < K * (N / K % D) := fun g => Df hK (by omega)
 rw [← Bool.decide_or, Bk, h];generalize N / K % D = y at *
 by_cases g : y = 0
 · subst g; simp
 · have := h4 g;constructor
   · intro _; omega
   · intro _; exact .inr g
theorem plus_eq {a b : Num} : plusX a b = (a.m * 2 ^ (a.e - b.e).toNat + b.m) * 18446744073709551616 / 2 ^ (a.e - b.e).toNat ∧ eW a b = decide ((a.m * 2 ^ (a.e - b.e).toNat + b.m) * 18446744073709551616 % 2 ^ (a.e - b.e).toNat ≠ 0) := by
 have p := two_pos (a.e - b.e).toNat;have e : (a.m * 2 ^ (a.e - b.e).toNat + b.m) * 18446744073709551616 = b.m * 18446744073709551616 + a.m * 18446744073709551616 * 2 ^ (a.e - b.e).toNat := by grind
 unfold plusX eW;rw [e];constructor
 · rw [Int.add_mul_ediv_right _ _ (by omega), Int.add_comm]
 · rw [Int.add_mul_emod_self_right]
theorem vU {N M K D : Int} (hM : 0 < M) : N * M / (K * (M * D)) = N / (K * D) ∧ decide (N * M % (K * (M * D)) ≠ 0) = decide (N % (K * D) ≠ 0) := by
 have e : K * (M * D) = M * (K * D) := Int.mul_left_comm ..;rw [e, At N M];constructor
 · exact Ds _ _ hM
 · rw [Int.mul_emod_mul_of_pos _ _ hM, Bk];constructor
   · intro h g; exact h (by rw [g]; simp)
   · intro h g;rcases Int.mul_eq_zero.1 g with q | q
     · omega
     · exact h q
theorem aGB {a b : Num} (ha : a.Fin) (hb : b.Fin) (hk : b.e ≤ a.e) (hs : a.neg = b.neg) (up : Bool) : Best (mJ a b up) up (a.val + b.val) 1 := by
 have := ha.lo; have := ha.hi; have := ha.elo; have := ha.ehi;have := hb.lo; have := hb.hi; have := hb.elo; have := hb.ehi;have p := two_pos (a.e - b.e).toNat;have pb := bG b.e;have ea := pw_split (e := b.e) (f := a.e) (by omega) hk;have hv : a.val + b.val = if a.neg then -((a.m * 2 ^ (a.e - b.e).toNat + b.m) * pw b.e) else (a.m * 2 ^ (a.e - b.e).toNat + b.m) * pw b.e := by
  unfold Num.val;rw [← hs, ha.W, hb.W, ea];cases a.neg <;> simp <;> grind
 rw [hv];unfold mJ;rw [plus_eq.1, plus_eq.2];generalize hN : a.m * 2 ^ (a.e - b.e).toNat + b.m = N at *
 have b1 : 2 ^ (a.e - b.e).toNat * 9223372036854775808 ≤ N := by
  have : 9223372036854775808 * 2 ^ (a.e - b.e).toNat ≤ a.m * 2 ^ (a.e - b.e).toNat := Af (by omega) (Am p);omega
 have b2 : N < 2 ^ (a.e - b.e).toNat * 36893488147419103232 := by
  have h1 : a.m * 2 ^ (a.e - b.e).toNat ≤ 18446744073709551615 * 2 ^ (a.e - b.e).toNat := Af (by omega) (Am p);omega
 generalize (2 : Int) ^ (a.e - b.e).toNat = K at *
 obtain ⟨q1, q2⟩ := aAA (N := N * 18446744073709551616) (K := K) (D := 18446744073709551616) p (by decide);obtain ⟨q3, q4⟩ := aAA (N := N * 18446744073709551616) (K := K) (D := 36893488147419103232) p (by decide);obtain ⟨r1, r2⟩ := vU (N := N) (M := 18446744073709551616) (K := K) (D := 1) (by decide);obtain ⟨r3, r4⟩ := vU (N := N) (M := 18446744073709551616) (K := K) (D := 2) (by decide);rw [show (18446744073709551616 : Int) * 1 = 18446744073709551616 by decide] at r1 r2;rw [show (18446744073709551616 : Int) * 2 = 36893488147419103232 by decide] at r3 r4;rw [q2, q4, q1, q3, r1, r2, r3, r4, Int.mul_one];split
 · rename_i h;have h3 : N / K < 18446744073709551616 := by
    rw [← Int.mul_one K, ← r1, ← q1];exact Eb (by decide) (by omega)
   exact qM p pb (by rw [ea]; grind) (by decide) (aET p b1 b2).1 h3 (by omega) (by omega)
 · rename_i h;have h3 : 9223372036854775808 ≤ N / (K * 2) := by
    rw [← r3, ← q3];exact (Cm (by decide)).2 (by omega)
   exact qM (by omega) pb (by rw [tY (by omega), ea]; grind) (by decide) h3 (Eb (by omega) (by omega)) (by omega) (by omega)
theorem aPI {x K : Int} (hK : 0 < K) : (-x) / K = -(x / K) - (if decide (x % K ≠ 0) = true then 1 else 0) ∧ decide ((-x) % K ≠ 0) = decide (x % K ≠ 0) := by
 have e1 := Bw x K;have e2 := Bq x (show K ≠ 0 by omega);have e3 := Cf x hK;have f1 := Bw (-x) K;have f2 := Bq (-x) (show K ≠ 0 by omega);have f3 := Cf (-x) hK;have g : K * (x / K + (-x) / K) = -(x % K + (-x) % K) := by rw [Dx]; omega
 generalize x / K = p at *
 generalize (-x) / K = q at *
 generalize x % K = r at *
 generalize (-x) % K = s at *
 have h1 : p + q ≤ 0 := by
  rcases Bm 0 (p + q) with h | h
  · have := Cb (c := K) (show 1 ≤ p + q by omega) (by omega);omega
  · exact h
 have h2 : -1 ≤ p + q := by
  rcases Bm (p + q) (-1) with h | h
  · have := Cb (c := K) (show p + q ≤ -2 by omega) (by omega);omega
  · exact h
 rcases (show p + q = 0 ∨ p + q = -1 by omega) with h | h
 · rw [h] at g;simp only [Int.mul_zero] at g;have hr : r = 0 := by omega
   have hs : s = 0 := by omega
   subst hr; subst hs;exact ⟨by simp; omega, rfl⟩
 · rw [h] at g;have hr : r ≠ 0 := by intro hr; omega
   have hs : s ≠ 0 := by intro hs; omega
   exact ⟨by simp [hr]; omega, by simp [hr, hs]⟩
theorem aNC {a b : Num} : minusZ a b = (a.m * 2 ^ (a.e - b.e).toNat - b.m) * 18446744073709551616 / 2 ^ (a.e - b.e).toNat ∧
 eW a b = decide ((a.m * 2 ^ (a.e - b.e).toNat - b.m) * 18446744073709551616 % 2 ^ (a.e - b.e).toNat ≠ 0) := by
 have p := two_pos (a.e - b.e).toNat;have e : (a.m * 2 ^ (a.e - b.e).toNat - b.m) * 18446744073709551616 = -(b.m * 18446744073709551616) + a.m * 18446744073709551616 * 2 ^ (a.e - b.e).toNat := by grind
 obtain ⟨n1, n2⟩ := aPI (x := b.m * 18446744073709551616) p;unfold minusZ eW;rw [e];constructor
 · rw [Int.add_mul_ediv_right _ _ (by omega), n1];omega
 · rw [Int.add_mul_emod_self_right, n2]
theorem aCW {a b : Num} (ha : a.Fin) (hb : b.Fin) (hk : b.e ≤ a.e) (hgt : b.e < a.e ∨ b.m < a.m) (hs : a.neg ≠ b.neg) (up : Bool) : Best (gC a b up) up (a.val + b.val) 1 := by
 have := ha.lo; have := ha.hi; have := ha.elo; have := ha.ehi;have := hb.lo; have := hb.hi; have := hb.elo; have := hb.ehi;have p := two_pos (a.e - b.e).toNat;have ea := pw_split (e := b.e) (f := a.e) (by omega) hk;have hv : a.val + b.val = if a.neg then -((a.m * 2 ^ (a.e - b.e).toNat - b.m) * 18446744073709551616 * pw (b.e - 64)) else (a.m * 2 ^ (a.e - b.e).toNat - b.m) * 18446744073709551616 * pw (b.e - 64) := by
  have e64 := aKW (e := b.e - 64) (by omega);rw [show b.e - 64 + 64 = b.e by omega] at e64;have : (a.m * 2 ^ (a.e - b.e).toNat - b.m) * 18446744073709551616 * pw (b.e - 64) = a.m * pw a.e - b.m * pw b.e := by rw [ea, e64]; grind
  rw [this];unfold Num.val;rw [ha.W, hb.W];have hbn : b.neg = !a.neg := by cases h : a.neg <;> cases h2 : b.neg <;> simp_all
  rw [hbn];cases a.neg <;> simp <;> omega
 obtain ⟨z0, z1, _, _, _⟩ := jS ha hb hk hgt rfl rfl rfl rfl rfl;obtain ⟨n, k1, k2, k3⟩ := fC z0;have bl := cQ 128 (x := minusZ a b) (by exact z1);have pb := bG (b.e - 64);rw [hv];unfold gC;obtain ⟨hZ, hC⟩ := aNC (a := a) (b := b);have hKN : a.m * 2 ^ (a.e - b.e).toNat - b.m ≥ 9223372036854775808 * 2 ^ (a.e - b.e).toNat - 18446744073709551616 := by
  have : 9223372036854775808 * 2 ^ (a.e - b.e).toNat ≤ a.m * 2 ^ (a.e - b.e).toNat := Af (by omega) (Am p);omega
 rw [hC];generalize hN : (a.m * 2 ^ (a.e - b.e).toNat - b.m) * 18446744073709551616 = N at *
 generalize minusZ a b = Z at *
 have big1 : 170141183460469231731687303715884105728 ≤ Z * 2 ^ (128 - blen Z).toNat := by
  have g : (170141183460469231731687303715884105728 : Int) = 2 ^ n * 2 ^ (128 - blen Z).toNat := by
   rw [← Cw, show n + (128 - blen Z).toNat = 127 by omega]; rfl
  rw [g];exact Af k2 (Am (two_pos _))
 have big2 : Z * 2 ^ (128 - blen Z).toNat < 340282366920938463463374607431768211456 := by
  have g : (340282366920938463463374607431768211456 : Int) = 2 ^ (n + 1) * 2 ^ (128 - blen Z).toNat := by
   rw [← Cw, show n + 1 + (128 - blen Z).toNat = 128 by omega]; rfl
  rw [g];exact Bb k3 (two_pos _)
 have m1 : 9223372036854775808 ≤ Z * 2 ^ (128 - blen Z).toNat / 18446744073709551616 := by omega
 have m2 : Z * 2 ^ (128 - blen Z).toNat / 18446744073709551616 < 18446744073709551616 := by omega
 generalize hS : 128 - blen Z = s at *
 have s0 : 0 ≤ s := by omega
 by_cases h64 : s ≤ 64
 · have e64 := rF (k := s) s0 h64;have q := two_pos s.toNat;have q' := two_pos (64 - s).toNat;obtain ⟨r1, r2⟩ := vU (N := Z) (M := 2 ^ s.toNat) (K := 1) (D := 2 ^ (64 - s).toNat) q;rw [Int.one_mul, Int.one_mul, At (2 ^ s.toNat) (2 ^ (64 - s).toNat), ← e64] at r1 r2;rw [r1] at m1 m2 ⊢;rw [r2];obtain ⟨c1, c2⟩ := aAA (N := N) (K := 2 ^ (a.e - b.e).toNat) (D := 2 ^ (64 - s).toNat) p q';rw [hZ] at m1 m2 ⊢;rw [c1] at m1 m2;rw [c1, c2];refine qM (Df p q') pb ?_ (by decide) m1 m2 (by omega) (by omega);rw [Int.mul_one, pw_split (e := b.e - 64) (f := a.e - s) (by omega) (by omega)];congr 1;rw [← Cw];congr 1;omega
 · have hz64 : Z < 18446744073709551616 := by
    have : (2 : Int) ^ (n + 1) ≤ 2 ^ 64 := by
     have := Ag (n := 2) (by omega) (show n + 1 ≤ 64 by omega);have e1 : ((2 ^ (n + 1) : Nat) : Int) = (2 : Int) ^ (n + 1) := by push_cast; rfl
     rw [← e1]; exact Int.ofNat_le.2 this
    have e2 : (2 : Int) ^ 64 = 18446744073709551616 := by decide
    omega
   have hcf : N % 2 ^ (a.e - b.e).toNat = 0 := by
    by_cases hk64 : a.e - b.e ≤ 64
    · have e64 := rF (k := a.e - b.e) (by omega) hk64;rw [← hN, e64, ← Bh, Int.mul_emod_left]
    · exfalso;have hK : 36893488147419103232 ≤ (2 : Int) ^ (a.e - b.e).toNat := by
       have := Ag (n := 2) (by omega) (show 65 ≤ (a.e - b.e).toNat by omega);have e1 : ((2 ^ (a.e - b.e).toNat : Nat) : Int) = (2 : Int) ^ (a.e - b.e).toNat := by push_cast; rfl
       rw [← e1]; exact Int.ofNat_le.2 this
      have : 18446744073709551616 ≤ N / 2 ^ (a.e - b.e).toNat := by
       refine (Cm p).2 ?_;rw [← hN];generalize (2 : Int) ^ (a.e - b.e).toNat = K at *
       generalize a.m * K - b.m = M at *
       omega
      omega
   have e1 : Z * 2 ^ s.toNat = Z * 2 ^ (s - 64).toNat * 18446744073709551616 := by
    rw [Bh];congr 1;rw [show (18446744073709551616 : Int) = 2 ^ 64 by decide, ← Cw];congr 1;omega
   have e2 : Z * 2 ^ s.toNat % 18446744073709551616 = 0 := by rw [e1]; exact Int.mul_emod_left _ _
   have e3 : Z * 2 ^ s.toNat / 18446744073709551616 = Z * 2 ^ (s - 64).toNat := by rw [e1]; exact Dg _ (by decide)
   rw [hcf, e2];refine kF (cut := _) m1 m2 (by omega) (by omega) (by decide) ?_;simp only [ne_eq, not_true_eq_false, decide_false, Bool.or_self, Br, if_false];rw [e3, Int.mul_one];have e4 : N = Z * 2 ^ (a.e - b.e).toNat := by
    have := Bw N (2 ^ (a.e - b.e).toNat);rw [← hZ, hcf] at this;rw [At Z];omega
   have e5 := pw_split (e := b.e - 64) (f := a.e - 64) (by omega) (by omega);rw [show a.e - 64 - (b.e - 64) = a.e - b.e by omega] at e5;have e6 := pw_split (e := a.e - s) (f := a.e - 64) (by omega) (by omega);rw [show a.e - 64 - (a.e - s) = s - 64 by omega] at e6;rw [e4, Bh, ← e5, e6, Bh]
theorem Best.self {r : Num} {up : Bool} (m : r.may = true) (o : r.ok) (k : r.kind ≠ 2) {t c : Int} (hc : 0 < c) (ht : r.val * c = t) : Best r up t c := by
 have n : ∀ b, r ≠ Num.inf b := fun b g => k (by rw [g]; rfl)
 refine ⟨m, o, fun _ => ⟨n _, .inr (by omega)⟩, fun _ x _ _ _ hx => ?_, fun _ x _ _ _ hx => ?_, fun _ => ⟨n _, .inr (by omega)⟩⟩
 · exact Cr (a := c) (by omega) hc
 · exact Cr (a := c) (by omega) hc
theorem Num.wG {a : Num} (oa : a.ok) (k0 : a.fair.kind ≠ 0) (k2 : a.fair.kind ≠ 2) : a.fair.Fin := by
 rcases Num.may3 a.fair_may (Num.fair_ok oa) with h | h | h
 · rw [h] at k0; simp [Num.zero] at k0
 · exact h
 · rw [h] at k2; simp [Num.inf] at k2
theorem Num.rS {a : Num} (oa : a.ok) (k0 : a.fair.kind = 0) : a.fair = Num.zero := by
 rcases Num.may3 a.fair_may (Num.fair_ok oa) with h | h | h
 · exact h
 · have := h.kind; omega
 · rw [h] at k0; simp [Num.inf] at k0
theorem yT {a b : Num} (ha : a.Fin) (hb : b.Fin) (hk : b.e < a.e ∨ (b.e = a.e ∧ b.m ≤ a.m)) (up : Bool) : Best (Num.addS a b up) up (a.val + b.val) 1 := by
 unfold Num.addS;split
 · exact aGB ha hb (by omega) ‹_› up
 · rename_i hn;split
   · rename_i h;refine Best.self Num.zero_may Num.zero_ok (by decide) (by decide) ?_;rw [Num.val_zero];unfold Num.val;rw [ha.W, hb.W, h.1, h.2];have hbn : b.neg = !a.neg := by cases h : a.neg <;> cases h2 : b.neg <;> simp_all
     rw [hbn];cases a.neg <;> simp <;> omega
   · exact aCW ha hb (by omega) (by omega) hn up
theorem jL {a b : Num} (oa : a.ok) (ob : b.ok) (ka : a.fair.kind ≠ 2) (kb : b.fair.kind ≠ 2) (up : Bool) : Best (Num.add a b up) up (a.fair.val + b.fair.val) 1 := by
 unfold Num.add;rw [if_neg (by omega)];split
 · rename_i h;have h : b.fair.kind = 0 := by omega
   exact Best.self a.fair_may (Num.fair_ok oa) ka (by decide) (by rw [Num.rS ob h, Num.val_zero]; omega)
 · split
   · rename_i h;have h : a.fair.kind = 0 := by omega
     exact Best.self b.fair_may (Num.fair_ok ob) kb (by decide) (by rw [Num.rS oa h, Num.val_zero]; omega)
   · have FA := Num.wG oa (by omega) ka;have FB := Num.wG ob (by omega) kb;unfold Num.addF;split
     · rw [Int.add_comm]; exact yT FB FA (by omega) up
     · exact yT FA FB (by omega) up
def dyv (p : Bool × Nat × Int) : Int := if p.1 then -((p.2.1 : Int) * pw p.2.2) else (p.2.1 : Int) * pw p.2.2
theorem aFA {neg away : Bool} {m e : Int} : Num.bound neg m e away = Num.grow neg m e false away := by
 unfold Num.grow; rw [if_neg (by simp)]
theorem Best.scale {r : Num} {up : Bool} {t c : Int} (h : Best r up t 1) (hc : 0 < c) : Best r up (t * c) c := by
 refine ⟨h.may, h.ok, fun u => ⟨(h.down u).1, ?_⟩, fun u s ms os ks hs => ?_, fun u s ms os ks hs => ?_, fun u => ⟨(h.hi u).1, ?_⟩⟩
 · rcases (h.down u).2 with k | k
   · exact .inl k
   · exact .inr (Af (by omega) (Am hc))
 · exact h.dopt u s ms os ks (by have := Cr hs hc; omega)
 · exact h.uopt u s ms os ks (by have := Cr hs hc; omega)
 · rcases (h.hi u).2 with k | k
   · exact .inl k
   · exact .inr (Af (by omega) (Am hc))
theorem aBS {ng : Bool} {k : Nat} {e : Int} (up : Bool) (hk : k % 2 = 1) (he : -4190000 ≤ e) (he' : e + blen (k : Int) ≤ 4194000) :
 Best (rnd ng k e up) up (dyv (ng, k, e)) 1 := by
 have k0 : 0 < k := by omega
 obtain ⟨n, h1, h2, h3⟩ := fA k0;unfold rnd;rw [if_neg (by omega)];show Best _ up (if ng = true then -((k : Int) * pw e) else (k : Int) * pw e) 1;split
 · rename_i b;have f := aGL k0 b;rw [aFA];obtain ⟨s, hs⟩ : ∃ s : Nat, (64 - blen (k : Int)).toNat = s := ⟨_, rfl⟩
   have es : blen (k : Int) = 64 - (s : Int) := by omega
   have hsn : s + n = 63 := by omega
   rw [hs] at f ⊢;rw [es];have lo : 9223372036854775808 ≤ k * 2 ^ s := by
    have : 2 ^ n * 2 ^ s ≤ k * 2 ^ s := Ai _ h2;rw [← Ap, show n + s = 63 by omega] at this;have : (2 : Nat) ^ 63 = 9223372036854775808 := by decide
    omega
   refine kF (by omega) (by omega) (by omega) (by omega) (by decide) ?_;rw [if_neg (by decide)];have e1 := eK (e := e + (64 - (s : Int)) - 64) (f := s) (by omega) (by omega);rw [show e + (64 - (s : Int)) - 64 + s = e by omega, Ak] at e1;rw [e1];push_cast;grind
 · rename_i b;have f := wJ k0 (by omega);obtain ⟨s, hs⟩ : ∃ s : Nat, (blen (k : Int) - 64).toNat = s := ⟨_, rfl⟩
   have es : blen (k : Int) = 64 + (s : Int) := by omega
   rw [hs] at f ⊢;rw [es];refine kF (by omega) (by omega) (by omega) (by omega) (by decide) ?_;rw [if_pos rfl];have e1 := eK (e := e) (f := s) (by omega) (by omega);rw [Ak] at e1;rw [show e + (64 + (s : Int)) - 64 = e + s by omega, e1];have p := bG e;have p2 : 0 < 2 ^ s := Bg (by decide);have ev : 2 ^ s % 2 = 0 := by
    have : s = (s - 1) + 1 := by omega
    rw [this, Aq]; omega
   have dm := Ch k (2 ^ s);have dl := Cz k p2;have nz : k % 2 ^ s ≠ 0 := by
    intro z;rw [z] at dm;have : k % 2 = 0 := by rw [← dm, Bn, Nat.mul_mod, ev]; simp
    omega
   have c2 : ((2 ^ s : Nat) : Int) = (2 : Int) ^ s := by push_cast; rfl
   have a1 : (((k / 2 ^ s : Nat)) : Int) * (pw e * 2 ^ s) * 1 = ((2 ^ s * (k / 2 ^ s) : Nat) : Int) * pw e := by push_cast; grind
   have a2 : (((k / 2 ^ s : Nat) : Int) + 1) * (pw e * 2 ^ s) * 1 = ((2 ^ s * (k / 2 ^ s) + 2 ^ s : Nat) : Int) * pw e := by push_cast; grind
   rw [a1, a2];constructor
   · exact Bb (by omega) p
   · exact Bb (by omega) p
theorem jJ {ng : Bool} {k : Nat} {e : Int} (hk : k % 2 = 1) (he : -4194304 ≤ e) (he' : e ≤ 4194304) : dyMake ng k e = (ng, k, e) := by
 unfold dyMake;have v : v2 k = 0 := v2_odd (by omega);rw [if_neg (by omega), if_neg (by omega), v];simp
theorem fG (ng : Bool) (e : Int) : dyMake ng 0 e = (false, 0, 0) := by unfold dyMake; rw [if_pos (.inl rfl)]
theorem zW {k : Nat} (h : 0 < k) : (v2 k : Int) < blen (k : Int) := by
 obtain ⟨n, h1, h2, h3⟩ := fA h;have := sY h h3;omega
theorem lK {ng : Bool} {k : Nat} {e : Int} (h : 0 < k) (he : -4194304 ≤ e) (he' : e + v2 k ≤ 4194304) :
 (dyMake ng k e).2.1 % 2 = 1 ∧ (dyMake ng k e).1 = ng ∧ (dyMake ng k e).2.2 = e + v2 k ∧ (dyMake ng k e).2.1 * 2 ^ v2 k = k ∧ ((dyMake ng k e).2.1 : Int) * pw (dyMake ng k e).2.2 = k * pw e ∧
  blen ((dyMake ng k e).2.1 : Int) + v2 k = blen (k : Int) := by
 have s := v2_spec k h;have E : dyMake ng k e = (ng, k / 2 ^ v2 k, e + v2 k) := by
  unfold dyMake;rw [if_neg (by omega), if_neg (by omega)]
 rw [E];refine ⟨s.2.1, rfl, rfl, s.1, ?_, ?_⟩
 · show ((k / 2 ^ v2 k : Nat) : Int) * pw (e + v2 k) = k * pw e;have e1 := eK (e := e) (f := v2 k) (by omega) (by omega);rw [Ak] at e1;rw [e1];have c := congrArg (fun n : Nat => (n : Int)) s.1;push_cast at c ⊢;have : (k : Int) / 2 ^ v2 k * (pw e * 2 ^ v2 k) = (k : Int) / 2 ^ v2 k * 2 ^ v2 k * pw e := by grind
   rw [this, c]
 · show blen ((k / 2 ^ v2 k : Nat) : Int) + v2 k = blen (k : Int);have c : (2 : Int) ^ v2 k ≤ (k : Int) := by have := s.2.2; exact_mod_cast this
   have := kJ (x := (k : Int)) (v2 k) c;have e2 : ((k / 2 ^ v2 k : Nat) : Int) = (k : Int) / 2 ^ v2 k := by push_cast; rfl
   rw [e2];omega
theorem aKN {n : Num} (h : n.Fin) : n.exact.2 = true ∧ n.exact.1.1 = n.neg ∧ n.exact.1.2.1 % 2 = 1 ∧ -1048576 ≤ n.exact.1.2.2 ∧ n.exact.1.2.2 ≤ 1048640 ∧ (n.exact.1.2.1 : Int) * pw n.exact.1.2.2 = n.W ∧
 n.exact.1.2.1 < 18446744073709551616 ∧ n.e ≤ n.exact.1.2.2 := by
 have lo := h.lo;have hi := h.hi;have elo := h.elo;have ehi := h.ehi;have hk := h.kind;have v := sY (n := n.m.toNat) (k := 64) (by omega) (by show n.m.toNat < 18446744073709551616; omega);have d := lK (ng := n.neg) (k := n.m.toNat) (e := n.e) (by omega) (by omega) (by omega);have r := fB n.neg n.m.toNat n.e;unfold Num.exact;rw [if_neg (by rw [h.may, hk]; decide), if_neg (by rw [hk]; decide)];refine ⟨rfl, d.2.1, d.1, ?_, ?_, ?_, ?_, ?_⟩
 · show -1048576 ≤ (dyMake n.neg n.m.toNat n.e).2.2; omega
 · show (dyMake n.neg n.m.toNat n.e).2.2 ≤ 1048640; omega
 · show ((dyMake n.neg n.m.toNat n.e).2.1 : Int) * pw (dyMake n.neg n.m.toNat n.e).2.2 = _;rw [d.2.2.2.2.1, h.W, show ((n.m.toNat : Nat) : Int) = n.m by omega]
 · show (dyMake n.neg n.m.toNat n.e).2.1 < _; omega
 · show n.e ≤ (dyMake n.neg n.m.toNat n.e).2.2; omega
theorem kO {p : Bool × Nat × Int} (hk : p.2.1 % 2 = 1) (he : -4194304 ≤ p.2.2) (he' : p.2.2 ≤ 4194304) : dyNorm p = p := jJ hk he he'
def wsum (na : Bool) (ka : Nat) (nb : Bool) (kb : Nat) : Bool × Nat :=
 if na = nb then (na && decide (ka + kb ≠ 0), ka + kb) else if ka < kb then (nb && decide (kb - ka ≠ 0), kb - ka) else (na && decide (ka - kb ≠ 0), ka - kb)
def sv (n : Bool) (k : Nat) : Int := if n then -(k : Int) else k
theorem aMI (na nb : Bool) (ka kb : Nat) : sv (wsum na ka nb kb).1 (wsum na ka nb kb).2 = sv na ka + sv nb kb := by
 have z : ∀ (n : Bool) (k : Nat), sv (n && decide (k ≠ 0)) k = sv n k := by
  intro n k;by_cases h : k = 0
  · subst h; cases n <;> simp [sv]
  · rw [Au h, Dm]
 unfold wsum;split
 · rename_i h;subst h;show sv (na && decide (ka + kb ≠ 0)) (ka + kb) = _;rw [z]; unfold sv; split <;> omega
 · rename_i h;split
   · show sv (nb && decide (kb - ka ≠ 0)) (kb - ka) = _;rw [z]; cases na <;> cases nb <;> simp [sv] at h ⊢ <;> omega
   · show sv (na && decide (ka - kb ≠ 0)) (ka - kb) = _;rw [z]; cases na <;> cases nb <;> simp [sv] at h ⊢ <;> omega
theorem aHA (na nb : Bool) (ka kb : Nat) : (wsum na ka nb kb).2 ≤ ka + kb := by
 unfold wsum;split
 · exact Ba _
 · split
   · show kb - ka ≤ _; omega
   · show ka - kb ≤ _; omega
theorem aNV (p : Bool × Nat × Int) : dyv p = sv p.1 p.2.1 * pw p.2.2 := by
 unfold dyv sv;split
 · rw [Cd]
 · rfl
def iF (lo hi : Bool × Nat × Int) : Bool × Nat × Int :=
 dyMake (wsum lo.1 lo.2.1 (hi.1 && decide (hi.2.1 * 2 ^ (hi.2.2 - lo.2.2).toNat ≠ 0)) (hi.2.1 * 2 ^ (hi.2.2 - lo.2.2).toNat)).1 (wsum lo.1 lo.2.1 (hi.1 && decide (hi.2.1 * 2 ^ (hi.2.2 - lo.2.2).toNat ≠ 0)) (hi.2.1 * 2 ^ (hi.2.2 - lo.2.2).toNat)).2 lo.2.2
def dyPlus (p q : Bool × Nat × Int) : Bool × Nat × Int :=
 if (dyNorm p).2.1 = 0 then dyNorm q else if (dyNorm q).2.1 = 0 then dyNorm p else if (dyNorm q).2.2 < (dyNorm p).2.2 then iF (dyNorm q) (dyNorm p) else iF (dyNorm p) (dyNorm q)
def Num.radd (x y : Num) (up : Bool) : Num :=
 if x.fair.kind = 2 ∧ y.fair.kind = 2 ∧ x.fair.neg ≠ y.fair.neg then Num.inf (!up) else if x.fair.kind = 2 then x.fair else if y.fair.kind = 2 then y.fair else fL (dyPlus x.fair.exact.1 y.fair.exact.1) up
structure Dy (p : Bool × Nat × Int) (t : Int) : Prop where
 odd : p = (false, 0, 0) ∨ p.2.1 % 2 = 1
 lo : -1048576 ≤ p.2.2
 hi : p.2.2 ≤ 1048640
 lt : p.2.1 < 18446744073709551616
 val : dyv p = t
theorem Dy.norm {p : Bool × Nat × Int} {t : Int} (h : Dy p t) : dyNorm p = p := by
 rcases h.odd with k | k
 · rw [k]; exact fG _ _
 · have := h.lo; have := h.hi;exact kO k (by omega) (by omega)
theorem kK {x : Num} (ox : x.ok) (k : x.fair.kind ≠ 2) : Dy x.fair.exact.1 x.fair.val := by
 by_cases k0 : x.fair.kind = 0
 · rw [Num.rS ox k0];have e : Num.zero.exact.1 = (false, 0, 0) := by unfold Num.exact; rfl
   rw [e];exact ⟨.inl rfl, by decide, by decide, by decide, by simp [dyv, Num.val_zero]⟩
 · have F := Num.wG ox k0 k;obtain ⟨x1, x2, x3, x4, x5, x6, x7, _⟩ := aKN F;refine ⟨.inr x3, x4, x5, x7, ?_⟩;unfold dyv Num.val;rw [x2, x6]
theorem wE (up : Bool) : fL (false, 0, 0) up = Num.zero := by
 unfold fL;rw [show dyNorm (false, 0, 0) = (false, 0, 0) from fG _ _];unfold rnd; rfl
theorem oL {p : Bool × Nat × Int} (up : Bool) (h : p = (false, 0, 0) ∨ p.2.1 % 2 = 1) (lo : -4190000 ≤ p.2.2) (hi : p.2.2 + blen (p.2.1 : Int) ≤ 4194000) : Best (fL p up) up (dyv p) 1 := by
 rcases h with h | h
 · rw [h, wE];exact Best.self Num.zero_may Num.zero_ok (by decide) (by decide) (by simp [dyv, Num.val_zero])
 · have b := aX (p.2.1 : Int);unfold fL;rw [kO h (by omega) (by omega)];exact aBS up h lo hi
theorem qT {lo hi : Bool × Nat × Int} {t u : Int} (up : Bool) (hl : Dy lo t) (hh : Dy hi u) (hle : lo.2.2 ≤ hi.2.2) : Best (fL (iF lo hi) up) up (t + u) 1 := by
 have l1 := hl.lo;have l2 := hh.hi;have l3 := hl.lt;have l4 := hh.lt;obtain ⟨d, hd⟩ : ∃ d : Nat, (hi.2.2 - lo.2.2).toNat = d := ⟨_, rfl⟩
 have eh := eK (e := lo.2.2) (f := d) (by omega) (by omega);rw [show lo.2.2 + (d : Int) = hi.2.2 by omega, Ak] at eh;have bl : hi.2.1 * 2 ^ d + lo.2.1 < 2 ^ (d + 65) := by
  have p2 : 0 < 2 ^ d := Bg (by decide);rw [Ap];have a1 : (hi.2.1 + 1) * 2 ^ d ≤ 18446744073709551616 * 2 ^ d := Ai _ (by omega);have a2 : 18446744073709551616 * 1 ≤ 18446744073709551616 * 2 ^ d := As _ p2;have a3 : (2 : Nat) ^ d * 2 ^ 65 = 18446744073709551616 * 2 ^ d + 18446744073709551616 * 2 ^ d := by
   rw [show (2 : Nat) ^ 65 = 18446744073709551616 + 18446744073709551616 by decide, Bz, Ax]
  have a4 : (hi.2.1 + 1) * 2 ^ d = hi.2.1 * 2 ^ d + 2 ^ d := by rw [Bd, Dv]
  omega
 have W := aMI lo.1 (hi.1 && decide (hi.2.1 * 2 ^ d ≠ 0)) lo.2.1 (hi.2.1 * 2 ^ d);have Wl := aHA lo.1 (hi.1 && decide (hi.2.1 * 2 ^ d ≠ 0)) lo.2.1 (hi.2.1 * 2 ^ d);have z : sv (hi.1 && decide (hi.2.1 * 2 ^ d ≠ 0)) (hi.2.1 * 2 ^ d) = sv hi.1 (hi.2.1 * 2 ^ d) := by
  by_cases h : hi.2.1 * 2 ^ d = 0
  · rw [h]; cases hi.1 <;> simp [sv]
  · rw [Au h, Dm]
 rw [z] at W;unfold iF;rw [hd];generalize wsum lo.1 lo.2.1 (hi.1 && decide (hi.2.1 * 2 ^ d ≠ 0)) (hi.2.1 * 2 ^ d) = w at *
 have V : sv w.1 w.2 * pw lo.2.2 = t + u := by
  rw [W, ← hl.val, ← hh.val, aNV, aNV, eh];unfold sv;split <;> split <;> push_cast <;> grind
 rcases Ao w.2 with h0 | h0
 · rw [h0, fG, wE];refine Best.self Num.zero_may Num.zero_ok (by decide) (by decide) ?_;rw [← V, h0, Num.val_zero];unfold sv; split <;> simp
 · have v := zW h0;have bw : blen (w.2 : Int) ≤ d + 65 := by
    have : w.2 < 2 ^ (d + 65) := by omega
    have := cQ (x := (w.2 : Int)) (d + 65) (by exact_mod_cast this);omega
   obtain ⟨d1, d2, d3, d4, d5, d6⟩ := lK (ng := w.1) (k := w.2) (e := lo.2.2) h0 (by omega) (by omega);generalize dyMake w.1 w.2 lo.2.2 = P at *
   have := oL (p := P) up (.inr d1) (by omega) (by omega);rw [← V];have eV : dyv P = sv w.1 w.2 * pw lo.2.2 := by
    unfold dyv sv; rw [d2, d5]; split
    · rw [Cd]
    · rfl
   rw [← eV]; exact this
theorem aOO {x y : Num} (ox : x.ok) (oy : y.ok) (up : Bool) : Num.radd x y up = Num.add x y up := by
 by_cases k0 : x.fair.kind = 2 ∧ y.fair.kind = 2 ∧ x.fair.neg ≠ y.fair.neg
 · unfold Num.radd Num.add; rw [if_pos k0, if_pos k0]
 by_cases k1 : x.fair.kind = 2
 · unfold Num.radd Num.add; rw [if_neg k0, if_pos k1, if_neg k0, if_pos (.inl k1)]
 by_cases k2 : y.fair.kind = 2
 · unfold Num.radd Num.add;rw [if_neg k0, if_neg k1, if_pos k2, if_neg k0, if_neg (by omega), if_pos (.inl k2)]
 have B := jL ox oy k1 k2 up;have R : Best (Num.radd x y up) up (x.fair.val + y.fair.val) 1 := by
  have DX := kK ox k1;have DY := kK oy k2;unfold Num.radd;rw [if_neg k0, if_neg k1, if_neg k2];generalize x.fair.exact.1 = X at *
  generalize y.fair.exact.1 = Y at *
  have bx : blen (X.2.1 : Int) ≤ 64 := cQ 64 (by have := DX.lt; show (X.2.1 : Int) < 18446744073709551616; omega);have bY : blen (Y.2.1 : Int) ≤ 64 := cQ 64 (by have := DY.lt; show (Y.2.1 : Int) < 18446744073709551616; omega);have := DX.lo; have := DX.hi; have := DY.lo; have := DY.hi;unfold dyPlus;rw [DX.norm, DY.norm];split
  · rename_i z;have e : x.fair.val = 0 := by rw [← DX.val]; unfold dyv; rw [z]; split <;> simp
    rw [e, Int.zero_add, ← DY.val];exact oL up DY.odd (by omega) (by omega)
  · split
    · rename_i z;have e : y.fair.val = 0 := by rw [← DY.val]; unfold dyv; rw [z]; split <;> simp
      rw [e, Int.add_zero, ← DX.val];exact oL up DX.odd (by omega) (by omega)
    · split
      · rw [Int.add_comm]; exact qT up DY DX (by omega)
      · exact qT up DX DY (by omega)
 exact R.uniq B (by decide) (by decide) rfl
end
section
open Go Go.Proofs
attribute [local irreducible] Lb
theorem aRJ {a b : List Int} (ha : Lb a) (hb : Lb b) : (lim (lv a * lv b)).length ≤ a.length + b.length :=
 lim_length_le (by rw [Ap]; exact Nat.mul_lt_mul'' (bP ha) (bP hb))
theorem limp (n : Nat) : 0 < (lim n).length ↔ n ≠ 0 := by
 constructor
 · intro h e; rw [e] at h; exact absurd h (by decide)
 · intro h;rcases Ao (lim n).length with k | k
   · exact absurd (fH.1 (List.length_eq_zero_iff.1 k)) h
   · exact k
theorem c_wMake (neg : Bool) (m : List Int) (hm_ : Lb m) (hl : m.length ≤ 268435456) : ∃ t : Bool × List Int, t = (neg && decide (lv m ≠ 0), lim (lv m)) ∧ aC Tryz.prog 64 [.bool (.s neg), .sli .u32 m] (.agg [.bool (.s t.1), .sli .u32 t.2]) := by
 refine ⟨_, rfl, ?_⟩;generalize hr : ((neg && decide (lv m ≠ 0), lim (lv m)) : Bool × List Int) = r;have pos := limp (lv m);obtain ⟨x, ex⟩ : ∃ x, lim (lv m) = x := ⟨_, rfl⟩
 rw [ex] at hr pos;have yes : neg = true → ∀ b : Bool, b = decide ((0 : Int) < (x.length : Int)) → (b, x) = r := by
  intro h b hb;rw [← hr, h, hb];have : decide ((0 : Int) < (x.length : Int)) = decide (lv m ≠ 0) := by
   by_cases z : lv m = 0
   · rw [Az (by have := fun q => pos.1 q; omega), Az (by simp [z])]
   · rw [Au (by have := pos.2 z; omega), Au z]
  rw [this]; rfl
 have no : neg = false → (false, x) = r := by intro h; rw [← hr, h]; rfl
 clear hr pos;refine callsA_o Tryz.func64 fun E hE lp hl' => ?_
 cbv
 (refine E_cx hE (aKZ _ hm_ ?_) ?_; all_goals (first | (intro y hy; cbv) | (exact hl)))
 have Y : y = x := hy.trans ex;rw [Y];clear hy Y;refine E_br hE ?_ ?_ <;> intro g <;> cbv
 · rw [← yes g (E.cmp .gtr (E.len x) 0) (by subst hE; rfl)]; exact ⟨rfl, rfl, trivial⟩
 · rw [← no g]; exact ⟨rfl, rfl, trivial⟩
theorem aIE (na : Bool) (a : List Int) (nb : Bool) (b : List Int) (ha : Lb a) (hb : Lb b) (hla : a.length < 60000000) (hlb : b.length < 60000000) :
 ∃ t : Bool × List Int, t = ((na != nb) && decide (lv a * lv b ≠ 0), lim (lv a * lv b)) ∧ aC Tryz.prog 65 [.slc 2 (.l 2) (fun i => iM [[.bool (.s na), .sli .u32 a], [.bool (.s nb), .sli .u32 b]] (Int.ofNat i))] (.agg [.bool (.s t.1), .sli .u32 t.2]) := by
 refine ⟨_, rfl, ?_⟩;generalize hr : (((na != nb) && decide (lv a * lv b ≠ 0), lim (lv a * lv b)) : Bool × List Int) = r;have l1 : Lb [(1 : Int)] := Lb.cons (by decide) (by decide) Lb.nil;have m1 : ∀ u, u = lim (lv [(1 : Int)] * lv a) → Lb u ∧ u.length < 134217728 ∧ lv u = lv a := by
  intro u hu;have e : lv [(1 : Int)] * lv a = lv a := by show 1 * lv a = lv a; omega
  rw [e] at hu;have l := aO ha;rw [hu]; exact ⟨lim_lb _, by omega, aJ _⟩
 have m2 : ∀ u v, lv u = lv a → v = lim (lv u * lv b) → Lb v ∧ v.length ≤ 268435456 ∧ lv v = lv a * lv b := by
  intro u v hu hv;rw [hu] at hv;have l := aRJ ha hb;rw [hv]; exact ⟨lim_lb _, by omega, aJ _⟩
 have fin : ∀ v (t : Bool × List Int) (n : Bool), lv v = lv a * lv b → n = (na != nb) → t = (n && decide (lv v ≠ 0), lim (lv v)) → t = r := by
  intro v t n h1 h2 h3; rw [h3, h1, h2, hr]
 clear hr;refine callsA_o Tryz.func65 fun E hE lp hl' => ?_
 have es : E.sub [1] 0 1 = [1] := by subst hE; rfl
 cbv;refine aTO hE hl' (d := 4) rfl rfl rfl trivial ?_;refine aNJ hE hG hm hl' 3 ?_;cbv
 (refine E_px hE (aDW _ _ ?_ ha ?_ ?_) ?_; all_goals (first | (intro u hu; cbv) | (first | (show Lb (E.sub [1] 0 1); rw [es]; exact l1) | (show (E.sub [1] 0 1).length < 134217728; rw [es]; show (1 : Nat) < 134217728; decide) | exact Av hla (by decide))))
 have U := m1 u (by have k : u = lim (lv (E.sub [1] 0 1) * lv a) := hu; rw [es] at k; exact k);clear hu m1
 (refine E_px hE (aDW _ _ U.1 hb U.2.1 ?_) ?_; all_goals (first | (intro v hv; cbv) | (exact Av hlb (by decide))))
 have V := m2 u v U.2.2 hv;clear hv m2
 (refine E_cx hE (c_wMake _ _ V.1 V.2.1) ?_; intro t ht; cbv)
 rw [← fin v t _ V.2.2 (by subst hE; cases na <;> cases nb <;> rfl) ht]; exact ⟨rfl, rfl, trivial⟩
theorem aAR (na : Bool) (a : List Int) (ha : Lb a) (hla : a.length ≤ 268435456) :
 ∃ t : Bool × List Int, t = (!na && decide (lv a ≠ 0), lim (lv a)) ∧ aC Tryz.prog 68 [.agg [.bool (.s na), .sli .u32 a]] (.agg [.bool (.s t.1), .sli .u32 t.2]) := by
 refine ⟨_, rfl, ?_⟩;generalize hr : ((!na && decide (lv a ≠ 0), lim (lv a)) : Bool × List Int) = r;refine callsA_o Tryz.func68 fun E hE lp hl' => ?_
 have en : E.bnot na = !na := by subst hE; rfl
 cbv
 (refine E_cx hE (c_wMake _ _ ha hla) ?_; intro t ht; cbv)
 have k : t = (E.bnot na && decide (lv a ≠ 0), lim (lv a)) := ht;rw [en, hr] at k;rw [k]; exact ⟨rfl, rfl, trivial⟩
def shlS (E : Env) (x : List Int) (l r : Int) : Int × List Int → St := fun p => ⟨[(0, .sli .u32 x), (5, .int .i64 (.s l)), (6, .int .i64 (.s r)), (7, .ms 0 1 (.l 0) (.s (E.bin .add .i64 (E.bin .add .i64 (E.len x) l) 1))), (36, .sli .u32 x), (37, .int .i64 (.s (E.len x))), (38, .int .i64 (.s p.1))], [.ints true .u32 p.2]⟩
set_option maxHeartbeats 1000000 in
theorem jM (a : List Int) (n : Int) (ha : Lb a) (hla : a.length < 67108864) : ∃ t : List Int, t = (if n < 1 then lim (lv a) else if 16777216 < n then [] else lim (lv a * 2 ^ n.toNat)) ∧ aC Tryz.prog 136 [.sli .u32 a, .int .i64 (.s n)] (.sli .u32 t) := by
 refine ⟨_, rfl, ?_⟩;generalize hr : (if n < 1 then lim (lv a) else if 16777216 < n then [] else lim (lv a * 2 ^ n.toNat)) = r;have hlx := aO ha;have hx := lim_lb (lv a);have vx := aJ (lv a);obtain ⟨x, ex⟩ : ∃ x, lim (lv a) = x := ⟨_, rfl⟩
 rw [ex] at hlx hx vx;obtain ⟨m, em⟩ : ∃ m : Int × List Int → Nat, ∀ p, m p = (x.length - p.1).toNat := ⟨_, fun _ => rfl⟩
 obtain ⟨ok, eok⟩ : ∃ ok : Int × List Int → Prop, ∀ p, ok p ↔ 0 ≤ p.1 ∧ p.1 ≤ x.length ∧ gD x p.2 (n / 32).toNat (n % 32).toNat p.1.toNat := ⟨_, fun _ => Bs⟩
 have eN : ∀ l : Int, 1 ≤ n → n ≤ 16777216 → l = aA .quo .i64 n 32 → IntKind.i64.wrap (IntKind.i64.wrap ((x.length : Int) + l) + 1) = x.length + n / 32 + 1 := by
  intro l n1 n2 el;have : l = n / 32 := by rw [el]; exact quo32 (by omega) (by omega)
  rw [this, wi64_id (n := (x.length : Int) + n / 32) (by omega) (by omega), wi64_id (by omega) (by omega)]
 refine callsA_o Tryz.func136 fun E hE lp hl => ?_
 cbv
 (apply E_callX hE (c_cut a ha (by omega)); (case hf => rfl); (case hc => (cbv <;> trivial)); (case hle => exact ⟨aN, trivial⟩); intro x' hx'; cbv)
 rw [hx'.trans ex];clear hx' x';refine E_br hE (fun h => ?_) (fun h => ?_)
 · have e : x = r := by subst hE; rw [← hr, if_pos (bF h), ex]
   cbv;repeat' (first
     | (refine E_br hE ?_ ?_ <;> intro h <;> cbv)
     | (refine E_nm hE fun v hv => ?_; cbv)
     | (refine aT hE (fun b hb => ?_); cbv)
     | (apply E_callX hE (tU _ ?_); (case hf => rfl); (case hc => (cbv <;> trivial)); (case hle => exact u_up); all_goals (first | (intro t ht; cbv) | (omega)))
     | fail)
   exact ‹_ = x›.trans e
 have n1 : 1 ≤ n := by subst hE; have := aW h; omega
 cbv;repeat' (first
   | (refine E_br hE ?_ ?_ <;> intro h <;> cbv)
   | (refine E_nm hE fun v hv => ?_; cbv)
   | (refine aT hE (fun b hb => ?_); cbv)
   | fail)
 · have n2 : 16777216 < n := by subst hE; exact cU ‹_›
   rw [← hr, if_neg (by omega), if_pos n2]
 · have e0 : x.length = 0 := by subst hE; have := cA h; simp only [aB] at this; omega
   have e1 : x = [] := List.length_eq_zero_iff.1 e0;rw [e1] at vx;rw [← hr, if_neg (by omega)];split
   · rfl
   · rw [← vx]; simp [lv, aMS]
 all_goals (have n2 : n ≤ 16777216 := (by subst hE; have := dB ‹(aB Tryz.prog).cmp .gtr n 16777216 = false›; omega))
 all_goals (try (exfalso; have := eN _ n1 n2 (by subst hE; assumption); subst hE; simp only [NatCast.natCast, Ac, aB, aE, aH, aG, aF, aK, aL, aA, Ab, Aa, SI.val, SB.val, Num.eta, Iv.eta] at *; rw [this] at *; omega))
 rename_i l el _ _;replace eN := eN l n1 n2 (by subst hE; exact el);simp only [NatCast.natCast, Ac] at eN;have er := hv;have l1 : l = n / 32 := by subst hE; rw [el]; exact quo32 (by omega) (by omega)
 have r1 : 0 ≤ v := by
  have : v = n % 32 := by subst hE; rw [hv]; exact qW (by omega)
  omega
 clear hv;refine E_loop hE hG hm hl (shlS E x l v) m ok ⟨(0, E.rep (E.bin .add .i64 (E.bin .add .i64 (E.len x) l) 1)), (eok _).2 ?_, stLe rfl ?_⟩ ?_
 · refine ⟨by show (0 : Int) ≤ 0; omega, by show (0 : Int) ≤ x.length; omega, ?_⟩;have := gD.start x (n / 32).toNat (n % 32).toNat;subst hE; simp only [NatCast.natCast, Ac, aB, aE, aH, aG, aF, aK, aL, aA, Ab, Aa, SI.val, SB.val, Num.eta, Iv.eta] at *; rw [eN, show ((x.length : Int) + n / 32 + 1).toNat = x.length + (n / 32).toNat + 1 by omega];exact this
 · (repeat' (first | exact bC | apply aV | exact aN | exact aM | exact aI | exact bI | exact aQ | exact (rfl : sle2 .s0 .s0)))
 rintro ⟨i, out⟩ hok;have h1 : 0 ≤ i := ((eok _).1 hok).1;have h2 : i ≤ x.length := ((eok _).1 hok).2.1;have inv : gD x out (n / 32).toNat (n % 32).toNat i.toNat := ((eok _).1 hok).2.2;have hol := inv.len;have fin : ¬ i < x.length → Lb out ∧ lim (lv out) = r := by
  intro h;have inv' := inv;rw [show i.toNat = x.length by omega] at inv';refine ⟨inv.lb, ?_⟩;rw [inv'.stop, ← hr, if_neg (by omega), if_neg (by omega), vx, show 32 * (n / 32).toNat + (n % 32).toNat = n.toNat by omega]
 have ht : lim (lv a * 2 ^ n.toNat) = r := by rw [← hr, if_neg (by omega), if_neg (by omega)]
 clear hok hr ex;cbv;repeat' (first
   | (refine E_br hE ?_ ?_ <;> intro h <;> cbv)
   | (refine E_nm hE fun v hv => ?_; cbv)
   | (refine aT hE (fun b hb => ?_); cbv)
   | (apply E_callX hE (c_cut _ ?_ ?_); (case hf => rfl); (case hc => (cbv <;> trivial)); (case hle => exact u_up); all_goals (first | (intro t ht; cbv) | ((subst hE; simp only [NatCast.natCast, Ac, aB, aE, aH, aG, aF, aK, aL, aA, Ab, Aa, SI.val, SB.val, Num.eta, Iv.eta] at *; rw [eN] at *; rw [eG (by omega)]; first | exact (fin ‹_›).1 | omega))))
   | fail)
 case hK => subst hE; simp only [NatCast.natCast, Ac, aB, aE, aH, aG, aF, aK, aL, aA, Ab, Aa, SI.val, SB.val, Num.eta, Iv.eta] at *; rw [‹t = _›, eN, eG (by omega), (fin ‹_›).2]
 all_goals (try refine ⟨(E.bin .add .i64 i 1, _), ?_, ?_, stLe rfl ?_⟩)
 all_goals (try ((repeat' (first | exact bC | apply aV | exact aN | exact aM | exact aI | exact bI | exact aQ | exact (rfl : sle2 .s0 .s0))); done))
 all_goals (subst hE)
 all_goals (try (first | (rw [em, em]; exact (qN hx (by omega) n1 n2 h1 (bF ‹_›) inv ‹_› el er ‹_› ‹_› rfl).2.2.1) | (rw [eok]; have q := qN hx (by omega) n1 n2 h1 (bF ‹_›) inv ‹_› el er ‹_› ‹_› rfl; exact ⟨q.1, q.2.1, q.2.2.2⟩)))
 all_goals (clear inv eok em fin ht er el; simp only [NatCast.natCast, Ac, aB, aE, aH, aG, aF, aK, aL, aA, Ab, Aa, SI.val, SB.val, Num.eta, Iv.eta] at *; (try rw [eN] at *); clear eN; (try simp only [wi64] at *); omega)
def shrS (E : Env) (x : List Int) (l r : Int) : Int × List Int → St := fun p => ⟨[(0, .sli .u32 x), (5, .int .i64 (.s l)), (6, .int .i64 (.s r)), (7, .ms 0 1 (.l 0) (.s (E.bin .sub .i64 (E.len x) l))), (33, .int .i64 (.s (E.bin .sub .i64 (E.len x) l))), (34, .int .i64 (.s p.1))], [.ints true .u32 p.2]⟩
set_option maxHeartbeats 1000000 in
theorem c_natShr (a : List Int) (n : Int) (ha : Lb a) (hla : a.length < 67108864) : ∃ t : List Int, t = lim (lv a / 2 ^ n.toNat) ∧ aC Tryz.prog 214 [.sli .u32 a, .int .i64 (.s n)] (.sli .u32 t) := by
 refine ⟨_, rfl, ?_⟩;generalize hr : lim (lv a / 2 ^ n.toNat) = r;have hlx := aO ha;have hx := lim_lb (lv a);have vx := aJ (lv a);obtain ⟨x, ex⟩ : ∃ x, lim (lv a) = x := ⟨_, rfl⟩
 rw [ex] at hlx hx vx;obtain ⟨m, em⟩ : ∃ m : Int × List Int → Nat, ∀ p, m p = (x.length - p.1).toNat := ⟨_, fun _ => rfl⟩
 obtain ⟨ok, eok⟩ : ∃ ok : Int × List Int → Prop, ∀ p, ok p ↔ 0 ≤ p.1 ∧ p.1 ≤ (x.length : Int) - n / 32 ∧ iL x p.2 (n / 32).toNat (n % 32).toNat p.1.toNat := ⟨_, fun _ => Bs⟩
 have eN : ∀ l : Int, 1 ≤ n → n < 32 * x.length → l = aA .quo .i64 n 32 → IntKind.i64.wrap ((x.length : Int) - l) = x.length - n / 32 := by
  intro l n1 n2 el;have : l = n / 32 := by rw [el]; exact quo32 (by omega) (by omega)
  rw [this, wi64_id (by omega) (by omega)]
 have e32 : IntKind.i64.wrap (32 * (x.length : Int)) = 32 * x.length := wi64_id (by omega) (by omega);have big : 32 * (x.length : Int) ≤ n → lv a / 2 ^ n.toNat = 0 := by
  intro h;have h1 := bP hx;rw [vx] at h1;apply Ca;have h2 : 4294967296 ^ x.length = 2 ^ (32 * x.length) := by rw [Cj]
  have h3 : 2 ^ (32 * x.length) ≤ 2 ^ n.toNat := Ag (by omega) (by omega);omega
 refine callsA_o Tryz.func214 fun E hE lp hl => ?_
 cbv
 (apply E_callX hE (c_cut a ha (by omega)); (case hf => rfl); (case hc => (cbv <;> trivial)); (case hle => exact ⟨aN, trivial⟩); intro x' hx'; cbv)
 rw [hx'.trans ex];clear hx' x';refine E_br hE (fun h => ?_) (fun h => ?_)
 · have e : x = r := by subst hE; have := bF h; rw [← hr, ← ex, show n.toNat = 0 by omega, Ct, Nat.div_one]
   cbv;repeat' (first
     | (refine E_br hE ?_ ?_ <;> intro h <;> cbv)
     | (refine E_nm hE fun v hv => ?_; cbv)
     | (refine aT hE (fun b hb => ?_); cbv)
     | (apply E_callX hE (tU _ ?_); (case hf => rfl); (case hc => (cbv <;> trivial)); (case hle => exact u_up); all_goals (first | (intro t ht; cbv) | (omega)))
     | fail)
   exact ‹_ = x›.trans e
 have n1 : 1 ≤ n := by subst hE; have := aW h; omega
 refine E_br hE (fun h => ?_) (fun h => ?_)
 · have e : [] = r := by
    rw [← hr, big (by subst hE; have := lQ h; simp only [aB, aA, NatCast.natCast, Ac] at this e32; rw [e32] at this; omega)]; rfl
   cbv;exact e.symm
 have n2 : n < 32 * x.length := by subst hE; have := kH h; simp only [aB, aA, NatCast.natCast, Ac] at this e32; rw [e32] at this; omega
 cbv;repeat' (first
   | (refine E_br hE ?_ ?_ <;> intro h <;> cbv)
   | (refine E_nm hE fun v hv => ?_; cbv)
   | (refine aT hE (fun b hb => ?_); cbv)
   | fail)
 all_goals (try (exfalso; have := eN _ n1 n2 (by subst hE; assumption); subst hE; simp only [NatCast.natCast, Ac, aB, aE, aH, aG, aF, aK, aL, aA, Ab, Aa, SI.val, SB.val, Num.eta, Iv.eta] at *; rw [this] at *; omega))
 rename_i l el _ _;replace n2 : n < 32 * (x.length : Int) := n2;replace eN := eN l n1 n2 (by subst hE; exact el);simp only [NatCast.natCast, Ac] at eN;have er := hv;have l1 : l = n / 32 := by subst hE; rw [el]; exact quo32 (by omega) (by omega)
 have r1 : 0 ≤ v := by
  have : v = n % 32 := by subst hE; rw [hv]; exact qW (by omega)
  omega
 clear hv;refine E_loop hE hG hm hl (shrS E x l v) m ok ⟨(0, E.rep (E.bin .sub .i64 (E.len x) l)), (eok _).2 ?_, stLe rfl ?_⟩ ?_
 · refine ⟨by show (0 : Int) ≤ 0; omega, by show (0 : Int) ≤ x.length - n / 32; omega, ?_⟩;have := iL.start x (n / 32).toNat (n % 32).toNat;subst hE; simp only [NatCast.natCast, Ac, aB, aE, aH, aG, aF, aK, aL, aA, Ab, Aa, SI.val, SB.val, Num.eta, Iv.eta] at *; rw [eN, show ((x.length : Int) - n / 32).toNat = x.length - (n / 32).toNat by omega];exact this
 · (repeat' (first | exact bC | apply aV | exact aN | exact aM | exact aI | exact bI | exact aQ | exact (rfl : sle2 .s0 .s0)))
 rintro ⟨i, out⟩ hok;have h1 : 0 ≤ i := ((eok _).1 hok).1;have h2 : i ≤ x.length - n / 32 := ((eok _).1 hok).2.1;have inv : iL x out (n / 32).toNat (n % 32).toNat i.toNat := ((eok _).1 hok).2.2;have hol := inv.len;have fin : ¬ i < (x.length : Int) - n / 32 → Lb out ∧ lim (lv out) = r := by
  intro h;have inv' := inv;rw [show i.toNat = x.length - (n / 32).toNat by omega] at inv';refine ⟨inv.lb, ?_⟩;rw [inv'.stop hx (by omega), ← hr, vx, show 32 * (n / 32).toNat + (n % 32).toNat = n.toNat by omega]
 clear hok hr ex;cbv;repeat' (first
   | (refine E_br hE ?_ ?_ <;> intro h <;> cbv)
   | (refine E_nm hE fun v hv => ?_; cbv)
   | (refine aT hE (fun b hb => ?_); cbv)
   | (apply E_callX hE (c_cut _ ?_ ?_); (case hf => rfl); (case hc => (cbv <;> trivial)); (case hle => exact u_up); all_goals (first | (intro t ht; cbv) | ((subst hE; simp only [NatCast.natCast, Ac, aB, aE, aH, aG, aF, aK, aL, aA, Ab, Aa, SI.val, SB.val, Num.eta, Iv.eta] at *; rw [eN] at *; rw [eG (by omega)]; first | exact (fin ‹_›).1 | omega))))
   | fail)
 case hK => subst hE; simp only [NatCast.natCast, Ac, aB, aE, aH, aG, aF, aK, aL, aA, Ab, Aa, SI.val, SB.val, Num.eta, Iv.eta] at *; rw [‹t = _›, eN, eG (by omega), (fin (by rw [← eN]; assumption)).2]
 all_goals (try refine ⟨(E.bin .add .i64 i 1, _), ?_, ?_, stLe rfl ?_⟩)
 all_goals (try ((repeat' (first | exact bC | apply aV | exact aN | exact aM | exact aI | exact bI | exact aQ | exact (rfl : sle2 .s0 .s0))); done))
 all_goals (subst hE)
 all_goals (try (
   have hi : i < IntKind.i64.wrap ((x.length : Int) - l) := bF ‹_›;rw [eN] at hi
   first
     | (rw [em, em]; exact (aBH hx (by omega) n1 n2 h1 hi inv ‹_› el er ‹_› (by first | exact .inr ‹_› | exact .inl ⟨aW ‹_›, rfl⟩) rfl).2.2.1)
     | (rw [eok]; have q := aBH hx (by omega) n1 n2 h1 hi inv ‹_› el er ‹_› (by first | exact .inr ‹_› | exact .inl ⟨aW ‹_›, rfl⟩) rfl; exact ⟨q.1, q.2.1, q.2.2.2⟩)))
 all_goals (clear inv eok em fin er el e32 big; simp only [NatCast.natCast, Ac, aB, aE, aH, aG, aF, aK, aL, aA, Ab, Aa, SI.val, SB.val, Num.eta, Iv.eta] at *; (try rw [eN] at *); clear eN; (try simp only [wi64] at *); omega)
end
section
open Go Go.Proofs
theorem aQK (x : Int) (hx : 0 ≤ x) (hx' : x < 18446744073709551616) : ∃ t : Int, t = blen x ∧ aC Tryz.prog 155 [.int .u64 (.s x)] (.int .i64 (.s t)) := by
 refine ⟨_, rfl, ?_⟩;generalize hr : blen x = r;refine callsA_o Tryz.func155 fun E hE lp hl => ?_
 cbv;repeat' (first
   | (refine E_br hE ?_ ?_ <;> intro h <;> cbv)
   | (refine E_nm hE fun v hv => ?_; cbv)
   | fail)
 all_goals (try (generalize hL : (⟨⟨[0, 1, 2, 2, 3, 3, 3, 3, 4, 4, 4, 4, 4, 4, 4, 4, 5, 5, 5, 5, 5, 5, 5, 5, 5, 5, 5, 5, 5, 5, 5, 5, 6, 6, 6, 6, 6, 6, 6, 6, 6, 6, 6, 6, 6, 6, 6, 6, 6, 6, 6, 6, 6, 6, 6, 6, 6, 6, 6, 6, 6, 6, 6, 6, 7, 7, 7, 7, 7, 7, 7, 7, 7, 7, 7, 7, 7, 7, 7, 7, 7, 7, 7, 7, 7, 7, 7, 7, 7, 7, 7, 7, 7, 7, 7, 7, 7, 7, 7, 7, 7, 7, 7, 7, 7, 7, 7, 7, 7, 7, 7, 7, 7, 7, 7, 7, 7, 7, 7, 7, 7, 7, 7, 7, 7, 7, 7, 7, 8, 8, 8, 8, 8, 8, 8, 8, 8, 8, 8, 8, 8, 8, 8, 8, 8, 8, 8, 8, 8, 8, 8, 8, 8, 8, 8, 8, 8, 8, 8, 8, 8, 8, 8, 8, 8, 8, 8, 8, 8, 8, 8, 8, 8, 8, 8, 8, 8, 8, 8, 8, 8, 8, 8, 8, 8, 8, 8, 8, 8, 8, 8, 8, 8, 8, 8, 8, 8, 8, 8, 8, 8, 8, 8, 8, 8, 8, 8, 8, 8, 8, 8, 8, 8, 8, 8, 8, 8, 8, 8, 8, 8, 8, 8, 8, 8, 8, 8, 8, 8, 8, 8, 8, 8, 8, 8, 8, 8, 8, 8, 8, 8, 8, 8, 8, 8, 8, 8, 8, 8, 8, 8, 8, 8, 8, 8, 8]⟩⟩ : ByteArray) = L at *; replace hL := aBJ hL; obtain ⟨hL1, hL2⟩ := hL))
 all_goals (subst hE; subst hr)
 all_goals (try simp only [aB, aE, aH, aG, aF, aK, aL, aA, Ab, Aa, SI.val, SB.val, Num.eta, Iv.eta] at *)
 all_goals (simp only [shr8, aTG, zB, wu8, wi64] at *)
 all_goals (try omega)
 all_goals (try rw [hL2 _ (by omega) (by omega)] at hv)
 all_goals (have b1 := aX x; have b2 := cQ 64 (x := x) (by omega))
 all_goals (try have s1 := aTW ‹(4294967296 : Int) ≤ _› ‹_ = _ / (4294967296 : Int)›)
 all_goals (try have s2 := aQS ‹(65536 : Int) ≤ _› ‹_ = _ / (65536 : Int)›)
 all_goals (try have s3 := len8 ‹(256 : Int) ≤ _› ‹_ = _ / (256 : Int)›)
 all_goals omega
theorem aMD (x : Int) (hx : 0 ≤ x) (hx' : x < 18446744073709551616) : ∃ t : Int, t = 64 - blen x ∧ aC Tryz.prog 85 [.int .u64 (.s x)] (.int .i64 (.s t)) := by
 refine ⟨_, rfl, ?_⟩;generalize hr : 64 - blen x = r;refine callsA_o Tryz.func85 fun E hE lp hl => ?_
 cbv;repeat' (first
   | (refine E_br hE ?_ ?_ <;> intro h <;> cbv)
   | (refine E_nm hE fun v hv => ?_; cbv)
   | (refine E_cx hE (aQK _ ?_ ?_) ?_; all_goals (first | (intro t ht; cbv) | (subst hE; (try simp only [aB, aE, aH, aG, aF, aK, aL, aA, Ab, Aa, SI.val, SB.val, Num.eta, Iv.eta] at *); first | assumption | omega)))
   | fail)
 all_goals (subst hE; subst hr)
 all_goals (try simp only [aB, aE, aH, aG, aF, aK, aL, aA, Ab, Aa, SI.val, SB.val, Num.eta, Iv.eta] at *)
 all_goals (try simp only [wi64] at *)
 all_goals (have b1 := aX x; have b2 := cQ 64 (x := x) (by omega); omega)
theorem aPM (l : List Num) (n : Int) (hn : n = l.length) (hb : n < 9223372036854775808) : ∃ t, t = Num.least l ∧ aC Tryz.prog 90 [.slc 4 (.s n) (fun i => Num.cells (l.getD i Num.zero))] (Num.av t) := by
 refine ⟨_, rfl, ?_⟩;generalize hr : Num.least l = r;obtain ⟨z, hz⟩ : ∃ z, z = Num.zero := ⟨_, rfl⟩
 rw [← hz];refine callsA_o Tryz.func90 fun E hE lp hl => ?_
 cbv
 (apply E_callX hE (yL _); (case hf => rfl); (case hc => (cbv <;> trivial)); (case hle => exact u_up); intro t ht; cbv)
 refine E_loopW hE hG hm hl (ι := Int × Num) (fun p => ⟨[(9, .int .i64 (.s p.1)), (8, .int .i64 (.s n)), (7, .slc 4 (.s n) (fun i => Num.cells (l.getD i z))), (3, .ptr 1 4 (.l 0) 0), (2, .ptr 0 4 (.l 0) 0)],
   [
    .rows true 4 [.int .i64 (.l 0), .bool (.l false), .int .u64 (.l 0), .int .i64 (.l 0)] [[.int .i64 (.l 0), .bool (.l false), .int .u64 (.l 0), .int .i64 (.l 0)]],
    .rows true 4 [.int .i64 (.l 0), .bool (.l false), .int .u64 (.l 0), .int .i64 (.l 0)] [Num.cells p.2]]⟩)
  (fun p => (n - p.1).toNat) (fun p => 0 ≤ p.1 ∧ p.1 ≤ n ∧ p.2 = Num.leastTo l p.1) (fun p => rfl) ⟨(0, t), ⟨Bc 0, (by show (0 : Int) ≤ n; rw [hn]; exact Cv _), ht⟩, stLe rfl ?_⟩ ?_
 · repeat' (first | exact bC | apply aV | exact aM | exact aQ | exact bK)
 rintro ⟨i, o⟩ ⟨h1, h2, h3⟩;dsimp only at h1 h2 h3;cbv;repeat' (first
   | (refine E_br hE ?_ ?_ <;> intro h <;> cbv)
   | (refine E_nm hE fun v hv => ?_; cbv)
   | (refine xZ hE (cell := Num.cells) (fun t ht => ?_); cbv)
   | (apply E_callX hE (c_Cmp ⟨_, _, _, _⟩ ⟨_, _, _, _⟩); (case hf => rfl); (case hc => (cbv <;> trivial)); (case hle => exact u_up); intro t ht; cbv)
   | (apply E_callX hE (vO ⟨_, _, _, _⟩); (case hf => rfl); (case hc => (cbv <;> trivial)); (case hle => exact u_up); intro t ht; cbv)
   | fail)
 all_goals (try (first
   | refine ⟨(E.bin .add .i64 i 1, t), ?_, ⟨?_, ?_, ?_⟩, tB rfl ⟨rfl, rfl, trivial⟩ ?_⟩
   | refine ⟨(E.bin .add .i64 i 1, o), ?_, ⟨?_, ?_, ?_⟩, tB rfl ⟨rfl, rfl, trivial⟩ ?_⟩))
 all_goals (try (refine mL ?_ rfl ?_; (repeat' (first | exact aGY | refine mL ?_ rfl ?_ | exact aM | exact aQ | exact bK)); done))
 all_goals (subst hE; simp only [aB, aG, aF, aA, Ab, Aa, SI.val, SB.val, Num.eta] at *)
 all_goals (try rw [gH h1 ‹i < n› hb])
 all_goals (try omega)
 all_goals (replace hn : n = (l.length : Int) := hn)
 case hK.refine_2.refine_2 =>
  refine Num.fin (t := o) ?_;have hi : i = n := by omega
  rw [← hr, h3, hi, hn, Num.sZ]
 all_goals rw [Num.pM l h1 (by omega), ← h3, ← hz, ← ‹_ = l.getD i.toNat z›]
 all_goals unfold Num.lesser
 all_goals (first | (rw [if_pos (by omega)]; assumption) | (rw [if_neg (by omega)]))
theorem c_Most (l : List Num) (n : Int) (hn : n = l.length) (hb : n < 9223372036854775808) : ∃ t, t = Num.most l ∧ aC Tryz.prog 89 [.slc 4 (.s n) (fun i => Num.cells (l.getD i Num.zero))] (Num.av t) := by
 refine ⟨_, rfl, ?_⟩;generalize hr : Num.most l = r;obtain ⟨z, hz⟩ : ∃ z, z = Num.zero := ⟨_, rfl⟩
 rw [← hz];refine callsA_o Tryz.func89 fun E hE lp hl => ?_
 cbv
 (apply E_callX hE (yL _); (case hf => rfl); (case hc => (cbv <;> trivial)); (case hle => exact u_up); intro t ht; cbv)
 refine E_loopW hE hG hm hl (ι := Int × Num) (fun p => ⟨[(9, .int .i64 (.s p.1)), (8, .int .i64 (.s n)), (7, .slc 4 (.s n) (fun i => Num.cells (l.getD i z))), (3, .ptr 1 4 (.l 0) 0), (2, .ptr 0 4 (.l 0) 0)],
   [
    .rows true 4 [.int .i64 (.l 0), .bool (.l false), .int .u64 (.l 0), .int .i64 (.l 0)] [[.int .i64 (.l 0), .bool (.l false), .int .u64 (.l 0), .int .i64 (.l 0)]],
    .rows true 4 [.int .i64 (.l 0), .bool (.l false), .int .u64 (.l 0), .int .i64 (.l 0)] [Num.cells p.2]]⟩)
  (fun p => (n - p.1).toNat) (fun p => 0 ≤ p.1 ∧ p.1 ≤ n ∧ p.2 = Num.mostTo l p.1) (fun p => rfl) ⟨(0, t), ⟨Bc 0, (by show (0 : Int) ≤ n; rw [hn]; exact Cv _), ht⟩, stLe rfl ?_⟩ ?_
 · repeat' (first | exact bC | apply aV | exact aM | exact aQ | exact bK)
 rintro ⟨i, o⟩ ⟨h1, h2, h3⟩;dsimp only at h1 h2 h3;cbv;repeat' (first
   | (refine E_br hE ?_ ?_ <;> intro h <;> cbv)
   | (refine E_nm hE fun v hv => ?_; cbv)
   | (refine xZ hE (cell := Num.cells) (fun t ht => ?_); cbv)
   | (apply E_callX hE (c_Cmp ⟨_, _, _, _⟩ ⟨_, _, _, _⟩); (case hf => rfl); (case hc => (cbv <;> trivial)); (case hle => exact u_up); intro t ht; cbv)
   | (apply E_callX hE (vO ⟨_, _, _, _⟩); (case hf => rfl); (case hc => (cbv <;> trivial)); (case hle => exact u_up); intro t ht; cbv)
   | fail)
 all_goals (try (first
   | refine ⟨(E.bin .add .i64 i 1, t), ?_, ⟨?_, ?_, ?_⟩, tB rfl ⟨rfl, rfl, trivial⟩ ?_⟩
   | refine ⟨(E.bin .add .i64 i 1, o), ?_, ⟨?_, ?_, ?_⟩, tB rfl ⟨rfl, rfl, trivial⟩ ?_⟩))
 all_goals (try (refine mL ?_ rfl ?_; (repeat' (first | exact aGY | refine mL ?_ rfl ?_ | exact aM | exact aQ | exact bK)); done))
 all_goals (subst hE; simp only [aB, aG, aF, aK, aA, Ab, Aa, SI.val, SB.val, Num.eta] at *)
 all_goals (try rw [gH h1 ‹i < n› hb])
 all_goals (try omega)
 all_goals (replace hn : n = (l.length : Int) := hn)
 case hK.refine_2.refine_2 =>
  refine Num.fin (t := o) ?_;have hi : i = n := by omega
  rw [← hr, h3, hi, hn, Num.vQ]
 all_goals rw [Num.sS l h1 (by omega), ← h3, ← hz, ← ‹_ = l.getD i.toNat z›]
 all_goals unfold Num.greater
 all_goals (first | (rw [if_pos (by omega)]; assumption) | (rw [if_neg (by omega)]))
theorem xJ {x : Iv} : sleL sle0 x.cells x.cells :=
 ⟨rfl, ⟨rfl, rfl⟩, rfl, ⟨rfl, rfl⟩, ⟨rfl, rfl⟩, ⟨rfl, rfl⟩, rfl, ⟨rfl, rfl⟩, ⟨rfl, rfl⟩, trivial⟩
theorem aPP (hi : Int) (lo : Int) (y : Int) (hhi : 0 ≤ hi) (hhi' : hi < 4294967296) (hlo : 0 ≤ lo) (hlo' : lo < 4294967296) (hy : 0 ≤ y) (hy' : y < 4294967296) (hlt : hi < y) : ∃ t : Int × Int, t = ((hi * 4294967296 + lo) / y, (hi * 4294967296 + lo) % y) ∧ aC Tryz.prog 235 [.int .u32 (.s hi), .int .u32 (.s lo), .int .u32 (.s y)] (.tup [.int .u32 (.s t.1), .int .u32 (.s t.2)]) := by
 refine ⟨_, rfl, ?_⟩;generalize hr : ((hi * 4294967296 + lo) / y, (hi * 4294967296 + lo) % y) = r;refine callsA_o Tryz.func235 fun E hE lp hl => ?_
 cbv;repeat' (first
   | (refine E_br hE ?_ ?_ <;> intro h <;> cbv)
   | (refine E_nm hE fun v hv => ?_; cbv)
   | fail)
 all_goals (subst hE; subst hr)
 all_goals (try simp only [aB, aE, aH, aG, aF, aK, aL, aA, Ab, Aa, SI.val, SB.val, Num.eta, Iv.eta] at *)
 all_goals (try (exfalso; rw [wu64] at *; omega))
 all_goals (try (exfalso; omega))
 rename_i v1 v2 e1 e2 _ _ _;rw [div32_word hhi hhi' hlo hlo'] at e1;subst e1;obtain ⟨q1, q2⟩ := aEN hhi hlo hlo' hlt hy';exact ⟨e2.trans q1, hv.trans q2, trivial⟩
theorem aGV (x : Int) (hx : 0 ≤ x) (hx' : x < 4294967296) : ∃ t : Int, t = blen x ∧ aC Tryz.prog 221 [.int .u32 (.s x)] (.int .i64 (.s t)) := by
 refine ⟨_, rfl, ?_⟩;generalize hr : blen x = r;refine callsA_o Tryz.func221 fun E hE lp hl => ?_
 cbv;repeat' (first
   | (refine E_br hE ?_ ?_ <;> intro h <;> cbv)
   | (refine E_nm hE fun v hv => ?_; cbv)
   | fail)
 all_goals (try (generalize hL : (⟨⟨[0, 1, 2, 2, 3, 3, 3, 3, 4, 4, 4, 4, 4, 4, 4, 4, 5, 5, 5, 5, 5, 5, 5, 5, 5, 5, 5, 5, 5, 5, 5, 5, 6, 6, 6, 6, 6, 6, 6, 6, 6, 6, 6, 6, 6, 6, 6, 6, 6, 6, 6, 6, 6, 6, 6, 6, 6, 6, 6, 6, 6, 6, 6, 6, 7, 7, 7, 7, 7, 7, 7, 7, 7, 7, 7, 7, 7, 7, 7, 7, 7, 7, 7, 7, 7, 7, 7, 7, 7, 7, 7, 7, 7, 7, 7, 7, 7, 7, 7, 7, 7, 7, 7, 7, 7, 7, 7, 7, 7, 7, 7, 7, 7, 7, 7, 7, 7, 7, 7, 7, 7, 7, 7, 7, 7, 7, 7, 7, 8, 8, 8, 8, 8, 8, 8, 8, 8, 8, 8, 8, 8, 8, 8, 8, 8, 8, 8, 8, 8, 8, 8, 8, 8, 8, 8, 8, 8, 8, 8, 8, 8, 8, 8, 8, 8, 8, 8, 8, 8, 8, 8, 8, 8, 8, 8, 8, 8, 8, 8, 8, 8, 8, 8, 8, 8, 8, 8, 8, 8, 8, 8, 8, 8, 8, 8, 8, 8, 8, 8, 8, 8, 8, 8, 8, 8, 8, 8, 8, 8, 8, 8, 8, 8, 8, 8, 8, 8, 8, 8, 8, 8, 8, 8, 8, 8, 8, 8, 8, 8, 8, 8, 8, 8, 8, 8, 8, 8, 8, 8, 8, 8, 8, 8, 8, 8, 8, 8, 8, 8, 8, 8, 8, 8, 8, 8, 8]⟩⟩ : ByteArray) = L at *; replace hL := aBJ hL; obtain ⟨hL1, hL2⟩ := hL))
 all_goals (subst hE; subst hr)
 all_goals (try simp only [aB, aE, aH, aG, aF, aK, aL, aA, Ab, Aa, SI.val, SB.val, Num.eta, Iv.eta] at *)
 all_goals (simp only [aTF, aSC, wu8, wi64] at *)
 all_goals (try omega)
 all_goals (try rw [hL2 _ (by omega) (by omega)] at hv)
 all_goals (have b1 := aX x; have b2 := cQ 32 (x := x) (by omega))
 all_goals (try have s2 := aQS ‹(65536 : Int) ≤ _› ‹_ = _ / (65536 : Int)›)
 all_goals (try have s3 := len8 ‹(256 : Int) ≤ _› ‹_ = _ / (256 : Int)›)
 all_goals omega
theorem aST (x : Int) (hx : 0 ≤ x) (hx' : x < 4294967296) : ∃ t : Int, t = 32 - blen x ∧ aC Tryz.prog 223 [.int .u32 (.s x)] (.int .i64 (.s t)) := by
 refine ⟨_, rfl, ?_⟩;generalize hr : 32 - blen x = r;refine callsA_o Tryz.func223 fun E hE lp hl => ?_
 cbv;repeat' (first
   | (refine E_br hE ?_ ?_ <;> intro h <;> cbv)
   | (refine E_nm hE fun v hv => ?_; cbv)
   | (refine E_cx hE (aGV _ ?_ ?_) ?_; all_goals (first | (intro t ht; cbv) | (subst hE; (try simp only [aB, aE, aH, aG, aF, aK, aL, aA, Ab, Aa, SI.val, SB.val, Num.eta, Iv.eta] at *); first | assumption | omega)))
   | fail)
 all_goals (subst hE; subst hr)
 all_goals (try simp only [aB, aE, aH, aG, aF, aK, aL, aA, Ab, Aa, SI.val, SB.val, Num.eta, Iv.eta] at *)
 all_goals (try simp only [wi64] at *)
 all_goals (have b1 := aX x; have b2 := cQ 32 (x := x) (by omega); omega)
end
section
open Go Go.Proofs
attribute [local irreducible] Lb
theorem pR (a : List Int) (ha : Lb a) (hla : a.length < 67108864) : ∃ t : Int, t = blen (lv a) ∧ aC Tryz.prog 190 [.sli .u32 a] (.int .i64 (.s t)) := by
 refine ⟨_, rfl, ?_⟩;generalize hr : blen (lv a : Int) = r;have hlx := aO ha;have hx := lim_lb (lv a);have vx := aJ (lv a);have lx := (kT (lv a)).last;obtain ⟨x, ex⟩ : ∃ x, lim (lv a) = x := ⟨_, rfl⟩
 rw [ex] at hlx hx vx lx;have k1 : x.length = 0 → r = 0 := by
  intro h;have : x = [] := List.length_eq_zero_iff.1 h;rw [this] at vx;rw [← hr, ← vx]; rfl
 have k2 : ¬ (x.length : Int) = 0 → ∀ t : Int, t = blen (x.getD (aA .sub .i64 x.length 1).toNat 0) → r = aA .add .i64 (aA .mul .i64 32 (aA .sub .i64 x.length 1)) t := by
  intro h t ht;have hne : x ≠ [] := by intro e; rw [e] at h; simp at h
  have := vP hx hne (lx hne);have e1 : aA .sub .i64 x.length 1 = (x.length : Int) - 1 := by show IntKind.i64.wrap _ = _; rw [wi64_id (by omega) (by omega)]
  rw [e1] at ht ⊢;have e2 : aA .mul .i64 32 ((x.length : Int) - 1) = 32 * ((x.length : Int) - 1) := by show IntKind.i64.wrap _ = _; rw [wi64_id (by omega) (by omega)]
  rw [e2, ← hr, ← vx, this];rw [show ((x.length : Int) - 1).toNat = x.length - 1 by omega] at ht;have hg := hx.getD (x.length - 1);have b1 := aX (x.getD (x.length - 1) 0);have b2 := cQ 32 (x := x.getD (x.length - 1) 0) (by omega);rw [ht];show _ = IntKind.i64.wrap _;rw [wi64_id (by omega) (by omega)]
 refine callsA_o Tryz.func190 fun E hE lp hl => ?_
 cbv
 (apply E_callX hE (c_cut a ha (by omega)); (case hf => rfl); (case hc => (cbv <;> trivial)); (case hle => exact ⟨aN, trivial⟩); intro x' hx'; cbv)
 rw [hx'.trans ex];clear hx' x';repeat' (first
   | (refine E_br hE ?_ ?_ <;> intro h <;> cbv)
   | (refine E_nm hE fun v hv => ?_; cbv)
   | (refine aT hE (fun b hb => ?_); cbv)
   | (refine E_cx hE (aGV _ ?_ ?_) ?_; all_goals (first | (intro t ht; cbv) | ((subst hE; first | exact (hx.getD _).1 | exact (hx.getD _).2))))
   | fail)
 all_goals (try (subst hE; first | exact (k1 (by have := cA h; simp only [aB] at this; omega)).symm | exact hv.trans (k2 (eql_f ‹_›) t ht).symm))
 all_goals (clear k1 k2 hr; subst hE; simp only [NatCast.natCast, Ac, aB, aE, aH, aG, aF, aK, aL, aA, Ab, Aa, SI.val, SB.val, Num.eta, Iv.eta] at *; (try simp only [wi64] at *); omega)
theorem wV {a q : List Int} {d i k left j : Int} (ha : Lb a) (hla : a.length < 67108864) (hd : d < 4294967296) (h1 : 0 ≤ i) (h2 : i < a.length)
 (inv : eO a q d (a.length - i.toNat) left) {i' : Int} (ei : i' = i) (ek : k = aA .sub .i64 (aA .sub .i64 a.length 1) i') (ej : j = aA .add .i64 i 1) {t : Int × Int}
 (et : t = ((left * 4294967296 + a.getD k.toNat 0) / d, (left * 4294967296 + a.getD k.toNat 0) % d)) {t2 : Int} (e2 : t2 = t.2) :
 0 ≤ j ∧ j ≤ a.length ∧ ((a.length : Int) - j).toNat < ((a.length : Int) - i).toNat ∧ eO a (q.set k.toNat t.1) d (a.length - j.toNat) t2 := by
 subst ei;have ej' : j = i' + 1 := by rw [ej]; show IntKind.i64.wrap (i' + 1) = _; rw [wi64_id (by omega) (by omega)]
 have ek' : k = a.length - 1 - i' := by
  rw [ek]; show IntKind.i64.wrap (IntKind.i64.wrap ((a.length : Int) - 1) - i') = _;rw [wi64_id (n := (a.length : Int) - 1) (by omega) (by omega), wi64_id (by omega) (by omega)]
 rw [show a.length - i'.toNat = k.toNat + 1 by omega] at inv;have st := inv.step ha hd (by omega);rw [e2, et, show a.length - j.toNat = k.toNat by omega];exact ⟨by omega, by omega, by omega, st⟩
def aSZ (E : Env) (a : List Int) (d : Int) : Int × Int × List Int → St := fun p => ⟨[(0, .sli .u32 a), (1, .int .u32 (.s d)), (4, .ms 0 1 (.l 0) (.s (E.len a))), (6, .int .u32 (.s p.2.1)), (13, .int .i64 (.s (E.len a))), (14, .int .i64 (.s p.1))], [.ints true .u32 p.2.2]⟩
set_option maxHeartbeats 1000000 in
theorem aPV (a : List Int) (d : Int) (ha : Lb a) (hla : a.length < 67108864) (hd0 : 0 < d) (hd : d < 4294967296) : ∃ t : List Int × List Int, t = (lim (lv a / d.toNat), lim (lv a % d.toNat)) ∧ aC Tryz.prog 222 [.sli .u32 a, .int .u32 (.s d)] (.tup [.sli .u32 t.1, .sli .u32 t.2]) := by
 refine ⟨_, rfl, ?_⟩;generalize hr : (lim (lv a / d.toNat), lim (lv a % d.toNat)) = r;obtain ⟨m, em⟩ : ∃ m : Int × Int × List Int → Nat, ∀ p, m p = (a.length - p.1).toNat := ⟨_, fun _ => rfl⟩
 obtain ⟨ok, eok⟩ : ∃ ok : Int × Int × List Int → Prop, ∀ p, ok p ↔ 0 ≤ p.1 ∧ p.1 ≤ a.length ∧ eO a p.2.2 d (a.length - p.1.toNat) p.2.1 := ⟨_, fun _ => Bs⟩
 refine callsA_o Tryz.func222 fun E hE lp hl => ?_
 cbv;repeat' (first
   | (refine E_br hE ?_ ?_ <;> intro h <;> cbv)
   | (refine E_nm hE fun v hv => ?_; cbv)
   | (refine aT hE (fun b hb => ?_); cbv)
   | fail)
 all_goals (try (exfalso; subst hE; simp only [NatCast.natCast, Ac, aB, aE, aH, aG, aF, aK, aL, aA, Ab, Aa, SI.val, SB.val, Num.eta, Iv.eta] at *; omega))
 refine E_loop hE hG hm hl (aSZ E a d) m ok ⟨(0, 0, E.rep (E.len a)), (eok _).2 ?_, stLe rfl ?_⟩ ?_
 · refine ⟨by show (0 : Int) ≤ 0; omega, by show (0 : Int) ≤ a.length; omega, ?_⟩;have := eO.start a hd0;subst hE; simp only [NatCast.natCast, Ac, aB, aE, aH, aG, aF, aK, aL, aA, Ab, Aa, SI.val, SB.val, Num.eta, Iv.eta] at *
   exact this
 · (repeat' (first | exact bC | apply aV | exact aN | exact aM | exact aI | exact bI | exact aQ | exact (rfl : sle2 .s0 .s0)))
 rintro ⟨i, left, q⟩ hok;have h1 : 0 ≤ i := ((eok _).1 hok).1;have h2 : i ≤ a.length := ((eok _).1 hok).2.1;have inv : eO a q d (a.length - i.toNat) left := ((eok _).1 hok).2.2;have hol := inv.len;have l0 := inv.l0;have l1 := inv.l1;have lq : Lb q := inv.lb;have ll : Lb [left] := Lb.cons l0 (by omega) Lb.nil;have fin : ¬ i < a.length → (lim (lv q), lim (lv [left])) = r := by
  intro h;rw [show a.length - i.toNat = 0 by omega] at inv;obtain ⟨f1, f2⟩ := inv.stop;rw [← hr, f1];congr 2;simp only [lv];omega
 clear hok hr;cbv;repeat' (first
   | (refine E_br hE ?_ ?_ <;> intro h <;> cbv)
   | (refine E_nm hE fun v hv => ?_; cbv)
   | (refine aT hE (fun b hb => ?_); cbv)
   | (apply E_callX hE (aPP _ _ _ ?_ ?_ ?_ ?_ ?_ ?_ ?_); (case hf => rfl); (case hc => (cbv <;> trivial)); (case hle => exact u_up); all_goals (first | (intro t ht; cbv) | (((try simp only [SI.val]); first | omega | (subst hE; first | exact (ha.getD _).1 | exact (ha.getD _).2)))))
   | (apply E_callX hE (c_cut _ ?_ ?_); (case hf => rfl); (case hc => (cbv <;> trivial)); (case hle => exact u_up); all_goals (first | (intro t ht; cbv) | ((subst hE; first | exact ll | (simp only [NatCast.natCast, Ac, aB, aE, aH, aG, aF, aK, aL, aA, Ab, Aa, SI.val, SB.val, Num.eta, Iv.eta] at *; (try rw [eG (by omega)]); first | assumption | omega | (simp; done))))))
   | fail)
 all_goals (try refine ⟨(E.bin .add .i64 i 1, v, E.set q _ t.1), ?_, ?_, stLe rfl ?_⟩)
 all_goals (try ((repeat' (first | exact bC | apply aV | exact aN | exact aM | exact aI | exact bI | exact aQ | exact (rfl : sle2 .s0 .s0))); done))
 all_goals (subst hE)
 all_goals (try (first | (rw [em, em]; exact (wV ha hla hd h1 (bF ‹_›) inv ‹_ = i› ‹_› rfl ‹t = _› ‹_›).2.2.1) | (rw [eok]; have q := wV ha hla hd h1 (bF ‹_›) inv ‹_ = i› ‹_› rfl ‹t = _› ‹_›; exact ⟨q.1, q.2.1, q.2.2.2⟩)))
 case refine_1.refine_1.refine_1.refine_3.refine_2.hK.hK => have f := fin (aW ‹_›); rename_i q' hq'; rw [← f]; simp only [NatCast.natCast, Ac, aB, aE, aH, aG, aF, aK, aL, aA, Ab, Aa, SI.val, SB.val, Num.eta, Iv.eta] at *; refine ⟨?_, ‹_ = _›, trivial⟩; rw [hq', eG (by omega)]
 all_goals (clear inv eok em fin; simp only [NatCast.natCast, Ac, aB, aE, aH, aG, aF, aK, aL, aA, Ab, Aa, SI.val, SB.val, Num.eta, Iv.eta] at *; (try simp only [wi64] at *); omega)
end
section
open Go Go.Proofs
def guessS (r2 r1 r0 d1 d0 t : Int) : Int × Int → St := fun p => ⟨[(0, .int .u32 (.s r2)), (1, .int .u32 (.s r1)), (2, .int .u32 (.s r0)), (3, .int .u32 (.s d1)), (4, .int .u32 (.s d0)), (11, .int .u64 (.s t)), (12, .int .u64 (.s p.1)), (13, .int .u64 (.s p.2))], []⟩
theorem aPW (r2 r1 r0 d1 d0 : Int) (I : dG r2 r1 r0 d1 d0) : ∃ t : Int, t = eC r2 r1 r0 d1 d0 ∧ aC Tryz.prog 224 [.int .u32 (.s r2), .int .u32 (.s r1), .int .u32 (.s r0), .int .u32 (.s d1), .int .u32 (.s d0)] (.int .u32 (.s t)) := by
 refine ⟨_, rfl, ?_⟩;generalize hr : eC r2 r1 r0 d1 d0 = r;obtain ⟨m, em⟩ : ∃ m : Int × Int → Nat, ∀ p, m p = p.1.toNat := ⟨_, fun _ => rfl⟩
 obtain ⟨ok, eok⟩ : ∃ ok : Int × Int → Prop, ∀ p, ok p ↔ bT r2 r1 r0 d1 d0 p.1 p.2 := ⟨_, fun _ => Bs⟩
 have hd := I.d1b;refine callsA_o Tryz.func224 fun E hE lp hl => ?_
 cbv;repeat' (first
   | (refine E_br hE ?_ ?_ <;> intro h <;> cbv)
   | (refine E_nm hE fun v hv => ?_; cbv)
   | (refine aT hE (fun b hb => ?_); cbv)
   | fail)
 · subst hE; have h' : IntKind.u64.wrap d1 = 0 := cA h; rw [cG (by omega) (by omega)] at h'; omega
 · subst hE; have h' : IntKind.u64.wrap d1 = 0 := cA h; rw [cG (by omega) (by omega)] at h'; omega
 rename_i t et _ q eq;refine E_loop hE hG hm hl (guessS r2 r1 r0 d1 d0 t) m ok ⟨(q, v), (eok _).2 ?_, stLe rfl ?_⟩ ?_
 · subst hE; exact aEA I et eq hv
 · (repeat' (first | exact bC | apply aV | exact aN | exact aM | exact aI | exact bI | exact aQ | exact (rfl : sle2 .s0 .s0)))
 clear eq hv et;rintro ⟨q, left⟩ hok;have inv : bT r2 r1 r0 d1 d0 q left := (eok _).1 hok;clear hok;cbv;repeat' (first
   | (refine E_br hE ?_ ?_ <;> intro h <;> cbv)
   | (refine E_nm hE fun v hv => ?_; cbv)
   | (refine aT hE (fun b hb => ?_); cbv)
   | fail)
 all_goals (try (rename_i q' eq'; refine ⟨(q', v), ?_, ?_, stLe rfl ?_⟩))
 all_goals (try ((repeat' (first | exact bC | apply aV | exact aN | exact aM | exact aI | exact bI | exact aQ | exact (rfl : sle2 .s0 .s0))); done))
 all_goals (subst hE)
 all_goals (first
   | (rw [em, em]; exact (uV I inv (by first | exact .inl (cU ‹_›) | exact .inr ⟨dB ‹_›, cU ‹_›⟩) ‹_› ‹_› (dB ‹_›)).1)
   | (rw [eok]; exact (uV I inv (by first | exact .inl (cU ‹_›) | exact .inr ⟨dB ‹_›, cU ‹_›⟩) ‹_› ‹_› (dB ‹_›)).2)
   | (rw [← hr, hv]; exact aKK I inv (by first | exact .inl (cU ‹_›) | exact .inr ⟨dB ‹_›, cU ‹_›⟩) ‹_› ‹_› (cU ‹_›))
   | (rw [← hr, hv]; exact aFY I inv (dB ‹_›) (dB ‹_›)))
end
section
open Go
theorem zM {r0 d r : List Int} {q at_ i carry borrow : Int} (hd : Lb d) (hq : 0 ≤ q ∧ q < 4294967296) (hlr : r0.length < 134217728) (h1 : 0 ≤ i) (h2 : i < d.length) (ha : 0 ≤ at_) (hat : at_ + d.length < r0.length)
 (inv : fK r0 d q at_.toNat r i.toNat carry borrow) {i' y v b' j : Int} {t : Int × Int} (ei : i' = i) (ey : y = d.getD i.toNat 0)
 (ev : v = aA .add .u64 (aA .mul .u64 (IntKind.u64.wrap y) (IntKind.u64.wrap q)) carry)
 (et : t = ((r.getD (aA .add .i64 at_ i').toNat 0 - IntKind.u32.wrap v - borrow) % 4294967296, if r.getD (aA .add .i64 at_ i').toNat 0 < IntKind.u32.wrap v + borrow then 1 else 0))
 (eb : b' = t.2) (ej : j = aA .add .i64 i 1) {c' : Int} (ec : c' = aA .shr .u64 v 32) :
 0 ≤ j ∧ j ≤ d.length ∧ ((d.length : Int) - j).toNat < ((d.length : Int) - i).toNat ∧ fK r0 d q at_.toNat (r.set (aA .add .i64 at_ i').toNat t.1) j.toNat c' b' := by
 have hy := hd.getD i.toNat;subst ei;have st := inv.step hd hq (by omega);rw [← ey] at st hy;have c0 := inv.c0;have c1 := inv.c1;have e := wR hy hq ⟨c0, c1⟩;have eai : (aA .add .i64 at_ i').toNat = at_.toNat + i'.toNat := by
  show (IntKind.i64.wrap (at_ + i')).toNat = _;rw [wi64_id (by omega) (by omega)]; omega
 have ej' : j = i' + 1 := by rw [ej]; show IntKind.i64.wrap (i' + 1) = _; rw [wi64_id (by omega) (by omega)]
 have ev' : v = y * q + carry := by
  rw [ev, cG hy.1 (by omega), cG hq.1 (by omega)];have : aA .mul .u64 y q = y * q := cG e.1 (by omega);rw [this];exact cG (by omega) (by omega)
 have ec' : c' = v / 4294967296 := by rw [ec]; exact zB v
 rw [eai] at et ⊢;rw [wu32, ev'] at et;rw [eb, et, ec', ev', ej', show (i' + 1).toNat = i'.toNat + 1 by omega];exact ⟨by omega, by omega, by omega, st⟩
structure zK (r0 d : List Int) (q : Int) (at_ : Nat) (r : List Int) (b : Bool) : Prop where
 len : r.length = r0.length
 lb : Lb r
 same : ∀ j, at_ + d.length + 1 ≤ j → r.getD j 0 = r0.getD j 0
 val : lv r + 4294967296 ^ at_ * (q.toNat * lv d) = lv r0 + (if b then 4294967296 ^ (at_ + d.length + 1) else 0)
theorem aJV {r0 d r : List Int} {q at_ i carry borrow : Int} (hlr : r0.length < 134217728) (h2 : i ≤ d.length) (h3 : ¬ i < d.length) (ha : 0 ≤ at_) (hat : at_ + d.length < r0.length)
 (inv : fK r0 d q at_.toNat r i.toNat carry borrow) {b' : Int} {b : Bool} {t : Int × Int}
 (et : t = ((r.getD (aA .add .i64 at_ d.length).toNat 0 - IntKind.u32.wrap carry - borrow) % 4294967296, if r.getD (aA .add .i64 at_ d.length).toNat 0 < IntKind.u32.wrap carry + borrow then 1 else 0))
 (eb : b' = t.2) (e : b = cmpR .neq b' 0) : zK r0 d q at_.toNat (r.set (aA .add .i64 at_ d.length).toNat t.1) b := by
 have c0 := inv.c0;have c1 := inv.c1;rw [show i.toNat = d.length by omega] at inv;obtain ⟨k1, k2, k3, k4⟩ := inv.stop (by omega);have eai : (aA .add .i64 at_ d.length).toNat = at_.toNat + d.length := by
  show (IntKind.i64.wrap (at_ + d.length)).toNat = _;rw [wi64_id (by omega) (by omega)]; omega
 rw [eai] at et ⊢;rw [wu32, Bi c0 c1] at et;have e1 : t.1 = (r.getD (at_.toNat + d.length) 0 - carry - borrow) % 4294967296 := by rw [et]
 have e2 : b' = if r.getD (at_.toNat + d.length) 0 < carry + borrow then 1 else 0 := by rw [eb, et]
 rw [e1];refine ⟨k1, k2, k3, ?_⟩;rw [k4];congr 1;rw [e, e2];split
 · simp [cmpR]
 · simp [cmpR]
theorem yV {r0 d r : List Int} {at_ i c : Int} (hd : Lb d) (hlr : r0.length < 134217728) (h1 : 0 ≤ i) (h2 : i < d.length) (ha : 0 ≤ at_) (hat : at_ + d.length < r0.length)
 (inv : fQ r0 d at_.toNat r i.toNat c) {i' y c' j : Int} {t : Int × Int} (ei : i' = i) (ey : y = d.getD i.toNat 0)
 (et : t = ((r.getD (aA .add .i64 at_ i').toNat 0 + y + c) % 4294967296, (r.getD (aA .add .i64 at_ i').toNat 0 + y + c) / 4294967296))
 (ec : c' = t.2) (ej : j = aA .add .i64 i 1) :
 0 ≤ j ∧ j ≤ d.length ∧ ((d.length : Int) - j).toNat < ((d.length : Int) - i).toNat ∧ fQ r0 d at_.toNat (r.set (aA .add .i64 at_ i').toNat t.1) j.toNat c' := by
 subst ei;have st := inv.step hd (by omega);rw [← ey] at st;have eai : (aA .add .i64 at_ i').toNat = at_.toNat + i'.toNat := by
  show (IntKind.i64.wrap (at_ + i')).toNat = _;rw [wi64_id (by omega) (by omega)]; omega
 have ej' : j = i' + 1 := by rw [ej]; show IntKind.i64.wrap (i' + 1) = _; rw [wi64_id (by omega) (by omega)]
 rw [eai] at et ⊢;rw [ec, et, ej', show (i' + 1).toNat = i'.toNat + 1 by omega];exact ⟨by omega, by omega, by omega, st⟩
structure aLN (r0 d : List Int) (at_ : Nat) (r : List Int) : Prop where
 len : r.length = r0.length
 lb : Lb r
 same : ∀ j, at_ + d.length + 1 ≤ j → r.getD j 0 = r0.getD j 0
 val : ∃ c : Int, 0 ≤ c ∧ c ≤ 1 ∧ lv r + 4294967296 ^ (at_ + d.length + 1) * c.toNat = lv r0 + 4294967296 ^ at_ * lv d
theorem aJL {r0 d r : List Int} {at_ i c : Int} (hlr : r0.length < 134217728) (h2 : i ≤ d.length) (h3 : ¬ i < d.length) (ha : 0 ≤ at_) (hat : at_ + d.length < r0.length)
 (inv : fQ r0 d at_.toNat r i.toNat c) {v : Int} (ev : v = aA .add .u32 (r.getD (aA .add .i64 at_ d.length).toNat 0) c) : aLN r0 d at_.toNat (r.set (aA .add .i64 at_ d.length).toNat v) := by
 have c0 := inv.c0;have c1 := inv.c1;rw [show i.toNat = d.length by omega] at inv;have hx := inv.lb.getD (at_.toNat + d.length);obtain ⟨k1, k2, k3, k4⟩ := inv.stop (by omega);have eai : (aA .add .i64 at_ d.length).toNat = at_.toNat + d.length := by
  show (IntKind.i64.wrap (at_ + d.length)).toNat = _;rw [wi64_id (by omega) (by omega)]; omega
 rw [eai] at ev ⊢;have ev' : v = (r.getD (at_.toNat + d.length) 0 + c) % 4294967296 := by rw [ev]; exact wu32 _
 rw [ev'];exact ⟨k1, k2, k3, _, by omega, by omega, k4⟩
end
end Go.Proofs.YtmlcglmbjjmijaaGreatDoor.Ev
