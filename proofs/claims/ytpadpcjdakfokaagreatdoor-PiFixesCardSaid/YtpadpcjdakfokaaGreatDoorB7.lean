/- Texts of the proof, joined: W3 W4 Br17 Pu42 Pu48 Pu43 R22 D4 W9 R34 R35 R36 F2 Rd Rd2 Rd3 -/
import Derived.Test.YtpadpcjdakfokaaGreatDoorB6
import Derived.ChangeArms
import Derived.ProofKit
import Derived.RowKit
import Derived.Carry
import Derived.ChangeOld
import Derived.DataReads
set_option linter.unusedVariables false
set_option linter.unusedSimpArgs false

/- Contracts: the ratio of whole numbers. Printed by gen.py. -/
namespace Go.Proofs.YtpadpcjdakfokaaGreatDoor.Ev
open Go Go.Proofs
set_option linter.unusedVariables false
set_option linter.unusedSimpArgs false

attribute [local irreducible] Lb
theorem c_natural (m : List Int) (hm_ : Lb m) (hl : m.length ≤ 524288) : ∃ t : Nat × Int × Bool, t = natu (lv m) ∧ CallsA Tryz.prog 143 [.sli .u32 m] (.tup [.int .u64 (.s (t.1 : Int)), .int .i64 (.s t.2.1), .bool (.s t.2.2)]) := by
  refine ⟨_, rfl, ?_⟩
  generalize hr : natu (lv m) = r
  obtain ⟨L, eL⟩ : ∃ L : Int, L = blen (lv m : Int) := ⟨_, rfl⟩
  have bL : L ≤ 16777216 := by have := blen_le_len hm_; omega
  have b0 : 0 ≤ L := by rw [eL]; exact blen_nonneg _
  have lo : L ≤ 64 → r = (lv m * 2 ^ (64 - L).toNat, L - 64, false) := fun h => by rw [← hr, eL]; unfold natu; rw [if_pos (eL ▸ h)]
  have hi : 64 < L → r = (lv m / 2 ^ (L - 64).toNat, L - 64, decide (lv m / 2 ^ (L - 64).toNat * 2 ^ (L - 64).toNat ≠ lv m)) := fun h => by rw [← hr, eL]; unfold natu; rw [if_neg (by omega)]
  have l64 : L ≤ 64 → lv m * 2 ^ (64 - L).toNat < 2 ^ 64 := fun h => by rw [eL]; exact natu_lo (eL ▸ h)
  have h64 : 64 < L → lv m / 2 ^ (L - 64).toNat < 2 ^ 64 := fun h => by rw [eL]; exact natu_hi (eL ▸ h)
  have ml : m.length < 67108864 := by omega
  clear hr
  refine callsA_of hG hm Tryz.func143 (by kernel_rfl) ?_
  intro E hE lp hl'
  cbv
  (first | (apply E_pcallX hE (c_natLen m hm_ ml); (case hm => rfl); (case hle => (repeat' (first | exact u_nil | apply u_cons | apply u2_agg | exact u2_int | exact u1_int | exact u2_bool | exact u1_bool | exact u2_sli | exact u1_sli | exact u2_s0 | exact u1_s0))); all_goals (first | (intro t ht; cbv) | (assumption))) | (apply E_callX hE (c_natLen m hm_ ml); (case hf => rfl); (case hc => (cbv <;> trivial)); (case hle => (repeat' (first | exact u_nil | apply u_cons | apply u2_agg | exact u2_int | exact u1_int | exact u2_bool | exact u1_bool | exact u2_sli | exact u1_sli | exact u2_s0 | exact u1_s0))); all_goals (first | (intro t ht; cbv) | (assumption))))
  have et : t = L := Eq.trans ht eL.symm
  clear ht eL
  have eb : E.bin .sub .i64 t 64 = L - 64 := by subst hE; show IntKind.i64.wrap (t - 64) = _; rw [et, wi64_in (by omega) (by omega)]
  refine E_nm hE (fun y hy' => ?_); cbv
  have hy : y = L - 64 := hy'.trans eb
  clear eb hy' et
  refine E_br hE (fun g => ?_) (fun g => ?_) <;> cbv
  · have g : y ≤ 0 := by subst hE; exact leq_t g
    have en : E.bin .sub .i64 0 y = 64 - L := by subst hE; show IntKind.i64.wrap (0 - y) = _; rw [wi64_in (by omega) (by omega)]; omega
    have l64 := l64 (by omega)
    have sh : (if 64 - L < 1 then lim (lv m) else if 16777216 < 64 - L then [] else lim (lv m * 2 ^ (64 - L).toNat)) = lim (lv m * 2 ^ (64 - L).toNat) := by
      split
      · rw [show (64 - L).toNat = 0 by omega, Nat.pow_zero, Nat.mul_one]
      · rw [if_neg (by omega)]
    have R := lo (by omega)
    (first | (apply E_pcallX hE (c_natShl m _ hm_ ml); (case hm => rfl); (case hle => (repeat' (first | exact u_nil | apply u_cons | apply u2_agg | exact u2_int | exact u1_int | exact u2_bool | exact u1_bool | exact u2_sli | exact u1_sli | exact u2_s0 | exact u1_s0))); all_goals (first | (intro u hu; cbv) | (assumption))) | (apply E_callX hE (c_natShl m _ hm_ ml); (case hf => rfl); (case hc => (cbv <;> trivial)); (case hle => (repeat' (first | exact u_nil | apply u_cons | apply u2_agg | exact u2_int | exact u1_int | exact u2_bool | exact u1_bool | exact u2_sli | exact u1_sli | exact u2_s0 | exact u1_s0))); all_goals (first | (intro u hu; cbv) | (assumption))))
    have hu : u = lim (lv m * 2 ^ (64 - L).toNat) := by
      have k : u = (if E.bin .sub .i64 0 y < 1 then lim (lv m) else if 16777216 < E.bin .sub .i64 0 y then [] else lim (lv m * 2 ^ (E.bin .sub .i64 0 y).toNat)) := hu
      rw [en] at k
      exact k.trans sh
    have ul : Lb u := by rw [hu]; exact lim_lb _
    have u2 : u.length ≤ 2 := by rw [hu]; exact two64 l64
    (first | (apply E_pcallX hE (c_word u ul u2); (case hm => rfl); (case hle => (repeat' (first | exact u_nil | apply u_cons | apply u2_agg | exact u2_int | exact u1_int | exact u2_bool | exact u1_bool | exact u2_sli | exact u1_sli | exact u2_s0 | exact u1_s0))); all_goals (first | (intro v hv; cbv) | (assumption))) | (apply E_callX hE (c_word u ul u2); (case hf => rfl); (case hc => (cbv <;> trivial)); (case hle => (repeat' (first | exact u_nil | apply u_cons | apply u2_agg | exact u2_int | exact u1_int | exact u2_bool | exact u1_bool | exact u2_sli | exact u1_sli | exact u2_s0 | exact u1_s0))); all_goals (first | (intro v hv; cbv) | (assumption))))
    have hv : v = ((lv m * 2 ^ (64 - L).toNat : Nat) : Int) := by have k : v = lv u := hv; rw [k, hu, lv_lim]
    refine E_nm hE (fun q1 h1q => ?_); cbv
    refine E_nm hE (fun q2 h2q => ?_); cbv
    rw [R]
    exact ⟨h1q.trans hv, h2q.trans hy, rfl, trivial⟩
  · have g : ¬ y ≤ 0 := by subst hE; exact leq_f g
    have R := hi (by omega)
    have h64 := h64 (by omega)
    rw [← hy] at R h64
    have yb : y ≤ 16777216 := by omega
    have y1 : ¬ y < 1 := by omega
    (first | (apply E_pcallX hE (c_natShr m y hm_ ml); (case hm => rfl); (case hle => (repeat' (first | exact u_nil | apply u_cons | apply u2_agg | exact u2_int | exact u1_int | exact u2_bool | exact u1_bool | exact u2_sli | exact u1_sli | exact u2_s0 | exact u1_s0))); all_goals (first | (intro u hu; cbv) | (assumption))) | (apply E_callX hE (c_natShr m y hm_ ml); (case hf => rfl); (case hc => (cbv <;> trivial)); (case hle => (repeat' (first | exact u_nil | apply u_cons | apply u2_agg | exact u2_int | exact u1_int | exact u2_bool | exact u1_bool | exact u2_sli | exact u1_sli | exact u2_s0 | exact u1_s0))); all_goals (first | (intro u hu; cbv) | (assumption))))
    have hu : u = lim (lv m / 2 ^ y.toNat) := hu
    have u2 : u.length ≤ 2 := by rw [hu]; exact two64 h64
    have ul : Lb u := by rw [hu]; exact lim_lb _
    have uv : lv u = lv m / 2 ^ y.toNat := by rw [hu, lv_lim]
    have uk : u.length < 67108864 := by omega
    (first | (apply E_pcallX hE (c_word u ul u2); (case hm => rfl); (case hle => (repeat' (first | exact u_nil | apply u_cons | apply u2_agg | exact u2_int | exact u1_int | exact u2_bool | exact u1_bool | exact u2_sli | exact u1_sli | exact u2_s0 | exact u1_s0))); all_goals (first | (intro v hv; cbv) | (assumption))) | (apply E_callX hE (c_word u ul u2); (case hf => rfl); (case hc => (cbv <;> trivial)); (case hle => (repeat' (first | exact u_nil | apply u_cons | apply u2_agg | exact u2_int | exact u1_int | exact u2_bool | exact u1_bool | exact u2_sli | exact u1_sli | exact u2_s0 | exact u1_s0))); all_goals (first | (intro v hv; cbv) | (assumption))))
    have hv : v = ((lv m / 2 ^ y.toNat : Nat) : Int) := by have k : v = lv u := hv; rw [k, uv]
    (first | (apply E_pcallX hE (c_natShl u y ul uk); (case hm => rfl); (case hle => (repeat' (first | exact u_nil | apply u_cons | apply u2_agg | exact u2_int | exact u1_int | exact u2_bool | exact u1_bool | exact u2_sli | exact u1_sli | exact u2_s0 | exact u1_s0))); all_goals (first | (intro s hs; cbv) | (assumption))) | (apply E_callX hE (c_natShl u y ul uk); (case hf => rfl); (case hc => (cbv <;> trivial)); (case hle => (repeat' (first | exact u_nil | apply u_cons | apply u2_agg | exact u2_int | exact u1_int | exact u2_bool | exact u1_bool | exact u2_sli | exact u1_sli | exact u2_s0 | exact u1_s0))); all_goals (first | (intro s hs; cbv) | (assumption))))
    have hs : s = lim (lv m / 2 ^ y.toNat * 2 ^ y.toNat) := by
      have k : s = (if y < 1 then lim (lv u) else if 16777216 < y then [] else lim (lv u * 2 ^ y.toNat)) := hs
      rw [k, if_neg y1, if_neg (by omega), uv]
    have sl : s.length ≤ 268435456 := by
      have := lim_mono (Nat.div_mul_le_self (lv m) (2 ^ y.toNat))
      have := lim_length_le' hm_
      rw [hs]; omega
    have sb : Lb s := by rw [hs]; exact lim_lb _
    have ml2 : m.length ≤ 268435456 := by omega
    (first | (apply E_pcallX hE (c_natCmp s m sb hm_ sl ml2); (case hm => rfl); (case hle => (repeat' (first | exact u_nil | apply u_cons | apply u2_agg | exact u2_int | exact u1_int | exact u2_bool | exact u1_bool | exact u2_sli | exact u1_sli | exact u2_s0 | exact u1_s0))); all_goals (first | (intro c hc; cbv) | (assumption))) | (apply E_callX hE (c_natCmp s m sb hm_ sl ml2); (case hf => rfl); (case hc => (cbv <;> trivial)); (case hle => (repeat' (first | exact u_nil | apply u_cons | apply u2_agg | exact u2_int | exact u1_int | exact u2_bool | exact u1_bool | exact u2_sli | exact u1_sli | exact u2_s0 | exact u1_s0))); all_goals (first | (intro c hc; cbv) | (assumption))))
    refine E_nm hE (fun q1 h1q => ?_); cbv
    refine E_nm hE (fun q2 h2q => ?_); cbv
    rw [R]
    refine ⟨h1q.trans hv, h2q, ?_, trivial⟩
    have hc : c = (if lv s < lv m then -1 else if lv m < lv s then 1 else 0 : Int) := hc
    rw [hs, lv_lim] at hc
    subst hE
    show cmpR .neq c 0 = decide (lv m / 2 ^ y.toNat * 2 ^ y.toNat ≠ lv m)
    rw [cmp_neq]
    apply decide_eq_decide.2
    have := Nat.div_mul_le_self (lv m) (2 ^ y.toNat)
    generalize lv m / 2 ^ y.toNat * 2 ^ y.toNat = q at *
    rw [hc]
    split
    · constructor <;> intro _ <;> omega
    · rw [if_neg (by omega)]; constructor
      · intro h; exact absurd rfl h
      · intro h; omega

theorem c_qRatio (na : Bool) (a : List Int) (nb : Bool) (b : List Int) (up : Bool) (ha : Lb a) (hb : Lb b) (hla : a.length ≤ 100000) (hlb : b.length ≤ 100000) :
    ∃ t : Num, t = ratioN na (lv a) nb (lv b) up ∧ CallsA Tryz.prog 64 [.agg [.bool (.s na), .sli .u32 a], .agg [.bool (.s nb), .sli .u32 b], .bool (.s up)] t.av := by
  refine ⟨_, rfl, ?_⟩
  generalize hr : ratioN na (lv a) nb (lv b) up = r
  obtain ⟨LA, eA⟩ : ∃ L : Int, L = blen (lv a : Int) := ⟨_, rfl⟩
  obtain ⟨LB, eB⟩ : ∃ L : Int, L = blen (lv b : Int) := ⟨_, rfl⟩
  have ba : LA ≤ 3200000 := by have := blen_le_len ha; omega
  have bb : LB ≤ 3200000 := by have := blen_le_len hb; omega
  have ba0 : 0 ≤ LA := by rw [eA]; exact blen_nonneg _
  have bb0 : 0 ≤ LB := by rw [eB]; exact blen_nonneg _
  have la1 : a.length < 67108864 := by omega
  have lb1 : b.length < 67108864 := by omega
  have lb2 : b.length < 33554432 := by omega
  have fb : lv b = 0 → r = Num.inf (!up) := fun h => by rw [← hr]; unfold ratioN; rw [if_pos h]
  have fa : lv b ≠ 0 → lv a = 0 → Num.zero = r := fun h k => by rw [← hr]; unfold ratioN; rw [if_neg h, if_pos k]
  have fin0 : lv b ≠ 0 → lv a ≠ 0 → ∀ B : Int, B = max 0 (65 + LB - LA) → r = Num.grow (na != nb) ((natu (lv a * 2 ^ B.toNat / lv b)).1 : Int) ((natu (lv a * 2 ^ B.toNat / lv b)).2.1 - B) ((natu (lv a * 2 ^ B.toNat / lv b)).2.2 || decide (lv a * 2 ^ B.toNat % lv b ≠ 0)) (up != (na != nb)) :=
    fun h k B hB => by rw [← hr, hB, eA, eB]; unfold ratioN; rw [if_neg h, if_neg k]
  clear hr
  refine callsA_of hG hm Tryz.func64 (by kernel_rfl) ?_
  intro E hE lp hl'
  have ex : ∀ x y : Int, 0 ≤ x → x ≤ 3200000 → 0 ≤ y → y ≤ 3200000 → E.bin .sub .i64 (E.bin .add .i64 65 x) y = 65 + x - y := by
    intro x y h1 h2 h3 h4
    subst hE
    show IntKind.i64.wrap (IntKind.i64.wrap (65 + x) - y) = _
    rw [wi64_in (n := 65 + x) (by omega) (by omega), wi64_in (by omega) (by omega)]
  cbv
  (first | (apply E_pcallX hE (c_wSign nb b hb lb1); (case hm => rfl); (case hle => (repeat' (first | exact u_nil | apply u_cons | apply u2_agg | exact u2_int | exact u1_int | exact u2_bool | exact u1_bool | exact u2_sli | exact u1_sli | exact u2_s0 | exact u1_s0))); all_goals (first | (intro s hs; cbv) | (assumption))) | (apply E_callX hE (c_wSign nb b hb lb1); (case hf => rfl); (case hc => (cbv <;> trivial)); (case hle => (repeat' (first | exact u_nil | apply u_cons | apply u2_agg | exact u2_int | exact u1_int | exact u2_bool | exact u1_bool | exact u2_sli | exact u1_sli | exact u2_s0 | exact u1_s0))); all_goals (first | (intro s hs; cbv) | (assumption))))
  have hs : s = (if lv b = 0 then 0 else if nb then -1 else 1) := hs
  refine E_br hE (fun g => ?_) (fun g => ?_) <;> cbv
  · have nb0 : lv b = 0 := by
      have g : s = 0 := by subst hE; exact eql_t g
      rw [hs] at g
      by_cases h : lv b = 0
      · exact h
      · rw [if_neg h] at g; split at g <;> cases g
    (first | (apply E_pcallX hE (c_Inf _); (case hm => rfl); (case hle => (repeat' (first | exact u_nil | apply u_cons | apply u2_agg | exact u2_int | exact u1_int | exact u2_bool | exact u1_bool | exact u2_sli | exact u1_sli | exact u2_s0 | exact u1_s0))); all_goals (first | (intro z hz; cbv) | (assumption))) | (apply E_callX hE (c_Inf _); (case hf => rfl); (case hc => (cbv <;> trivial)); (case hle => (repeat' (first | exact u_nil | apply u_cons | apply u2_agg | exact u2_int | exact u1_int | exact u2_bool | exact u1_bool | exact u2_sli | exact u1_sli | exact u2_s0 | exact u1_s0))); all_goals (first | (intro z hz; cbv) | (assumption))))
    rw [fb nb0, ← show z = Num.inf (!up) by subst hE; exact hz]
    exact ⟨rfl, rfl, rfl, rfl, trivial⟩
  have nb0 : lv b ≠ 0 := by
    intro h
    have g : ¬ s = 0 := by subst hE; exact eql_f g
    rw [hs, if_pos h] at g; exact g rfl
  clear hs g
  (first | (apply E_pcallX hE (c_wSign na a ha la1); (case hm => rfl); (case hle => (repeat' (first | exact u_nil | apply u_cons | apply u2_agg | exact u2_int | exact u1_int | exact u2_bool | exact u1_bool | exact u2_sli | exact u1_sli | exact u2_s0 | exact u1_s0))); all_goals (first | (intro s2 hs2; cbv) | (assumption))) | (apply E_callX hE (c_wSign na a ha la1); (case hf => rfl); (case hc => (cbv <;> trivial)); (case hle => (repeat' (first | exact u_nil | apply u_cons | apply u2_agg | exact u2_int | exact u1_int | exact u2_bool | exact u1_bool | exact u2_sli | exact u1_sli | exact u2_s0 | exact u1_s0))); all_goals (first | (intro s2 hs2; cbv) | (assumption))))
  have hs2 : s2 = (if lv a = 0 then 0 else if na then -1 else 1) := hs2
  refine E_br hE (fun g => ?_) (fun g => ?_) <;> cbv
  · have na0 : lv a = 0 := by
      have g : s2 = 0 := by subst hE; exact eql_t g
      rw [hs2] at g
      by_cases h : lv a = 0
      · exact h
      · rw [if_neg h] at g; split at g <;> cases g
    rw [← fa nb0 na0]
    exact ⟨rfl, rfl, rfl, rfl, trivial⟩
  have na0 : lv a ≠ 0 := by
    intro h
    have g : ¬ s2 = 0 := by subst hE; exact eql_f g
    rw [hs2, if_pos h] at g; exact g rfl
  clear hs2 g
  have fin := fin0 nb0 na0
  clear fin0 fa fb
  (first | (apply E_pcallX hE (c_natLen b hb lb1); (case hm => rfl); (case hle => (repeat' (first | exact u_nil | apply u_cons | apply u2_agg | exact u2_int | exact u1_int | exact u2_bool | exact u1_bool | exact u2_sli | exact u1_sli | exact u2_s0 | exact u1_s0))); all_goals (first | (intro tb htb; cbv) | (assumption))) | (apply E_callX hE (c_natLen b hb lb1); (case hf => rfl); (case hc => (cbv <;> trivial)); (case hle => (repeat' (first | exact u_nil | apply u_cons | apply u2_agg | exact u2_int | exact u1_int | exact u2_bool | exact u1_bool | exact u2_sli | exact u1_sli | exact u2_s0 | exact u1_s0))); all_goals (first | (intro tb htb; cbv) | (assumption))))
  have htb : tb = LB := Eq.trans htb eB.symm
  (first | (apply E_pcallX hE (c_natLen a ha la1); (case hm => rfl); (case hle => (repeat' (first | exact u_nil | apply u_cons | apply u2_agg | exact u2_int | exact u1_int | exact u2_bool | exact u1_bool | exact u2_sli | exact u1_sli | exact u2_s0 | exact u1_s0))); all_goals (first | (intro ta hta; cbv) | (assumption))) | (apply E_callX hE (c_natLen a ha la1); (case hf => rfl); (case hc => (cbv <;> trivial)); (case hle => (repeat' (first | exact u_nil | apply u_cons | apply u2_agg | exact u2_int | exact u1_int | exact u2_bool | exact u1_bool | exact u2_sli | exact u1_sli | exact u2_s0 | exact u1_s0))); all_goals (first | (intro ta hta; cbv) | (assumption))))
  have hta : ta = LA := Eq.trans hta eA.symm
  rw [← htb, ← hta] at fin
  have eX := ex tb ta (by omega) (by omega) (by omega) (by omega)
  obtain ⟨B, eB⟩ : ∃ B, B = max 0 (65 + tb - ta) := ⟨_, rfl⟩
  have hB := eB
  have B0 : 0 ≤ B := by omega
  have B1 : B ≤ 3200065 := by omega
  refine E_br hE (fun g => ?_) (fun g => ?_) <;> cbv
  · have g : 0 < 65 + tb - ta := by rw [← eX]; subst hE; exact gtr_t g
    refine E_nm hE (fun y hy => ?_); cbv
    have eB : B = y := by have k : y = 65 + tb - ta := hy.trans eX; omega
    (first | (apply E_pcallX hE (c_natShl a y ha la1); (case hm => rfl); (case hle => (repeat' (first | exact u_nil | apply u_cons | apply u2_agg | exact u2_int | exact u1_int | exact u2_bool | exact u1_bool | exact u2_sli | exact u1_sli | exact u2_s0 | exact u1_s0))); all_goals (first | (intro u hu; cbv) | (assumption))) | (apply E_callX hE (c_natShl a y ha la1); (case hf => rfl); (case hc => (cbv <;> trivial)); (case hle => (repeat' (first | exact u_nil | apply u_cons | apply u2_agg | exact u2_int | exact u1_int | exact u2_bool | exact u1_bool | exact u2_sli | exact u1_sli | exact u2_s0 | exact u1_s0))); all_goals (first | (intro u hu; cbv) | (assumption))))
    have hu : u = lim (lv a * 2 ^ B.toNat) := by
      have k : u = (if y < 1 then lim (lv a) else if 16777216 < y then [] else lim (lv a * 2 ^ (y : Int).toNat)) := hu
      rw [k, eB]
      split
      · rw [show (y : Int).toNat = 0 by omega, Nat.pow_zero, Nat.mul_one]
      · rw [if_neg (by omega)]
    have lu : Lb u := by rw [hu]; exact lim_lb _
    have vu : lv u = lv a * 2 ^ B.toNat := by rw [hu, lv_lim]
    have uu : u.length ≤ 200004 := by
      have k : ∀ M : Nat, B.toNat ≤ 32 * M → u.length ≤ a.length + M := by
        intro M hM
        rw [hu]
        refine lim_length_le ?_
        have h1 := lv_lt ha
        calc lv a * 2 ^ B.toNat < 4294967296 ^ a.length * 2 ^ B.toNat := Nat.mul_lt_mul_of_pos_right h1 (Nat.two_pow_pos _)
          _ ≤ 4294967296 ^ a.length * 2 ^ (32 * M) := Nat.mul_le_mul_left _ (Nat.pow_le_pow_right (by decide) hM)
          _ = 4294967296 ^ (a.length + M) := by rw [Nat.pow_mul, show (2 : Nat) ^ 32 = 4294967296 by rfl, Nat.pow_add]
      have := k 100003 (by omega)
      omega
    have ul1 : u.length < 33554432 := by omega
    (first | (apply E_pcallX hE (c_natDiv u b lu hb ul1 lb2); (case hm => rfl); (case hle => (repeat' (first | exact u_nil | apply u_cons | apply u2_agg | exact u2_int | exact u1_int | exact u2_bool | exact u1_bool | exact u2_sli | exact u1_sli | exact u2_s0 | exact u1_s0))); all_goals (first | (intro t ht; cbv) | (assumption))) | (apply E_callX hE (c_natDiv u b lu hb ul1 lb2); (case hf => rfl); (case hc => (cbv <;> trivial)); (case hle => (repeat' (first | exact u_nil | apply u_cons | apply u2_agg | exact u2_int | exact u1_int | exact u2_bool | exact u1_bool | exact u2_sli | exact u1_sli | exact u2_s0 | exact u1_s0))); all_goals (first | (intro t ht; cbv) | (assumption))))
    have ht : t = (lim (lv u / lv b), lim (lv u % lv b), true) := by
      have k : t = (if lv b = 0 then ([], [], false) else (lim (lv u / lv b), lim (lv u % lv b), true)) := ht
      rw [k, if_neg nb0]
    have lq : Lb t.1 := by rw [ht]; exact lim_lb _
    have qq : t.1.length ≤ 200004 := by
      rw [ht]; show (lim (lv u / lv b)).length ≤ 200004; have := lim_mono (Nat.div_le_self (lv u) (lv b)); have := lim_length_le' lu; omega
    have vq : lv t.1 = lv a * 2 ^ B.toNat / lv b := by rw [ht, lv_lim, vu]
    have nq := natu_e (n := lv t.1) (Nat.le_trans (lim_length_le' lq) qq)
    have ql1 : t.1.length ≤ 524288 := by omega
    (first | (apply E_pcallX hE (c_natural t.1 lq ql1); (case hm => rfl); (case hle => (repeat' (first | exact u_nil | apply u_cons | apply u2_agg | exact u2_int | exact u1_int | exact u2_bool | exact u1_bool | exact u2_sli | exact u1_sli | exact u2_s0 | exact u1_s0))); all_goals (first | (intro n hn; cbv) | (assumption))) | (apply E_callX hE (c_natural t.1 lq ql1); (case hf => rfl); (case hc => (cbv <;> trivial)); (case hle => (repeat' (first | exact u_nil | apply u_cons | apply u2_agg | exact u2_int | exact u1_int | exact u2_bool | exact u1_bool | exact u2_sli | exact u1_sli | exact u2_s0 | exact u1_s0))); all_goals (first | (intro n hn; cbv) | (assumption))))
    have hn : n = natu (lv a * 2 ^ B.toNat / lv b) := by have k : n = natu (lv t.1) := hn; rw [k, vq]
    rw [vq, ← hn] at nq
    have F := fin B hB
    rw [← hn] at F
    refine E_nm hE (fun q1 h1q => ?_); cbv
    refine E_nm hE (fun q2 h2q => ?_); cbv
    have h1q : q1 = (n.1 : Int) := h1q
    have h2q : q2 = n.2.1 := h2q
    have ee : E.bin .sub .i64 q2 y = n.2.1 - B := by subst hE; rw [eB, h2q]; show IntKind.i64.wrap (n.2.1 - y) = _; rw [wi64_in (by omega) (by omega)]
    have rr : E.cmp .gtr (E.len t.2.1) 0 = decide (lv a * 2 ^ B.toNat % lv b ≠ 0) := by
      subst hE
      show decide ((0 : Int) < (t.2.1.length : Int)) = _
      rw [ht, vu]
      apply decide_eq_decide.2
      have := limp (lv a * 2 ^ B.toNat % lv b)
      constructor
      · intro h; exact this.1 (by exact_mod_cast h)
      · intro h; exact_mod_cast this.2 h
    refine E_br hE (fun c => ?_) (fun c => ?_) <;> cbv
    · rw [c, Bool.true_or, ← ee, ← h1q] at F
      (first | (apply E_pcallX hE (c_Grow _ _ _ _ _); (case hm => rfl); (case hle => (repeat' (first | exact u_nil | apply u_cons | apply u2_agg | exact u2_int | exact u1_int | exact u2_bool | exact u1_bool | exact u2_sli | exact u1_sli | exact u2_s0 | exact u1_s0))); all_goals (first | (intro z hz; cbv) | (assumption))) | (apply E_callX hE (c_Grow _ _ _ _ _); (case hf => rfl); (case hc => (cbv <;> trivial)); (case hle => (repeat' (first | exact u_nil | apply u_cons | apply u2_agg | exact u2_int | exact u1_int | exact u2_bool | exact u1_bool | exact u2_sli | exact u1_sli | exact u2_s0 | exact u1_s0))); all_goals (first | (intro z hz; cbv) | (assumption))))
      have k : z = r := hz.trans (F.trans (by subst hE; rfl)).symm
      rw [← k]
      exact ⟨rfl, rfl, rfl, rfl, trivial⟩
    · rw [c, Bool.false_or, ← rr, ← ee, ← h1q] at F
      (first | (apply E_pcallX hE (c_Grow _ _ _ _ _); (case hm => rfl); (case hle => (repeat' (first | exact u_nil | apply u_cons | apply u2_agg | exact u2_int | exact u1_int | exact u2_bool | exact u1_bool | exact u2_sli | exact u1_sli | exact u2_s0 | exact u1_s0))); all_goals (first | (intro z hz; cbv) | (assumption))) | (apply E_callX hE (c_Grow _ _ _ _ _); (case hf => rfl); (case hc => (cbv <;> trivial)); (case hle => (repeat' (first | exact u_nil | apply u_cons | apply u2_agg | exact u2_int | exact u1_int | exact u2_bool | exact u1_bool | exact u2_sli | exact u1_sli | exact u2_s0 | exact u1_s0))); all_goals (first | (intro z hz; cbv) | (assumption))))
      have k : z = r := hz.trans (F.trans (by subst hE; rfl)).symm
      rw [← k]
      exact ⟨rfl, rfl, rfl, rfl, trivial⟩

  · have g : ¬ 0 < 65 + tb - ta := by rw [← eX]; subst hE; exact gtr_f g
    have eB : B = 0 := by omega
    (first | (apply E_pcallX hE (c_natShl a 0 ha la1); (case hm => rfl); (case hle => (repeat' (first | exact u_nil | apply u_cons | apply u2_agg | exact u2_int | exact u1_int | exact u2_bool | exact u1_bool | exact u2_sli | exact u1_sli | exact u2_s0 | exact u1_s0))); all_goals (first | (intro u hu; cbv) | (assumption))) | (apply E_callX hE (c_natShl a 0 ha la1); (case hf => rfl); (case hc => (cbv <;> trivial)); (case hle => (repeat' (first | exact u_nil | apply u_cons | apply u2_agg | exact u2_int | exact u1_int | exact u2_bool | exact u1_bool | exact u2_sli | exact u1_sli | exact u2_s0 | exact u1_s0))); all_goals (first | (intro u hu; cbv) | (assumption))))
    have hu : u = lim (lv a * 2 ^ B.toNat) := by
      have k : u = (if 0 < 1 then lim (lv a) else if 16777216 < 0 then [] else lim (lv a * 2 ^ (0 : Int).toNat)) := hu
      rw [k, eB]
      split
      · rw [show (0 : Int).toNat = 0 by omega, Nat.pow_zero, Nat.mul_one]
      · rw [if_neg (by omega)]
    have lu : Lb u := by rw [hu]; exact lim_lb _
    have vu : lv u = lv a * 2 ^ B.toNat := by rw [hu, lv_lim]
    have uu : u.length ≤ 200004 := by
      have k : ∀ M : Nat, B.toNat ≤ 32 * M → u.length ≤ a.length + M := by
        intro M hM
        rw [hu]
        refine lim_length_le ?_
        have h1 := lv_lt ha
        calc lv a * 2 ^ B.toNat < 4294967296 ^ a.length * 2 ^ B.toNat := Nat.mul_lt_mul_of_pos_right h1 (Nat.two_pow_pos _)
          _ ≤ 4294967296 ^ a.length * 2 ^ (32 * M) := Nat.mul_le_mul_left _ (Nat.pow_le_pow_right (by decide) hM)
          _ = 4294967296 ^ (a.length + M) := by rw [Nat.pow_mul, show (2 : Nat) ^ 32 = 4294967296 by rfl, Nat.pow_add]
      have := k 100003 (by omega)
      omega
    have ul1 : u.length < 33554432 := by omega
    (first | (apply E_pcallX hE (c_natDiv u b lu hb ul1 lb2); (case hm => rfl); (case hle => (repeat' (first | exact u_nil | apply u_cons | apply u2_agg | exact u2_int | exact u1_int | exact u2_bool | exact u1_bool | exact u2_sli | exact u1_sli | exact u2_s0 | exact u1_s0))); all_goals (first | (intro t ht; cbv) | (assumption))) | (apply E_callX hE (c_natDiv u b lu hb ul1 lb2); (case hf => rfl); (case hc => (cbv <;> trivial)); (case hle => (repeat' (first | exact u_nil | apply u_cons | apply u2_agg | exact u2_int | exact u1_int | exact u2_bool | exact u1_bool | exact u2_sli | exact u1_sli | exact u2_s0 | exact u1_s0))); all_goals (first | (intro t ht; cbv) | (assumption))))
    have ht : t = (lim (lv u / lv b), lim (lv u % lv b), true) := by
      have k : t = (if lv b = 0 then ([], [], false) else (lim (lv u / lv b), lim (lv u % lv b), true)) := ht
      rw [k, if_neg nb0]
    have lq : Lb t.1 := by rw [ht]; exact lim_lb _
    have qq : t.1.length ≤ 200004 := by
      rw [ht]; show (lim (lv u / lv b)).length ≤ 200004; have := lim_mono (Nat.div_le_self (lv u) (lv b)); have := lim_length_le' lu; omega
    have vq : lv t.1 = lv a * 2 ^ B.toNat / lv b := by rw [ht, lv_lim, vu]
    have nq := natu_e (n := lv t.1) (Nat.le_trans (lim_length_le' lq) qq)
    have ql1 : t.1.length ≤ 524288 := by omega
    (first | (apply E_pcallX hE (c_natural t.1 lq ql1); (case hm => rfl); (case hle => (repeat' (first | exact u_nil | apply u_cons | apply u2_agg | exact u2_int | exact u1_int | exact u2_bool | exact u1_bool | exact u2_sli | exact u1_sli | exact u2_s0 | exact u1_s0))); all_goals (first | (intro n hn; cbv) | (assumption))) | (apply E_callX hE (c_natural t.1 lq ql1); (case hf => rfl); (case hc => (cbv <;> trivial)); (case hle => (repeat' (first | exact u_nil | apply u_cons | apply u2_agg | exact u2_int | exact u1_int | exact u2_bool | exact u1_bool | exact u2_sli | exact u1_sli | exact u2_s0 | exact u1_s0))); all_goals (first | (intro n hn; cbv) | (assumption))))
    have hn : n = natu (lv a * 2 ^ B.toNat / lv b) := by have k : n = natu (lv t.1) := hn; rw [k, vq]
    rw [vq, ← hn] at nq
    have F := fin B hB
    rw [← hn] at F
    refine E_nm hE (fun q1 h1q => ?_); cbv
    refine E_nm hE (fun q2 h2q => ?_); cbv
    have h1q : q1 = (n.1 : Int) := h1q
    have h2q : q2 = n.2.1 := h2q
    have ee : E.bin .sub .i64 q2 0 = n.2.1 - B := by subst hE; rw [eB, h2q]; show IntKind.i64.wrap (n.2.1 - 0) = _; rw [wi64_in (by omega) (by omega)]
    have rr : E.cmp .gtr (E.len t.2.1) 0 = decide (lv a * 2 ^ B.toNat % lv b ≠ 0) := by
      subst hE
      show decide ((0 : Int) < (t.2.1.length : Int)) = _
      rw [ht, vu]
      apply decide_eq_decide.2
      have := limp (lv a * 2 ^ B.toNat % lv b)
      constructor
      · intro h; exact this.1 (by exact_mod_cast h)
      · intro h; exact_mod_cast this.2 h
    refine E_br hE (fun c => ?_) (fun c => ?_) <;> cbv
    · rw [c, Bool.true_or, ← ee, ← h1q] at F
      (first | (apply E_pcallX hE (c_Grow _ _ _ _ _); (case hm => rfl); (case hle => (repeat' (first | exact u_nil | apply u_cons | apply u2_agg | exact u2_int | exact u1_int | exact u2_bool | exact u1_bool | exact u2_sli | exact u1_sli | exact u2_s0 | exact u1_s0))); all_goals (first | (intro z hz; cbv) | (assumption))) | (apply E_callX hE (c_Grow _ _ _ _ _); (case hf => rfl); (case hc => (cbv <;> trivial)); (case hle => (repeat' (first | exact u_nil | apply u_cons | apply u2_agg | exact u2_int | exact u1_int | exact u2_bool | exact u1_bool | exact u2_sli | exact u1_sli | exact u2_s0 | exact u1_s0))); all_goals (first | (intro z hz; cbv) | (assumption))))
      have k : z = r := hz.trans (F.trans (by subst hE; rfl)).symm
      rw [← k]
      exact ⟨rfl, rfl, rfl, rfl, trivial⟩
    · rw [c, Bool.false_or, ← rr, ← ee, ← h1q] at F
      (first | (apply E_pcallX hE (c_Grow _ _ _ _ _); (case hm => rfl); (case hle => (repeat' (first | exact u_nil | apply u_cons | apply u2_agg | exact u2_int | exact u1_int | exact u2_bool | exact u1_bool | exact u2_sli | exact u1_sli | exact u2_s0 | exact u1_s0))); all_goals (first | (intro z hz; cbv) | (assumption))) | (apply E_callX hE (c_Grow _ _ _ _ _); (case hf => rfl); (case hc => (cbv <;> trivial)); (case hle => (repeat' (first | exact u_nil | apply u_cons | apply u2_agg | exact u2_int | exact u1_int | exact u2_bool | exact u1_bool | exact u2_sli | exact u1_sli | exact u2_s0 | exact u1_s0))); all_goals (first | (intro z hz; cbv) | (assumption))))
      have k : z = r := hz.trans (F.trans (by subst hE; rfl)).symm
      rw [← k]
      exact ⟨rfl, rfl, rfl, rfl, trivial⟩

end Go.Proofs.YtpadpcjdakfokaaGreatDoor.Ev

/- Contracts: the next number, a half; a number divided by ten. Printed by gen.py. -/
namespace Go.Proofs.YtpadpcjdakfokaaGreatDoor.Ev
open Go Go.Proofs
set_option linter.unusedVariables false
set_option linter.unusedSimpArgs false

attribute [local irreducible] Lb
/-- the next number above, or below -/
def Num.next (n : Num) (up : Bool) : Num :=
  if n.fair.kind = 0 then Num.tiny (!up)
  else if n.fair.kind = 2 then (if n.fair.neg = up then Num.huge n.fair.neg else n.fair)
  else if n.fair.neg ≠ up then Num.grow n.fair.neg n.fair.m n.fair.e true true
  else if n.fair.m = 9223372036854775808 then Num.bound n.fair.neg 18446744073709551615 (IntKind.i64.wrap (n.fair.e - 1)) false
  else ⟨n.fair.kind, n.fair.neg, IntKind.u64.wrap (n.fair.m - 1), n.fair.e⟩

theorem c_Next (n : Num) (up : Bool)  : ∃ t : Num, t = Num.next n up ∧ CallsA Tryz.prog 51 [n.av, .bool (.s up)] (t.av) := by
  refine ⟨_, rfl, ?_⟩
  generalize hr : Num.next n up = r
  refine callsA_of hG hm Tryz.func51 (by kernel_rfl) ?_
  intro E hE lp hl
  cbv
  repeat' (first
    | (refine E_br hE (fun h => ?_) (fun h => ?_) <;> cbv)
    | (refine E_nm hE (fun v hv => ?_); cbv)
    | (apply E_callX hE (c_fair ⟨_, _, _, _⟩); (case hf => rfl); (case hc => (cbv <;> trivial)); (case hle => (repeat' (first | exact u_nil | apply u_cons | apply u2_agg | exact u2_int | exact u1_int | exact u2_bool | exact u1_bool | exact u2_sli | exact u1_sli | exact u2_s0 | exact u1_s0))); intro t ht; cbv)
    | (apply E_pcallX hE (c_fair ⟨_, _, _, _⟩); (case hm => rfl); (case hle => (repeat' (first | exact u_nil | apply u_cons | apply u2_agg | exact u2_int | exact u1_int | exact u2_bool | exact u1_bool | exact u2_sli | exact u1_sli | exact u2_s0 | exact u1_s0))); intro t ht; cbv)
    | (apply E_callX hE (c_tiny _); (case hf => rfl); (case hc => (cbv <;> trivial)); (case hle => (repeat' (first | exact u_nil | apply u_cons | apply u2_agg | exact u2_int | exact u1_int | exact u2_bool | exact u1_bool | exact u2_sli | exact u1_sli | exact u2_s0 | exact u1_s0))); intro t ht; cbv)
    | (apply E_pcallX hE (c_tiny _); (case hm => rfl); (case hle => (repeat' (first | exact u_nil | apply u_cons | apply u2_agg | exact u2_int | exact u1_int | exact u2_bool | exact u1_bool | exact u2_sli | exact u1_sli | exact u2_s0 | exact u1_s0))); intro t ht; cbv)
    | (apply E_callX hE (c_huge _); (case hf => rfl); (case hc => (cbv <;> trivial)); (case hle => (repeat' (first | exact u_nil | apply u_cons | apply u2_agg | exact u2_int | exact u1_int | exact u2_bool | exact u1_bool | exact u2_sli | exact u1_sli | exact u2_s0 | exact u1_s0))); intro t ht; cbv)
    | (apply E_pcallX hE (c_huge _); (case hm => rfl); (case hle => (repeat' (first | exact u_nil | apply u_cons | apply u2_agg | exact u2_int | exact u1_int | exact u2_bool | exact u1_bool | exact u2_sli | exact u1_sli | exact u2_s0 | exact u1_s0))); intro t ht; cbv)
    | (apply E_callX hE (c_Bound _ _ _ _); (case hf => rfl); (case hc => (cbv <;> trivial)); (case hle => (repeat' (first | exact u_nil | apply u_cons | apply u2_agg | exact u2_int | exact u1_int | exact u2_bool | exact u1_bool | exact u2_sli | exact u1_sli | exact u2_s0 | exact u1_s0))); intro t ht; cbv)
    | (apply E_pcallX hE (c_Bound _ _ _ _); (case hm => rfl); (case hle => (repeat' (first | exact u_nil | apply u_cons | apply u2_agg | exact u2_int | exact u1_int | exact u2_bool | exact u1_bool | exact u2_sli | exact u1_sli | exact u2_s0 | exact u1_s0))); intro t ht; cbv)
    | (apply E_callX hE (c_Grow _ _ _ _ _); (case hf => rfl); (case hc => (cbv <;> trivial)); (case hle => (repeat' (first | exact u_nil | apply u_cons | apply u2_agg | exact u2_int | exact u1_int | exact u2_bool | exact u1_bool | exact u2_sli | exact u1_sli | exact u2_s0 | exact u1_s0))); intro t ht; cbv)
    | (apply E_pcallX hE (c_Grow _ _ _ _ _); (case hm => rfl); (case hle => (repeat' (first | exact u_nil | apply u_cons | apply u2_agg | exact u2_int | exact u1_int | exact u2_bool | exact u1_bool | exact u2_sli | exact u1_sli | exact u2_s0 | exact u1_s0))); intro t ht; cbv)
    | fail)
  all_goals (subst hE; subst hr)
  all_goals (try simp only [realE, cmp_eql, cmp_neq, cmp_lss, cmp_leq, cmp_gtr, cmp_geq, intBinR, decide_eq_true_eq, decide_eq_false_iff_not, SI.val, SB.val, Num.eta, Iv.eta] at *)
  all_goals (try simp_all [Num.next])
  all_goals (try omega)
  all_goals (try simp only [Bool.and_assoc])
  all_goals (try rfl)
  all_goals ((repeat' split) <;> (try simp_all) <;> (try omega))


end Go.Proofs.YtpadpcjdakfokaaGreatDoor.Ev

/- Laws: the fixed numbers for inverse tangents, and pi. -/
namespace Go.Proofs.YtpadpcjdakfokaaGreatDoor.Ev
open Go Go.Proofs
set_option linter.unusedVariables false
set_option linter.unusedSimpArgs false
attribute [local irreducible] Lb
theorem piKf_le (n : Nat) : ∀ f j, piKf n f j ≤ f + j
  | 0, j => by unfold piKf; omega
  | f + 1, j => by
    unfold piKf
    split
    · omega
    · have := piKf_le n f (j + 1); omega
theorem piK_le (n : Nat) : piK n ≤ 98 := piKf_le n 98 0
theorem piBig : 98 * piOne + 99 < 4294967296 ^ 7 := by unfold piOne; decide +kernel
theorem piLo_abs (n : Nat) : (piLo n).natAbs ≤ 98 * piOne + 99 := by
  have h1 := piSum_le n (piK n)
  have h2 := piK_le n
  have h3 : piK n * piOne ≤ 98 * piOne := Nat.mul_le_mul_right _ h2
  unfold piLo; omega
theorem piHi_abs (n : Nat) : (piHi n).natAbs ≤ 98 * piOne + 99 := by
  have h1 := piSum_le n (piK n)
  have h2 := piK_le n
  have h3 : piK n * piOne ≤ 98 * piOne := Nat.mul_le_mul_right _ h2
  unfold piHi; omega
def piLoB : Int := piLo 5 * 16 - piHi 239 * 4
def piHiB : Int := piHi 5 * 16 - piLo 239 * 4
def piIv : Iv := ⟨false, ⟨1, false, 14488038916154245684, -62⟩, ⟨1, false, 14488038916154245685, -62⟩⟩
theorem piIv_is : Iv.make (ratioN (decide (piLoB < 0)) piLoB.natAbs false piOne false) (ratioN (decide (piHiB < 0)) piHiB.natAbs false piOne true) = piIv := by decide +kernel
theorem piNext : Num.next ⟨1, false, 14488038916154245684, -62⟩ true = ⟨1, false, 14488038916154245685, -62⟩ := by decide +kernel
end Go.Proofs.YtpadpcjdakfokaaGreatDoor.Ev

/- The ratio of two whole numbers is the best number; a number lies between its fixed number and the next one: plain Lean. -/
namespace Go.Proofs.YtpadpcjdakfokaaGreatDoor.Ev
open Go
set_option linter.unusedVariables false
set_option linter.unusedSimpArgs false

theorem ratioN_best {na nb : Bool} {a b : Nat} (up : Bool) (ha : 0 < a) (hb : 0 < b) (la : blen (a : Int) ≤ 1000000) (lb : blen (b : Int) ≤ 1000000) :
    Best (ratioN na a nb b up) up (if (na != nb) = true then -((a : Int) * pw 0) else (a : Int) * pw 0) b := by
  obtain ⟨i, h1, h2, h3⟩ := blen_rng ha
  obtain ⟨j, g1, g2, g3⟩ := blen_rng hb
  unfold ratioN
  rw [if_neg (by omega), if_neg (by omega)]
  obtain ⟨s0, hs0⟩ : ∃ s0 : Nat, (max 0 (65 + blen (b : Int) - blen (a : Int)) : Int) = s0 := ⟨(max 0 (65 + blen (b : Int) - blen (a : Int)) : Int).toNat, by omega⟩
  rw [hs0, Int.toNat_natCast]
  obtain ⟨N, hN⟩ : ∃ N, a * 2 ^ s0 = N := ⟨_, rfl⟩
  rw [hN]
  obtain ⟨q, hq⟩ : ∃ q, N / b = q := ⟨_, rfl⟩
  rw [hq]
  have qlo : 2 ^ 64 ≤ q := by
    rw [← hq, Nat.le_div_iff_mul_le hb, ← hN]
    have a1 : 2 ^ 64 * b ≤ 2 ^ 64 * 2 ^ (j + 1) := Nat.mul_le_mul_left _ (Nat.le_of_lt g3)
    have a2 : 2 ^ i * 2 ^ s0 ≤ a * 2 ^ s0 := Nat.mul_le_mul_right _ h2
    rw [← Nat.pow_add] at a1 a2
    have a3 : 2 ^ (64 + (j + 1)) ≤ 2 ^ (i + s0) := Nat.pow_le_pow_right (by decide) (by omega)
    omega
  have qhi : q < 2 ^ (i + 1 + s0) := by
    rw [← hq]
    refine Nat.lt_of_le_of_lt (Nat.div_le_self _ _) ?_
    rw [← hN, Nat.pow_add]
    exact Nat.mul_lt_mul_of_pos_right h3 (Nat.two_pow_pos _)
  obtain ⟨k, k1, k2, k3⟩ := blen_rng (k := q) (by omega)
  have kl : 64 ≤ k := by
    rcases Nat.lt_or_ge k 64 with h | h
    · exfalso
      have : (2 : Nat) ^ (k + 1) ≤ 2 ^ 64 := Nat.pow_le_pow_right (by decide) (by omega)
      omega
    · exact h
  have ku : k < i + 1 + s0 := by
    rcases Nat.lt_or_ge k (i + 1 + s0) with h | h
    · exact h
    · exfalso
      have : (2 : Nat) ^ (i + 1 + s0) ≤ 2 ^ k := Nat.pow_le_pow_right (by decide) h
      omega
  obtain ⟨s, hs⟩ : ∃ s : Nat, k = s + 63 := ⟨k - 63, by omega⟩
  unfold natu
  rw [if_neg (by omega)]
  dsimp only
  rw [show (blen (q : Int) - 64).toNat = s by omega, show blen (q : Int) - 64 = (s : Int) by omega]
  have p2 := Nat.two_pow_pos s
  have dd : q / 2 ^ s = N / (b * 2 ^ s) := by rw [← hq, Nat.div_div_eq_div_mul]
  have cut : (decide (q / 2 ^ s * 2 ^ s ≠ q) || decide (N % b ≠ 0)) = decide (N % (b * 2 ^ s) ≠ 0) := by
    have e1 := Nat.div_add_mod N b
    have e2 := Nat.div_add_mod q (2 ^ s)
    rw [hq] at e1
    have m : N % (b * 2 ^ s) = b * (q % 2 ^ s) + N % b := by rw [Nat.mod_mul, hq, Nat.add_comm]
    by_cases z1 : q % 2 ^ s = 0
    · by_cases z2 : N % b = 0
      · rw [decide_eq_false (by rw [Nat.mul_comm]; omega), decide_eq_false (by omega), decide_eq_false (by rw [m, z1, z2]; simp)]; rfl
      · rw [decide_eq_true z2, Bool.or_true, decide_eq_true (by rw [m]; omega)]
    · have : 0 < b * (q % 2 ^ s) := Nat.mul_pos hb (by omega)
      rw [decide_eq_true (by rw [Nat.mul_comm]; omega), Bool.true_or, decide_eq_true (by rw [m]; omega)]
  rw [cut, dd]
  have e1 := pw_add (e := -(s0 : Int)) (f := s) (by omega) (by omega)
  rw [Int.toNat_natCast] at e1
  have e0 := pw_add (e := -(s0 : Int)) (f := s0) (by omega) (by omega)
  rw [Int.toNat_natCast, show -(s0 : Int) + s0 = 0 by omega] at e0
  have pp := pw_pos (-(s0 : Int))
  have cb : ((b * 2 ^ s : Nat) : Int) = (b : Int) * 2 ^ s := by rw [Int.natCast_mul, Int.natCast_pow]; rfl
  have cN : (N : Int) * pw (-(s0 : Int)) = (a : Int) * pw 0 := by
    rw [← hN, e0, Int.natCast_mul, Int.natCast_pow, Int.mul_assoc, Int.mul_comm (pw (-(s0 : Int)))]; rfl
  have lo : 2 ^ 63 ≤ N / (b * 2 ^ s) := by
    rw [← dd, Nat.le_div_iff_mul_le p2, ← Nat.pow_add, Nat.add_comm, ← hs]; exact k2
  have hi : N / (b * 2 ^ s) < 2 ^ 64 := by
    rw [← dd, Nat.div_lt_iff_lt_mul p2, ← Nat.pow_add, show 64 + s = k + 1 by omega]; exact k3
  have G := grow_div (neg := (na != nb)) (up := up) (N := (N : Int)) (d := ((b * 2 ^ s : Nat) : Int)) (P := pw (-(s0 : Int))) (e := (s : Int) - s0) (c := (b : Int))
    (by rw [cb]; exact Int.mul_pos (by omega) (Int.pow_pos (by decide))) pp
    (by rw [show (s : Int) - s0 = -(s0 : Int) + s by omega, e1, cb, Int.mul_comm, Int.mul_assoc, Int.mul_comm (pw (-(s0 : Int)))]) (by omega)
    (by rw [← Int.natCast_ediv]; have : 9223372036854775808 ≤ N / (b * 2 ^ s) := lo; omega) (by rw [← Int.natCast_ediv]; have : N / (b * 2 ^ s) < 18446744073709551616 := hi; omega) (by omega) (by omega)
  rw [cN, ← Int.natCast_ediv, ← Int.natCast_emod] at G
  have c2 : (decide (((N % (b * 2 ^ s) : Nat) : Int) ≠ 0)) = decide (N % (b * 2 ^ s) ≠ 0) := decide_eq_decide.2 (by omega)
  rw [c2] at G
  exact G
end Go.Proofs.YtpadpcjdakfokaaGreatDoor.Ev

/- The reference's fixed number is the program's: plain Lean. -/
namespace Go.Proofs.YtpadpcjdakfokaaGreatDoor.Ev
open Go
set_option linter.unusedVariables false
set_option linter.unusedSimpArgs false
attribute [local irreducible] pw

theorem rnd30 : rnd (dyMake (dyL (dyMake false 1073741824 0)).1 (lv (dyL (dyMake false 1073741824 0)).2.1) (dyL (dyMake false 1073741824 0)).2.2).1 (dyMake (dyL (dyMake false 1073741824 0)).1 (lv (dyL (dyMake false 1073741824 0)).2.1) (dyL (dyMake false 1073741824 0)).2.2).2.1 (dyMake (dyL (dyMake false 1073741824 0)).1 (lv (dyL (dyMake false 1073741824 0)).2.1) (dyL (dyMake false 1073741824 0)).2.2).2.2 true = Num.ofInt 1073741824 := by decide +kernel
/-- the same without its sign -/
def Num.far (n : Num) : Num := ⟨n.kind, false, n.m, n.e⟩
theorem far_val {n : Num} (m : n.may = true) (o : n.ok) (k : n.kind ≠ 2) : n.far.may = true ∧ n.far.ok ∧ n.far.val = n.W ∧ n.val.natAbs = n.W.natAbs ∧ 0 ≤ n.W := by
  rcases Num.may3 m o with c | c | c
  · rw [c]; exact ⟨by decide, Num.zero_ok, rfl, rfl, by decide⟩
  · have f : n.far.Fin := ⟨c.kind, c.lo, c.hi, c.elo, c.ehi⟩
    have w := c.lt.1
    refine ⟨f.may, f.ok, ?_, ?_, by omega⟩
    · show (if false then _ else _) = _; rw [if_neg (by decide), f.W, c.W]; rfl
    · unfold Num.val; split <;> omega
  · rw [c] at k; exact absurd rfl k
/-- the cases of the reference's fixed number -/
structure FixR (x n : Num) : Prop where
  a : n.exact.2 = false → fixV x = (0, false)
  b : n.exact.2 = true → ¬ n.far.cmp (Num.ofInt 1073741824) < 0 → fixV x = (0, false)
  d : n.kind = 0 → fixV x = (0, true)
  e1 : n.exact.2 = true → n.kind ≠ 0 → n.exact.1.2.2 < -3000 → n.neg = true → fixV x = (-1, true)
  e0 : n.exact.2 = true → n.kind ≠ 0 → n.exact.1.2.2 < -3000 → n.neg ≠ true → fixV x = (0, true)
  f : n.exact.2 = true → n.far.cmp (Num.ofInt 1073741824) < 0 → n.kind ≠ 0 → ¬ n.exact.1.2.2 < -3000 →
    DyC n.exact.1 ∧ (dyL n.exact.1).2.1.length ≤ 2 ∧ DyC (dyMake n.exact.1.1 n.exact.1.2.1 (n.exact.1.2.2 + 192)) ∧ (dyL (dyMake n.exact.1.1 n.exact.1.2.1 (n.exact.1.2.2 + 192))).2.1.length ≤ 2 ∧
      (-20000 ≤ (dyMake n.exact.1.1 n.exact.1.2.1 (n.exact.1.2.2 + 192)).2.2 ∧ (dyMake n.exact.1.1 n.exact.1.2.1 (n.exact.1.2.2 + 192)).2.2 ≤ 20000) ∧
      fixV x = (dyFloor (dyMake n.exact.1.1 n.exact.1.2.1 (n.exact.1.2.2 + 192)), true)
theorem fix_r {x n : Num} (ox : x.ok) (hn : n = x.fair) : FixR x n := by
  have m : n.may = true := by rw [hn]; exact x.fair_may
  have o : n.ok := by rw [hn]; exact Num.fair_ok ox
  have f2 := ofInt_fine far_sm.1
  have p0 := pw_pos 0
  have k2 : n.exact.2 = true → n.kind ≠ 2 := by
    intro h z; unfold Num.exact at h; rw [if_pos (.inr z)] at h; cases h
  have far : n.kind ≠ 2 → (n.far.cmp (Num.ofInt 1073741824) < 0 ↔ n.W < 1073741824 * pw 0) := by
    intro k
    obtain ⟨v1, v2, v3, v4, v5⟩ := far_val m o k
    rw [Num.cmp_lt v2 f2.2.1, f2.2.2.2.1, f2.2.2.2.2, Num.fair_of_may v1, v3]
  have inn : n.kind ≠ 2 → n.W < 1073741824 * pw 0 → fixV x = (n.val * 2 ^ 192 / pw 0, true) := by
    intro k h
    obtain ⟨v1, v2, v3, v4, v5⟩ := far_val m o k
    unfold fixV
    rw [← hn, if_neg]
    have e : pw 0 * 2 ^ 30 = 1073741824 * pw 0 := Int.mul_comm _ _
    rintro (z | z | z)
    · exact k z
    · omega
    · omega
  have fin : n.exact.2 = true → n.kind ≠ 0 → n.Fin := by
    intro h k
    rcases Num.may3 m o with c | c | c
    · rw [c] at k; exact absurd rfl k
    · exact c
    · have := k2 h; rw [c] at this; exact absurd rfl this
  have near : n.exact.2 = true → n.kind ≠ 0 → n.exact.1.2.2 < -3000 → fixV x = ((if n.neg then -1 else 0), true) := by
    intro h k g
    have F := fin h k
    have d := exact_dy (x := n) o (by rw [Num.fair_of_may m]; exact k2 h)
    rw [Num.fair_of_may m] at d
    have lt := d.lt
    have w0 := F.lt.1
    have W : n.W = (n.exact.1.2.1 : Int) * pw n.exact.1.2.2 := by
      have v := d.val
      obtain ⟨v1, v2, v3, v4, v5⟩ := far_val m o (k2 h)
      have q := pw_pos n.exact.1.2.2
      have q2 : 0 ≤ (n.exact.1.2.1 : Int) * pw n.exact.1.2.2 := Int.mul_nonneg (by omega) (by omega)
      unfold dyv at v
      split at v
      · omega
      · omega
    have ne : n.e < -256 := by
      rcases Int.lt_or_le n.e (-256) with z | z
      · exact z
      · exfalso
        have a1 := pw_mono (e := -256) (f := n.e) (by decide) z
        have a2 : pw (-256) ≤ n.W := by
          rw [F.W]
          have := Int.mul_le_mul_of_nonneg_right (show 1 ≤ n.m by have := F.lo; omega) (Int.le_of_lt (pw_pos n.e))
          omega
        have lo := d.lo
        have a3 := pw_mono (e := n.exact.1.2.2) (f := -3000) (by omega) (by omega)
        have a4 := Int.mul_le_mul_of_nonneg_right (show (n.exact.1.2.1 : Int) ≤ 18446744073709551616 by omega) (Int.le_of_lt (pw_pos n.exact.1.2.2))
        have a5 := pw_64 (e := -3000) (by decide)
        have a6 := pw_lt (e := -3000 + 64) (f := -256) (by decide) (by decide)
        have a7 := pw_pos (-3000)
        omega
    have small : n.W < 1073741824 * pw 0 := by
      have := (near_val F ne).2
      have h3 : n.W ≤ n.W * 2 ^ 192 := by have := Int.mul_le_mul_of_nonneg_left (show (1 : Int) ≤ 2 ^ 192 by decide) (Int.le_of_lt w0); omega
      omega
    rw [inn (k2 h) small, fix_near F ne]
  refine ⟨fun h => ?_, fun h g => ?_, fun h => ?_, fun h k g q => ?_, fun h k g q => ?_, fun h g k e => ?_⟩
  · have k : n.kind = 2 := by
      unfold Num.exact at h
      split at h
      · rename_i z; rcases z with z | z
        · rw [m] at z; cases z
        · exact z
      · split at h <;> cases h
    unfold fixV; rw [← hn, if_pos (.inl k)]
  · rw [far (k2 h)] at g
    obtain ⟨v1, v2, v3, v4, v5⟩ := far_val m o (k2 h)
    have e : pw 0 * 2 ^ 30 = 1073741824 * pw 0 := Int.mul_comm _ _
    unfold fixV; rw [← hn, if_pos (.inr (by omega))]
  · have z : n = Num.zero := by
      rcases Num.may3 m o with c | c | c
      · exact c
      · have := c.kind; omega
      · rw [c] at h; exact absurd h (show ¬ (2 : Int) = 0 by decide)
    rw [inn (by omega) (by rw [z, Num.zero_W]; omega), z, Num.val_zero]; simp
  · rw [near h k g, if_pos q]
  · rw [near h k g, if_neg q]
  · have F := fin h k
    have d := exact_dy (x := n) o (by rw [Num.fair_of_may m]; exact k2 h)
    rw [Num.fair_of_may m] at d
    have lt := d.lt
    have hi := d.hi
    have lo := d.lo
    have W := (far (k2 h)).1 g
    have od : n.exact.1.2.1 % 2 = 1 := by
      rcases d.odd with z | z
      · have v := d.val
        rw [z] at v
        have := F.lt.1
        obtain ⟨v1, v2, v3, v4, v5⟩ := far_val m o (k2 h)
        have : dyv (false, 0, 0) = 0 := by simp [dyv]
        omega
      · exact z
    have up : n.exact.1.2.2 < 31 := by
      rcases Int.lt_or_le n.exact.1.2.2 31 with z | z
      · exact z
      · exfalso
        have v := d.val
        obtain ⟨v1, v2, v3, v4, v5⟩ := far_val m o (k2 h)
        have q := pw_pos n.exact.1.2.2
        have q1 := Int.mul_le_mul_of_nonneg_right (show (1 : Int) ≤ (n.exact.1.2.1 : Int) by omega) (Int.le_of_lt q)
        have q2 := pw_mono (e := 31) (f := n.exact.1.2.2) (by decide) z
        have q3 := pw_add (e := 0) (f := 31) (by decide) (by decide)
        rw [show (0 : Int) + 31 = 31 by decide, show (2 : Int) ^ (31 : Int).toNat = 2147483648 by decide] at q3
        unfold dyv at v
        split at v
        · omega
        · omega
    have mv : dyMake n.exact.1.1 n.exact.1.2.1 (n.exact.1.2.2 + 192) = (n.exact.1.1, n.exact.1.2.1, n.exact.1.2.2 + 192) := dyMake_odd od (by omega) (by omega)
    have ln : (lim n.exact.1.2.1).length ≤ 2 := lim_length_le (by rw [show (4294967296 : Nat) ^ 2 = 18446744073709551616 by decide +kernel]; omega)
    refine ⟨.inr ⟨od, by omega, by omega⟩, ln, dyMake_c _ _ _, ?_, ?_, ?_⟩
    · rw [mv]; exact ln
    · rw [mv]; exact ⟨by show -20000 ≤ n.exact.1.2.2 + 192; omega, by show n.exact.1.2.2 + 192 ≤ 20000; omega⟩
    · rw [dyMove_val d]; exact inn (k2 h) W
/-- the two ratios are one -/
theorem ratio_one (na : Bool) (a : Nat) (nb : Bool) (b : Nat) (up : Bool) (la : blen (a : Int) ≤ 300000) (lb : blen (b : Int) ≤ 300000) : ratioN na a nb b up = ratioP na a nb b 0 up := by
  by_cases hb : b = 0
  · unfold ratioN ratioP; rw [if_pos hb, if_pos hb]
  by_cases ha : a = 0
  · unfold ratioN ratioP
    have z : ratioM 0 b = 0 := by unfold ratioM; simp
    rw [if_neg hb, if_pos ha, if_neg hb, ha, z, dyMake_zero]
    unfold dyRound dyNorm
    rw [dyMake_zero]
    rfl
  · have p := pw_pos 0
    have A := ratioN_best (na := na) (nb := nb) up (show 0 < a by omega) (show 0 < b by omega) (by omega) (by omega)
    have B := ratio_best (na := na) (nb := nb) (e := 0) up (show 0 < a by omega) (show 0 < b by omega) la lb (by decide) (by decide) (T := (a : Int) * pw 0) (c := b) (by omega) rfl
    refine A.uniq B (by omega) (by omega) ?_
    congr 1
end Go.Proofs.YtpadpcjdakfokaaGreatDoor.Ev

/- A number lies between its fixed number and the next one, and in the interval of both: plain Lean. -/
namespace Go.Proofs.YtpadpcjdakfokaaGreatDoor.Ev
open Go
set_option linter.unusedVariables false
set_option linter.unusedSimpArgs false

theorem fix_floor {n : Num} (h : (fixV n).2 = true) : n.fair.kind ≠ 2 ∧ (fixV n).1 * pw 0 ≤ n.fair.val * 2 ^ 192 ∧ n.fair.val * 2 ^ 192 < ((fixV n).1 + 1) * pw 0 ∧ (fixV n).1.natAbs ≤ 2 ^ 222 := by
  unfold fixV at h ⊢
  split at h
  · cases h
  · rename_i k
    rw [if_neg k]
    dsimp only
    have p := pw_pos 0
    obtain ⟨P, hP⟩ : ∃ P, pw 0 = P := ⟨_, rfl⟩
    rw [hP] at p k ⊢
    obtain ⟨v, hv⟩ : ∃ v, n.fair.val = v := ⟨_, rfl⟩
    rw [hv] at k ⊢
    have k2 : ¬ P * 2 ^ 30 ≤ v := fun z => k (.inr (.inl z))
    have k3 : ¬ v ≤ -(P * 2 ^ 30) := fun z => k (.inr (.inr z))
    have e1 := Int.mul_ediv_add_emod (v * 2 ^ 192) P
    have e2 := Int.emod_nonneg (v * 2 ^ 192) (by omega : P ≠ 0)
    have e3 := Int.emod_lt_of_pos (v * 2 ^ 192) p
    obtain ⟨q, hq⟩ : ∃ q, v * 2 ^ 192 / P = q := ⟨_, rfl⟩
    rw [hq] at e1 ⊢
    have c1 : q * P = P * q := Int.mul_comm _ _
    have c2 : (q + 1) * P = P * q + P := by rw [Int.add_mul, Int.one_mul, Int.mul_comm]
    refine ⟨fun z => k (.inl z), by omega, by omega, ?_⟩
    have u1 : q ≤ 2 ^ 222 := by
      rw [← hq]
      refine Int.le_trans (Int.ediv_le_ediv p (show v * 2 ^ 192 ≤ 2 ^ 222 * P by omega)) ?_
      rw [Int.mul_ediv_cancel _ (by omega)]
      exact Int.le_refl _
    have u2 : -(2 ^ 222) ≤ q := by
      rw [← hq]
      refine Int.le_trans ?_ (Int.ediv_le_ediv p (show -(2 ^ 222) * P ≤ v * 2 ^ 192 by omega))
      rw [Int.mul_ediv_cancel _ (by omega)]
      exact Int.le_refl _
    omega

end Go.Proofs.YtpadpcjdakfokaaGreatDoor.Ev

/- Contracts of the reference: products and quotients of intervals. Printed by gen.py. -/
namespace Go.Proofs.YtpadpcjdakfokaaGreatDoor.Ev
open Go Go.Proofs
set_option linter.unusedVariables false
set_option linter.unusedSimpArgs false

theorem ivEq_of {E : Env} (hE : E = realE Tryz.prog) (b p : Iv) : E.band (E.beq b.empty p.empty) (E.band (E.cmp .eql b.lo.kind p.lo.kind) (E.band (E.beq b.lo.neg p.lo.neg) (E.band (E.cmp .eql b.lo.m p.lo.m) (E.band (E.cmp .eql b.lo.e p.lo.e) (E.band (E.cmp .eql b.hi.kind p.hi.kind) (E.band (E.beq b.hi.neg p.hi.neg) (E.band (E.cmp .eql b.hi.m p.hi.m) (E.cmp .eql b.hi.e p.hi.e)))))))) = decide (b = p) := by
  subst hE
  rw [Bool.eq_iff_iff]
  simp only [realE, cmp_eql, Bool.and_eq_true, decide_eq_true_eq, Iv.eq_iff, Num.eq_iff, beq_iff_eq]
  constructor
  · rintro ⟨h0, h1, h2, h3, h4, h5, h6, h7, h8⟩; exact ⟨h0, ⟨h1, h2, h3, h4⟩, h5, h6, h7, h8⟩
  · rintro ⟨h0, ⟨h1, h2, h3, h4⟩, h5, h6, h7, h8⟩; exact ⟨h0, h1, h2, h3, h4, h5, h6, h7, h8⟩
end Go.Proofs.YtpadpcjdakfokaaGreatDoor.Ev

/- Contract of pi.Fix: the fixed number of a number. Printed by gen.py. -/
namespace Go.Proofs.YtpadpcjdakfokaaGreatDoor.Ev
open Go Go.Proofs
set_option linter.unusedVariables false
set_option linter.unusedSimpArgs false

attribute [local irreducible] Lb whN
theorem w0 : whN 0 = (false, []) := by unfold whN; rfl
theorem wm1 : whN (-1) = (decide ((-1 : Int) < 0), lim (-1 : Int).natAbs) := by unfold whN; rfl
set_option maxHeartbeats 2000000 in
theorem c_Fix (n : Num) (on : n.ok) : ∃ t : (Bool × List Int) × Bool, t = (whN (fixV n).1, (fixV n).2) ∧ CallsA Tryz.prog 11 [n.av] (.tup [.agg [.bool (.s t.1.1), .sli .u32 t.1.2], .bool (.s t.2)]) := by
  refine ⟨_, rfl, ?_⟩
  generalize hr : (whN (fixV n).1, (fixV n).2) = r
  have F0 : n.may = false → (whN 0, true) = r := by intro h; rw [← hr, fix_bad h]
  have F1 : n.may = true → n.exact.2 = false → (whN 0, false) = r := by
    intro h g
    have k : n.kind = 2 := by
      unfold Num.exact at g
      split at g
      · rename_i z; rcases z with z | z
        · rw [h] at z; cases z
        · exact z
      · split at g <;> cases g
    rw [← hr, fix_far h on (.inl k)]
  have F2 : n.may = true → (¬ n.cmp (Num.ofInt 1073741824) < 0 ∨ n.cmp (Num.ofInt (-1073741824)) ≤ 0) → (whN 0, false) = r := by
    intro h g; rw [← hr, fix_far h on (.inr g)]
  have F3 : n.may = true → n.exact.2 = true → ¬ (¬ n.cmp (Num.ofInt 1073741824) < 0 ∨ n.cmp (Num.ofInt (-1073741824)) ≤ 0) →
      (n.kind = 1 → n.e < -256 → n.neg = true → (whN (-1), true) = r) ∧ (¬ (n.kind = 1 ∧ n.neg = true) → n.e < -256 → (whN 0, true) = r) ∧ DyC n.exact.1 ∧
      ((dyL (dyMake n.exact.1.1 n.exact.1.2.1 (n.exact.1.2.2 + 192))).2.1.length < 67108864) ∧ ∀ t, t = whN (dyFloor (dyMake n.exact.1.1 n.exact.1.2.1 (n.exact.1.2.2 + 192))) → (t, true) = r := by
    intro h g f
    have k2 : n.kind ≠ 2 := by
      intro z; unfold Num.exact at g; rw [if_pos (.inr z)] at g; cases g
    have v := fix_ok h on (by rintro (z | z); exact k2 z; exact f z)
    have d := exact_dy (x := n) on (by rw [Num.fair_of_may h]; exact k2)
    rw [Num.fair_of_may h] at d
    have lo := d.lo
    have hi := d.hi
    have fin : n.kind = 1 → n.Fin := by
      intro k
      rcases Num.may3 h on with z | z | z
      · rw [z] at k; cases k
      · exact z
      · rw [z] at k; exact absurd k (show ¬ (2 : Int) = 1 by decide)
    refine ⟨fun k e ng => ?_, fun k e => ?_, ?_, ?_, fun t ht => ?_⟩
    · rw [← hr, v, fix_near (fin k) e, if_pos ng]
    · rcases Num.may3 h on with z | z | z
      · rw [z] at e; exact absurd e (by decide)
      · rw [← hr, v, fix_near z e, if_neg (fun ng => k ⟨z.kind, ng⟩)]
      · rw [z] at k2; exact absurd rfl k2
    · rcases d.odd with z | z
      · exact .inl z
      · exact .inr ⟨z, by omega, by omega⟩
    · have q := (dyMake_rng n.exact.1.1 n.exact.1.2.1 (n.exact.1.2.2 + 192)).2.2
      have l := d.lt
      have := lim_length_le (n := (dyMake n.exact.1.1 n.exact.1.2.1 (n.exact.1.2.2 + 192)).2.1) (k := 2) (by rw [show (4294967296 : Nat) ^ 2 = 18446744073709551616 by decide +kernel]; omega)
      exact Nat.lt_of_le_of_lt this (by decide)
    · rw [ht, fix_in h on k2, ← hr, v]
  have XL : (dyL n.exact.1).2.1.length < 67108864 := by
    have l : n.exact.1.2.1 < 18446744073709551616 := by
      unfold Num.exact
      split
      · decide
      · split
        · decide
        · have := (dyMake_rng n.neg n.m.toNat n.e).2.2
          have := on.2
          have := on.1
          show (dyMake n.neg n.m.toNat n.e).2.1 < _
          omega
    have := lim_length_le (n := n.exact.1.2.1) (k := 2) (by rw [show (4294967296 : Nat) ^ 2 = 18446744073709551616 by decide +kernel]; omega)
    exact Nat.lt_of_le_of_lt this (by decide)
  clear hr
  refine callsA_of hG hm Tryz.func11 (by kernel_rfl) ?_
  intro E hE lp hl
  cbv
  (first | (apply E_pcallX hE (c_Exact ⟨_, _, _, _⟩ on); (case hm => rfl); (case hle => (repeat' (first | exact u_nil | apply u_cons | apply u2_agg | exact u2_int | exact u1_int | exact u2_bool | exact u1_bool | exact u2_sli | exact u1_sli | exact u2_s0 | exact u1_s0))); all_goals (first | (intro x hx; cbv) | (assumption))) | (apply E_callX hE (c_Exact ⟨_, _, _, _⟩ on); (case hf => rfl); (case hc => (cbv <;> trivial)); (case hle => (repeat' (first | exact u_nil | apply u_cons | apply u2_agg | exact u2_int | exact u1_int | exact u2_bool | exact u1_bool | exact u2_sli | exact u1_sli | exact u2_s0 | exact u1_s0))); all_goals (first | (intro x hx; cbv) | (assumption))))
  have x1 : x.1 = dyL n.exact.1 := by have k : x = (dyL n.exact.1, n.exact.2) := hx; rw [k]
  have x2 : x.2 = n.exact.2 := by have k : x = (dyL n.exact.1, n.exact.2) := hx; rw [k]
  have xl : x.1.2.1.length < 67108864 := by rw [x1]; exact XL
  clear hx XL
  (first | (apply E_pcallX hE (c_Of 1073741824 (by decide) (by decide)); (case hm => rfl); (case hle => (repeat' (first | exact u_nil | apply u_cons | apply u2_agg | exact u2_int | exact u1_int | exact u2_bool | exact u1_bool | exact u2_sli | exact u1_sli | exact u2_s0 | exact u1_s0))); all_goals (first | (intro o1 ho1; cbv) | (assumption))) | (apply E_callX hE (c_Of 1073741824 (by decide) (by decide)); (case hf => rfl); (case hc => (cbv <;> trivial)); (case hle => (repeat' (first | exact u_nil | apply u_cons | apply u2_agg | exact u2_int | exact u1_int | exact u2_bool | exact u1_bool | exact u2_sli | exact u1_sli | exact u2_s0 | exact u1_s0))); all_goals (first | (intro o1 ho1; cbv) | (assumption))))
  (first | (apply E_pcallX hE (c_Cmp ⟨_, _, _, _⟩ ⟨_, _, _, _⟩); (case hm => rfl); (case hle => (repeat' (first | exact u_nil | apply u_cons | apply u2_agg | exact u2_int | exact u1_int | exact u2_bool | exact u1_bool | exact u2_sli | exact u1_sli | exact u2_s0 | exact u1_s0))); all_goals (first | (intro c1 hc1; cbv) | (assumption))) | (apply E_callX hE (c_Cmp ⟨_, _, _, _⟩ ⟨_, _, _, _⟩); (case hf => rfl); (case hc => (cbv <;> trivial)); (case hle => (repeat' (first | exact u_nil | apply u_cons | apply u2_agg | exact u2_int | exact u1_int | exact u2_bool | exact u1_bool | exact u2_sli | exact u1_sli | exact u2_s0 | exact u1_s0))); all_goals (first | (intro c1 hc1; cbv) | (assumption))))
  have hc1 : c1 = n.cmp o1 := hc1
  refine E_br hE (fun gc => ?_) (fun gc => ?_) <;> cbv
  · skip
    (first | (apply E_pcallX hE (c_May ⟨_, _, _, _⟩); (case hm => rfl); (case hle => (repeat' (first | exact u_nil | apply u_cons | apply u2_agg | exact u2_int | exact u1_int | exact u2_bool | exact u1_bool | exact u2_sli | exact u1_sli | exact u2_s0 | exact u1_s0))); all_goals (first | (intro o ho_; cbv) | (assumption))) | (apply E_callX hE (c_May ⟨_, _, _, _⟩); (case hf => rfl); (case hc => (cbv <;> trivial)); (case hle => (repeat' (first | exact u_nil | apply u_cons | apply u2_agg | exact u2_int | exact u1_int | exact u2_bool | exact u1_bool | exact u2_sli | exact u1_sli | exact u2_s0 | exact u1_s0))); all_goals (first | (intro o ho_; cbv) | (assumption))))
    have ho_ : o = n.may := ho_
    refine E_br hE (fun g1 => ?_) (fun g1 => ?_) <;> cbv
    · rw [← F0 (by rw [← ho_]; subst hE; cases o; rfl; exact absurd g1 (by decide)), w0]; exact ⟨⟨rfl, rfl, trivial⟩, rfl, trivial⟩
    have mm : n.may = true := by rw [← ho_]; subst hE; cases o; exact absurd g1 (by decide); rfl
    refine E_br hE (fun g2 => ?_) (fun g2 => ?_) <;> cbv
    · rw [← F1 mm (by rw [← x2]; subst hE; cases q : x.2; rfl; rw [q] at g2; exact absurd g2 (by decide)), w0]; exact ⟨⟨rfl, rfl, trivial⟩, rfl, trivial⟩
    · rw [← F2 mm (.inl (by rw [← ho1, ← hc1]; subst hE; have := geq_t gc; omega)), w0]; exact ⟨⟨rfl, rfl, trivial⟩, rfl, trivial⟩
  · skip
    (first | (apply E_pcallX hE (c_Of (-1073741824) (by decide) (by decide)); (case hm => rfl); (case hle => (repeat' (first | exact u_nil | apply u_cons | apply u2_agg | exact u2_int | exact u1_int | exact u2_bool | exact u1_bool | exact u2_sli | exact u1_sli | exact u2_s0 | exact u1_s0))); all_goals (first | (intro o2 ho2; cbv) | (assumption))) | (apply E_callX hE (c_Of (-1073741824) (by decide) (by decide)); (case hf => rfl); (case hc => (cbv <;> trivial)); (case hle => (repeat' (first | exact u_nil | apply u_cons | apply u2_agg | exact u2_int | exact u1_int | exact u2_bool | exact u1_bool | exact u2_sli | exact u1_sli | exact u2_s0 | exact u1_s0))); all_goals (first | (intro o2 ho2; cbv) | (assumption))))
    (first | (apply E_pcallX hE (c_Cmp ⟨_, _, _, _⟩ ⟨_, _, _, _⟩); (case hm => rfl); (case hle => (repeat' (first | exact u_nil | apply u_cons | apply u2_agg | exact u2_int | exact u1_int | exact u2_bool | exact u1_bool | exact u2_sli | exact u1_sli | exact u2_s0 | exact u1_s0))); all_goals (first | (intro c2 hc2; cbv) | (assumption))) | (apply E_callX hE (c_Cmp ⟨_, _, _, _⟩ ⟨_, _, _, _⟩); (case hf => rfl); (case hc => (cbv <;> trivial)); (case hle => (repeat' (first | exact u_nil | apply u_cons | apply u2_agg | exact u2_int | exact u1_int | exact u2_bool | exact u1_bool | exact u2_sli | exact u1_sli | exact u2_s0 | exact u1_s0))); all_goals (first | (intro c2 hc2; cbv) | (assumption))))
    have hc2 : c2 = n.cmp o2 := hc2
    (first | (apply E_pcallX hE (c_May ⟨_, _, _, _⟩); (case hm => rfl); (case hle => (repeat' (first | exact u_nil | apply u_cons | apply u2_agg | exact u2_int | exact u1_int | exact u2_bool | exact u1_bool | exact u2_sli | exact u1_sli | exact u2_s0 | exact u1_s0))); all_goals (first | (intro o ho_; cbv) | (assumption))) | (apply E_callX hE (c_May ⟨_, _, _, _⟩); (case hf => rfl); (case hc => (cbv <;> trivial)); (case hle => (repeat' (first | exact u_nil | apply u_cons | apply u2_agg | exact u2_int | exact u1_int | exact u2_bool | exact u1_bool | exact u2_sli | exact u1_sli | exact u2_s0 | exact u1_s0))); all_goals (first | (intro o ho_; cbv) | (assumption))))
    have ho_ : o = n.may := ho_
    refine E_br hE (fun g1 => ?_) (fun g1 => ?_) <;> cbv
    · rw [← F0 (by rw [← ho_]; subst hE; cases o; rfl; exact absurd g1 (by decide)), w0]; exact ⟨⟨rfl, rfl, trivial⟩, rfl, trivial⟩
    have mm : n.may = true := by rw [← ho_]; subst hE; cases o; exact absurd g1 (by decide); rfl
    refine E_br hE (fun g2 => ?_) (fun g2 => ?_) <;> cbv
    · rw [← F1 mm (by rw [← x2]; subst hE; cases q : x.2; rfl; rw [q] at g2; exact absurd g2 (by decide)), w0]; exact ⟨⟨rfl, rfl, trivial⟩, rfl, trivial⟩
    have ex : n.exact.2 = true := by rw [← x2]; subst hE; cases q : x.2; rw [q] at g2; exact absurd g2 (by decide); rfl
    refine E_br hE (fun g3 => ?_) (fun g3 => ?_) <;> cbv
    · rw [← F2 mm (.inr (by rw [← ho2, ← hc2]; subst hE; exact leq_t g3)), w0]; exact ⟨⟨rfl, rfl, trivial⟩, rfl, trivial⟩
    obtain ⟨G1, G2, g3a, g3c, g3b⟩ := F3 mm ex (by
      rintro (z | z)
      · rw [← ho1, ← hc1] at z; subst hE; exact z (by have := geq_f gc; omega)
      · rw [← ho2, ← hc2] at z; subst hE; exact leq_f g3 z)
    refine E_br hE (fun k1 => ?_) (fun k1 => ?_) <;> cbv
    · have k1 : n.kind = 1 := by subst hE; exact eql_t k1
      refine E_br hE (fun k2 => ?_) (fun k2 => ?_) <;> cbv
      · have k2' : n.e < -256 := by subst hE; exact lss_t k2
        refine E_br hE (fun k3 => ?_) (fun k3 => ?_) <;> cbv
        · (first | (apply E_pcallX hE (c_wFrom (-1) (by decide) (by decide)); (case hm => rfl); (case hle => (repeat' (first | exact u_nil | apply u_cons | apply u2_agg | exact u2_int | exact u1_int | exact u2_bool | exact u1_bool | exact u2_sli | exact u1_sli | exact u2_s0 | exact u1_s0))); all_goals (first | (intro u hu; cbv) | (assumption))) | (apply E_callX hE (c_wFrom (-1) (by decide) (by decide)); (case hf => rfl); (case hc => (cbv <;> trivial)); (case hle => (repeat' (first | exact u_nil | apply u_cons | apply u2_agg | exact u2_int | exact u1_int | exact u2_bool | exact u1_bool | exact u2_sli | exact u1_sli | exact u2_s0 | exact u1_s0))); all_goals (first | (intro u hu; cbv) | (assumption))))
          rw [← G1 k1 k2' k3, wm1, ← hu]; exact ⟨⟨rfl, rfl, trivial⟩, rfl, trivial⟩
        · refine E_br_t hE k2 ?_; cbv
          rw [← G2 (by rw [k3]; rintro ⟨_, z⟩; cases z) k2', w0]; exact ⟨⟨rfl, rfl, trivial⟩, rfl, trivial⟩
      · refine E_br_f hE k2 ?_; cbv
        (first | (apply E_pcallX hE (c_dyMove n.exact.1 g3a x.1 x1 xl 192 (by decide) (by decide)); (case hm => rfl); (case hle => (repeat' (first | exact u_nil | apply u_cons | apply u2_agg | exact u2_int | exact u1_int | exact u2_bool | exact u1_bool | exact u2_sli | exact u1_sli | exact u2_s0 | exact u1_s0))); all_goals (first | (intro y hy; cbv) | (assumption))) | (apply E_callX hE (c_dyMove n.exact.1 g3a x.1 x1 xl 192 (by decide) (by decide)); (case hf => rfl); (case hc => (cbv <;> trivial)); (case hle => (repeat' (first | exact u_nil | apply u_cons | apply u2_agg | exact u2_int | exact u1_int | exact u2_bool | exact u1_bool | exact u2_sli | exact u1_sli | exact u2_s0 | exact u1_s0))); all_goals (first | (intro y hy; cbv) | (assumption))))
        have yl : y.2.1.length < 67108864 := by rw [hy]; exact g3c
        (first | (apply E_pcallX hE (c_dyFloor (dyMake n.exact.1.1 n.exact.1.2.1 (n.exact.1.2.2 + 192)) (dyMake_c _ _ _) y hy yl); (case hm => rfl); (case hle => (repeat' (first | exact u_nil | apply u_cons | apply u2_agg | exact u2_int | exact u1_int | exact u2_bool | exact u1_bool | exact u2_sli | exact u1_sli | exact u2_s0 | exact u1_s0))); all_goals (first | (intro z hz; cbv) | (assumption))) | (apply E_callX hE (c_dyFloor (dyMake n.exact.1.1 n.exact.1.2.1 (n.exact.1.2.2 + 192)) (dyMake_c _ _ _) y hy yl); (case hf => rfl); (case hc => (cbv <;> trivial)); (case hle => (repeat' (first | exact u_nil | apply u_cons | apply u2_agg | exact u2_int | exact u1_int | exact u2_bool | exact u1_bool | exact u2_sli | exact u1_sli | exact u2_s0 | exact u1_s0))); all_goals (first | (intro z hz; cbv) | (assumption))))
        rw [← g3b z hz]; exact ⟨⟨rfl, rfl, trivial⟩, rfl, trivial⟩
    · have k1 : ¬ n.kind = 1 := by subst hE; exact eql_f k1
      refine E_br hE (fun k2 => ?_) (fun k2 => ?_) <;> cbv
      · rw [← G2 (fun z => k1 z.1) (by subst hE; exact lss_t k2), w0]; exact ⟨⟨rfl, rfl, trivial⟩, rfl, trivial⟩
      · skip
        (first | (apply E_pcallX hE (c_dyMove n.exact.1 g3a x.1 x1 xl 192 (by decide) (by decide)); (case hm => rfl); (case hle => (repeat' (first | exact u_nil | apply u_cons | apply u2_agg | exact u2_int | exact u1_int | exact u2_bool | exact u1_bool | exact u2_sli | exact u1_sli | exact u2_s0 | exact u1_s0))); all_goals (first | (intro y hy; cbv) | (assumption))) | (apply E_callX hE (c_dyMove n.exact.1 g3a x.1 x1 xl 192 (by decide) (by decide)); (case hf => rfl); (case hc => (cbv <;> trivial)); (case hle => (repeat' (first | exact u_nil | apply u_cons | apply u2_agg | exact u2_int | exact u1_int | exact u2_bool | exact u1_bool | exact u2_sli | exact u1_sli | exact u2_s0 | exact u1_s0))); all_goals (first | (intro y hy; cbv) | (assumption))))
        have yl : y.2.1.length < 67108864 := by rw [hy]; exact g3c
        (first | (apply E_pcallX hE (c_dyFloor (dyMake n.exact.1.1 n.exact.1.2.1 (n.exact.1.2.2 + 192)) (dyMake_c _ _ _) y hy yl); (case hm => rfl); (case hle => (repeat' (first | exact u_nil | apply u_cons | apply u2_agg | exact u2_int | exact u1_int | exact u2_bool | exact u1_bool | exact u2_sli | exact u1_sli | exact u2_s0 | exact u1_s0))); all_goals (first | (intro z hz; cbv) | (assumption))) | (apply E_callX hE (c_dyFloor (dyMake n.exact.1.1 n.exact.1.2.1 (n.exact.1.2.2 + 192)) (dyMake_c _ _ _) y hy yl); (case hf => rfl); (case hc => (cbv <;> trivial)); (case hle => (repeat' (first | exact u_nil | apply u_cons | apply u2_agg | exact u2_int | exact u1_int | exact u2_bool | exact u1_bool | exact u2_sli | exact u1_sli | exact u2_s0 | exact u1_s0))); all_goals (first | (intro z hz; cbv) | (assumption))))
        rw [← g3b z hz]; exact ⟨⟨rfl, rfl, trivial⟩, rfl, trivial⟩

end Go.Proofs.YtpadpcjdakfokaaGreatDoor.Ev

/- Contracts: the bounds of pi, and its interval. Printed by gen.py. -/
namespace Go.Proofs.YtpadpcjdakfokaaGreatDoor.Ev
open Go Go.Proofs
set_option linter.unusedVariables false
set_option linter.unusedSimpArgs false

attribute [local irreducible] Lb whN piOne piLo piHi
theorem wn {u : Bool × List Int} {z : Int} (k : Nat) (h : u = whN z) (hz : z.natAbs < 4294967296 ^ k) : Lb u.2 ∧ u.2.length ≤ k ∧ wv u.1 u.2 = z := by
  rw [h]; exact ⟨whN_lb _, whN_len hz, wv_whN _⟩
theorem wnB {z : Int} {n : Int} (h : z.natAbs < 4294967296 ^ 7) (hn : n.natAbs ≤ 100) : (z * n).natAbs < 4294967296 ^ 8 := by
  rw [Int.natAbs_mul]
  exact Nat.lt_of_le_of_lt (Nat.mul_le_mul (Nat.le_of_lt h) hn) (by decide +kernel)
theorem lo7 (n : Nat) : (piLo n).natAbs < 4294967296 ^ 7 := Nat.lt_of_le_of_lt (piLo_abs n) piBig
theorem hi7 (n : Nat) : (piHi n).natAbs < 4294967296 ^ 7 := Nat.lt_of_le_of_lt (piHi_abs n) piBig
theorem c_piBounds : ∃ t : (Bool × List Int) × (Bool × List Int), t = (whN piLoB, whN piHiB) ∧ CallsA Tryz.prog 121 [] (.tup [.agg [.bool (.s t.1.1), .sli .u32 t.1.2], .agg [.bool (.s t.2.1), .sli .u32 t.2.2]]) := by
  refine ⟨_, rfl, ?_⟩
  generalize hr : (whN piLoB, whN piHiB) = r
  have r1 : whN (piLo 5 * 16 - piHi 239 * 4) = r.1 := by rw [← hr]; rfl
  have r2 : whN (piHi 5 * 16 - piLo 239 * 4) = r.2 := by rw [← hr]; rfl
  clear hr
  refine callsA_of hG hm Tryz.func121 (by kernel_rfl) ?_
  intro E hE lp hl'
  cbv
  (first | (apply E_pcallX hE (c_piInverse 5 (by decide) (by decide) 5 rfl); (case hm => rfl); (case hle => (repeat' (first | exact u_nil | apply u_cons | apply u2_agg | exact u2_int | exact u1_int | exact u2_bool | exact u1_bool | exact u2_sli | exact u1_sli | exact u2_s0 | exact u1_s0))); all_goals (first | (intro x hx; cbv) | (assumption))) | (apply E_callX hE (c_piInverse 5 (by decide) (by decide) 5 rfl); (case hf => rfl); (case hc => (cbv <;> trivial)); (case hle => (repeat' (first | exact u_nil | apply u_cons | apply u2_agg | exact u2_int | exact u1_int | exact u2_bool | exact u1_bool | exact u2_sli | exact u1_sli | exact u2_s0 | exact u1_s0))); all_goals (first | (intro x hx; cbv) | (assumption))))
  have x1 : x.1 = whN (piLo 5) := by rw [show x = (whN (piLo 5), whN (piHi 5)) from hx]
  have x2 : x.2 = whN (piHi 5) := by rw [show x = (whN (piLo 5), whN (piHi 5)) from hx]
  (first | (apply E_pcallX hE (c_piInverse 239 (by decide) (by decide) 239 rfl); (case hm => rfl); (case hle => (repeat' (first | exact u_nil | apply u_cons | apply u2_agg | exact u2_int | exact u1_int | exact u2_bool | exact u1_bool | exact u2_sli | exact u1_sli | exact u2_s0 | exact u1_s0))); all_goals (first | (intro y hy; cbv) | (assumption))) | (apply E_callX hE (c_piInverse 239 (by decide) (by decide) 239 rfl); (case hf => rfl); (case hc => (cbv <;> trivial)); (case hle => (repeat' (first | exact u_nil | apply u_cons | apply u2_agg | exact u2_int | exact u1_int | exact u2_bool | exact u1_bool | exact u2_sli | exact u1_sli | exact u2_s0 | exact u1_s0))); all_goals (first | (intro y hy; cbv) | (assumption))))
  have y1 : y.1 = whN (piLo 239) := by rw [show y = (whN (piLo 239), whN (piHi 239)) from hy]
  have y2 : y.2 = whN (piHi 239) := by rw [show y = (whN (piLo 239), whN (piHi 239)) from hy]
  obtain ⟨xb, xl, xw⟩ := wn 7 x1 (lo7 5)
  obtain ⟨Xb, Xl, Xw⟩ := wn 7 x2 (hi7 5)
  obtain ⟨yb, yl, yw⟩ := wn 7 y1 (lo7 239)
  obtain ⟨Yb, Yl, Yw⟩ := wn 7 y2 (hi7 239)
  have xl : x.1.2.length < 60000000 := by omega
  have Xl : x.2.2.length < 60000000 := by omega
  have yl : y.1.2.length < 60000000 := by omega
  have Yl : y.2.2.length < 60000000 := by omega
  (first | (apply E_pcallX hE (c_piTimes x.1.1 x.1.2 16 xb xl (by decide) (by decide)); (case hm => rfl); (case hle => (repeat' (first | exact u_nil | apply u_cons | apply u2_agg | exact u2_int | exact u1_int | exact u2_bool | exact u1_bool | exact u2_sli | exact u1_sli | exact u2_s0 | exact u1_s0))); all_goals (first | (intro a ha; cbv) | (assumption))) | (apply E_callX hE (c_piTimes x.1.1 x.1.2 16 xb xl (by decide) (by decide)); (case hf => rfl); (case hc => (cbv <;> trivial)); (case hle => (repeat' (first | exact u_nil | apply u_cons | apply u2_agg | exact u2_int | exact u1_int | exact u2_bool | exact u1_bool | exact u2_sli | exact u1_sli | exact u2_s0 | exact u1_s0))); all_goals (first | (intro a ha; cbv) | (assumption))))
  have ha : a = whN (piLo 5 * 16) := by rw [← xw]; exact ha
  (first | (apply E_pcallX hE (c_piTimes y.2.1 y.2.2 4 Yb Yl (by decide) (by decide)); (case hm => rfl); (case hle => (repeat' (first | exact u_nil | apply u_cons | apply u2_agg | exact u2_int | exact u1_int | exact u2_bool | exact u1_bool | exact u2_sli | exact u1_sli | exact u2_s0 | exact u1_s0))); all_goals (first | (intro b hb; cbv) | (assumption))) | (apply E_callX hE (c_piTimes y.2.1 y.2.2 4 Yb Yl (by decide) (by decide)); (case hf => rfl); (case hc => (cbv <;> trivial)); (case hle => (repeat' (first | exact u_nil | apply u_cons | apply u2_agg | exact u2_int | exact u1_int | exact u2_bool | exact u1_bool | exact u2_sli | exact u1_sli | exact u2_s0 | exact u1_s0))); all_goals (first | (intro b hb; cbv) | (assumption))))
  have hb : b = whN (piHi 239 * 4) := by rw [← Yw]; exact hb
  obtain ⟨ab, al, aw⟩ := wn 8 ha (wnB (lo7 5) (by decide))
  obtain ⟨bb, bl, bw⟩ := wn 8 hb (wnB (hi7 239) (by decide))
  have al : a.2.length < 134217728 := by omega
  have bl : b.2.length < 134217728 := by omega
  (first | (apply E_pcallX hE (c_wSub a.1 a.2 b.1 b.2 ab bb al bl); (case hm => rfl); (case hle => (repeat' (first | exact u_nil | apply u_cons | apply u2_agg | exact u2_int | exact u1_int | exact u2_bool | exact u1_bool | exact u2_sli | exact u1_sli | exact u2_s0 | exact u1_s0))); all_goals (first | (intro c hc; cbv) | (assumption))) | (apply E_callX hE (c_wSub a.1 a.2 b.1 b.2 ab bb al bl); (case hf => rfl); (case hc => (cbv <;> trivial)); (case hle => (repeat' (first | exact u_nil | apply u_cons | apply u2_agg | exact u2_int | exact u1_int | exact u2_bool | exact u1_bool | exact u2_sli | exact u1_sli | exact u2_s0 | exact u1_s0))); all_goals (first | (intro c hc; cbv) | (assumption))))
  have hc : c = r.1 := by rw [← r1, ← aw, ← bw]; exact hc
  (first | (apply E_pcallX hE (c_piTimes x.2.1 x.2.2 16 Xb Xl (by decide) (by decide)); (case hm => rfl); (case hle => (repeat' (first | exact u_nil | apply u_cons | apply u2_agg | exact u2_int | exact u1_int | exact u2_bool | exact u1_bool | exact u2_sli | exact u1_sli | exact u2_s0 | exact u1_s0))); all_goals (first | (intro d hd; cbv) | (assumption))) | (apply E_callX hE (c_piTimes x.2.1 x.2.2 16 Xb Xl (by decide) (by decide)); (case hf => rfl); (case hc => (cbv <;> trivial)); (case hle => (repeat' (first | exact u_nil | apply u_cons | apply u2_agg | exact u2_int | exact u1_int | exact u2_bool | exact u1_bool | exact u2_sli | exact u1_sli | exact u2_s0 | exact u1_s0))); all_goals (first | (intro d hd; cbv) | (assumption))))
  have hd : d = whN (piHi 5 * 16) := by rw [← Xw]; exact hd
  (first | (apply E_pcallX hE (c_piTimes y.1.1 y.1.2 4 yb yl (by decide) (by decide)); (case hm => rfl); (case hle => (repeat' (first | exact u_nil | apply u_cons | apply u2_agg | exact u2_int | exact u1_int | exact u2_bool | exact u1_bool | exact u2_sli | exact u1_sli | exact u2_s0 | exact u1_s0))); all_goals (first | (intro e he; cbv) | (assumption))) | (apply E_callX hE (c_piTimes y.1.1 y.1.2 4 yb yl (by decide) (by decide)); (case hf => rfl); (case hc => (cbv <;> trivial)); (case hle => (repeat' (first | exact u_nil | apply u_cons | apply u2_agg | exact u2_int | exact u1_int | exact u2_bool | exact u1_bool | exact u2_sli | exact u1_sli | exact u2_s0 | exact u1_s0))); all_goals (first | (intro e he; cbv) | (assumption))))
  have he : e = whN (piLo 239 * 4) := by rw [← yw]; exact he
  obtain ⟨db, dl, dw⟩ := wn 8 hd (wnB (hi7 5) (by decide))
  obtain ⟨eb, el, ew⟩ := wn 8 he (wnB (lo7 239) (by decide))
  have dl : d.2.length < 134217728 := by omega
  have el : e.2.length < 134217728 := by omega
  (first | (apply E_pcallX hE (c_wSub d.1 d.2 e.1 e.2 db eb dl el); (case hm => rfl); (case hle => (repeat' (first | exact u_nil | apply u_cons | apply u2_agg | exact u2_int | exact u1_int | exact u2_bool | exact u1_bool | exact u2_sli | exact u1_sli | exact u2_s0 | exact u1_s0))); all_goals (first | (intro f hf; cbv) | (assumption))) | (apply E_callX hE (c_wSub d.1 d.2 e.1 e.2 db eb dl el); (case hf => rfl); (case hc => (cbv <;> trivial)); (case hle => (repeat' (first | exact u_nil | apply u_cons | apply u2_agg | exact u2_int | exact u1_int | exact u2_bool | exact u1_bool | exact u2_sli | exact u1_sli | exact u2_s0 | exact u1_s0))); all_goals (first | (intro f hf; cbv) | (assumption))))
  have hf : f = r.2 := by rw [← r2, ← dw, ← ew]; exact hf
  exact ⟨⟨congrArg Prod.fst hc, congrArg Prod.snd hc, trivial⟩, ⟨congrArg Prod.fst hf, congrArg Prod.snd hf, trivial⟩, trivial⟩

theorem c_piPart (a b : Bool × List Int) (za zb : Int) (ha : a = whN za) (hb : b = whN zb) (la : a.2.length ≤ 100000) (lb : b.2.length ≤ 100000) :
    ∃ t : Iv, t = Iv.make (ratioN (decide (za < 0)) za.natAbs false piOne false) (ratioN (decide (zb < 0)) zb.natAbs false piOne true) ∧
      CallsA Tryz.prog 14 [.agg [.bool (.s a.1), .sli .u32 a.2], .agg [.bool (.s b.1), .sli .u32 b.2]] t.av := by
  refine ⟨_, rfl, ?_⟩
  generalize hr : Iv.make (ratioN (decide (za < 0)) za.natAbs false piOne false) (ratioN (decide (zb < 0)) zb.natAbs false piOne true) = r
  have ab : Lb a.2 := by rw [ha]; exact whN_lb _
  have bb : Lb b.2 := by rw [hb]; exact whN_lb _
  have sd : ∀ s : Bool × List Int, s = whN (piOne : Int) → s.1 = false ∧ lv s.2 = piOne ∧ Lb s.2 ∧ s.2.length ≤ 100000 := by
    intro s h; rw [h, whN_nat]; exact ⟨rfl, lv_lim _, lim_lb _, Nat.le_trans (lim_pow_len piOne_le) (by decide)⟩
  have vd : ∀ (u : Bool × List Int) (z : Int), u = whN z → u.1 = decide (z < 0) ∧ lv u.2 = z.natAbs := by
    intro u z h; rw [h, whN_def]; exact ⟨rfl, lv_lim _⟩
  refine callsA_of hG hm Tryz.func14 (by kernel_rfl) ?_
  intro E hE lp hl'
  cbv
  (first | (apply E_pcallX hE (c_piScale); (case hm => rfl); (case hle => (repeat' (first | exact u_nil | apply u_cons | apply u2_agg | exact u2_int | exact u1_int | exact u2_bool | exact u1_bool | exact u2_sli | exact u1_sli | exact u2_s0 | exact u1_s0))); all_goals (first | (intro s hs; cbv) | (assumption))) | (apply E_callX hE (c_piScale); (case hf => rfl); (case hc => (cbv <;> trivial)); (case hle => (repeat' (first | exact u_nil | apply u_cons | apply u2_agg | exact u2_int | exact u1_int | exact u2_bool | exact u1_bool | exact u2_sli | exact u1_sli | exact u2_s0 | exact u1_s0))); all_goals (first | (intro s hs; cbv) | (assumption))))
  obtain ⟨s1, s2, s3, s4⟩ := sd s hs
  (first | (apply E_pcallX hE (c_qRatio a.1 a.2 s.1 s.2 false ab s3 la s4); (case hm => rfl); (case hle => (repeat' (first | exact u_nil | apply u_cons | apply u2_agg | exact u2_int | exact u1_int | exact u2_bool | exact u1_bool | exact u2_sli | exact u1_sli | exact u2_s0 | exact u1_s0))); all_goals (first | (intro x hx; cbv) | (assumption))) | (apply E_callX hE (c_qRatio a.1 a.2 s.1 s.2 false ab s3 la s4); (case hf => rfl); (case hc => (cbv <;> trivial)); (case hle => (repeat' (first | exact u_nil | apply u_cons | apply u2_agg | exact u2_int | exact u1_int | exact u2_bool | exact u1_bool | exact u2_sli | exact u1_sli | exact u2_s0 | exact u1_s0))); all_goals (first | (intro x hx; cbv) | (assumption))))
  have hx : x = ratioN (decide (za < 0)) za.natAbs false piOne false := by
    have k : x = ratioN a.1 (lv a.2) s.1 (lv s.2) false := hx
    rw [k, s1, s2, (vd a za ha).1, (vd a za ha).2]
  (first | (apply E_pcallX hE (c_piScale); (case hm => rfl); (case hle => (repeat' (first | exact u_nil | apply u_cons | apply u2_agg | exact u2_int | exact u1_int | exact u2_bool | exact u1_bool | exact u2_sli | exact u1_sli | exact u2_s0 | exact u1_s0))); all_goals (first | (intro u hu; cbv) | (assumption))) | (apply E_callX hE (c_piScale); (case hf => rfl); (case hc => (cbv <;> trivial)); (case hle => (repeat' (first | exact u_nil | apply u_cons | apply u2_agg | exact u2_int | exact u1_int | exact u2_bool | exact u1_bool | exact u2_sli | exact u1_sli | exact u2_s0 | exact u1_s0))); all_goals (first | (intro u hu; cbv) | (assumption))))
  obtain ⟨u1, u2, u3, u4⟩ := sd u hu
  (first | (apply E_pcallX hE (c_qRatio b.1 b.2 u.1 u.2 true bb u3 lb u4); (case hm => rfl); (case hle => (repeat' (first | exact u_nil | apply u_cons | apply u2_agg | exact u2_int | exact u1_int | exact u2_bool | exact u1_bool | exact u2_sli | exact u1_sli | exact u2_s0 | exact u1_s0))); all_goals (first | (intro y hy; cbv) | (assumption))) | (apply E_callX hE (c_qRatio b.1 b.2 u.1 u.2 true bb u3 lb u4); (case hf => rfl); (case hc => (cbv <;> trivial)); (case hle => (repeat' (first | exact u_nil | apply u_cons | apply u2_agg | exact u2_int | exact u1_int | exact u2_bool | exact u1_bool | exact u2_sli | exact u1_sli | exact u2_s0 | exact u1_s0))); all_goals (first | (intro y hy; cbv) | (assumption))))
  have hy : y = ratioN (decide (zb < 0)) zb.natAbs false piOne true := by
    have k : y = ratioN b.1 (lv b.2) u.1 (lv u.2) true := hy
    rw [k, u1, u2, (vd b zb hb).1, (vd b zb hb).2]
  (first | (apply E_pcallX hE (c_ivMake ⟨_, _, _, _⟩ ⟨_, _, _, _⟩); (case hm => rfl); (case hle => (repeat' (first | exact u_nil | apply u_cons | apply u2_agg | exact u2_int | exact u1_int | exact u2_bool | exact u1_bool | exact u2_sli | exact u1_sli | exact u2_s0 | exact u1_s0))); all_goals (first | (intro z hz; cbv) | (assumption))) | (apply E_callX hE (c_ivMake ⟨_, _, _, _⟩ ⟨_, _, _, _⟩); (case hf => rfl); (case hc => (cbv <;> trivial)); (case hle => (repeat' (first | exact u_nil | apply u_cons | apply u2_agg | exact u2_int | exact u1_int | exact u2_bool | exact u1_bool | exact u2_sli | exact u1_sli | exact u2_s0 | exact u1_s0))); all_goals (first | (intro z hz; cbv) | (assumption))))
  have k : z = r := by
    have k : z = Iv.make x y := hz
    rw [k, hx, hy, hr]
  rw [← k]
  exact ⟨rfl, rfl, rfl, rfl, rfl, rfl, rfl, rfl, rfl, trivial⟩

theorem c_piPi : ∃ t : Iv, t = piIv ∧ CallsA Tryz.prog 43 [] t.av := by
  refine ⟨_, rfl, ?_⟩
  generalize hr : piIv = r
  have r1 := piIv_is.trans hr
  clear hr
  have lA : piLoB.natAbs < 4294967296 ^ 9 := by decide +kernel
  have lB : piHiB.natAbs < 4294967296 ^ 9 := by decide +kernel
  refine callsA_of hG hm Tryz.func43 (by kernel_rfl) ?_
  intro E hE lp hl'
  cbv
  (first | (apply E_pcallX hE (c_piBounds); (case hm => rfl); (case hle => (repeat' (first | exact u_nil | apply u_cons | apply u2_agg | exact u2_int | exact u1_int | exact u2_bool | exact u1_bool | exact u2_sli | exact u1_sli | exact u2_s0 | exact u1_s0))); all_goals (first | (intro t ht; cbv) | (assumption))) | (apply E_callX hE (c_piBounds); (case hf => rfl); (case hc => (cbv <;> trivial)); (case hle => (repeat' (first | exact u_nil | apply u_cons | apply u2_agg | exact u2_int | exact u1_int | exact u2_bool | exact u1_bool | exact u2_sli | exact u1_sli | exact u2_s0 | exact u1_s0))); all_goals (first | (intro t ht; cbv) | (assumption))))
  have t1 : t.1 = whN piLoB := by rw [show t = (whN piLoB, whN piHiB) from ht]
  have t2 : t.2 = whN piHiB := by rw [show t = (whN piLoB, whN piHiB) from ht]
  have l1 : t.1.2.length ≤ 100000 := Nat.le_trans (wn 9 t1 lA).2.1 (by decide)
  have l2 : t.2.2.length ≤ 100000 := Nat.le_trans (wn 9 t2 lB).2.1 (by decide)
  (first | (apply E_pcallX hE (c_piPart t.1 t.2 piLoB piHiB t1 t2 l1 l2); (case hm => rfl); (case hle => (repeat' (first | exact u_nil | apply u_cons | apply u2_agg | exact u2_int | exact u1_int | exact u2_bool | exact u1_bool | exact u2_sli | exact u1_sli | exact u2_s0 | exact u1_s0))); all_goals (first | (intro z hz; cbv) | (assumption))) | (apply E_callX hE (c_piPart t.1 t.2 piLoB piHiB t1 t2 l1 l2); (case hf => rfl); (case hc => (cbv <;> trivial)); (case hle => (repeat' (first | exact u_nil | apply u_cons | apply u2_agg | exact u2_int | exact u1_int | exact u2_bool | exact u1_bool | exact u2_sli | exact u1_sli | exact u2_s0 | exact u1_s0))); all_goals (first | (intro z hz; cbv) | (assumption))))
  have k : z = r := Eq.trans hz r1
  rw [← k]
  exact ⟨rfl, rfl, rfl, rfl, rfl, rfl, rfl, rfl, rfl, trivial⟩

theorem c_awake11 : ∃ t : Bool, t = true ∧ CallsA Tryz.prog 10 [] (.bool (.s t)) := by
  refine ⟨_, rfl, ?_⟩
  refine callsA_of hG hm Tryz.func10 (by kernel_rfl) ?_
  intro E hE lp hl'
  cbv
  (first | (apply E_pcallX hE (c_piPi); (case hm => rfl); (case hle => (repeat' (first | exact u_nil | apply u_cons | apply u2_agg | exact u2_int | exact u1_int | exact u2_bool | exact u1_bool | exact u2_sli | exact u1_sli | exact u2_s0 | exact u1_s0))); all_goals (first | (intro p hp; cbv) | (assumption))) | (apply E_callX hE (c_piPi); (case hf => rfl); (case hc => (cbv <;> trivial)); (case hle => (repeat' (first | exact u_nil | apply u_cons | apply u2_agg | exact u2_int | exact u1_int | exact u2_bool | exact u1_bool | exact u2_sli | exact u1_sli | exact u2_s0 | exact u1_s0))); all_goals (first | (intro p hp; cbv) | (assumption))))
  have hp : p = piIv := hp
  have g1 : E.bnot p.empty = true := by subst hE hp; rfl
  refine E_br_t hE g1 ?_; cbv
  have g2 : E.band (E.cmp .eql p.lo.kind 1) (E.band (E.beq p.lo.neg false) (E.band (E.cmp .eql p.lo.m 14488038916154245684) (E.cmp .eql p.lo.e (-62)))) = true := by subst hE hp; decide +kernel
  refine E_br_t hE g2 ?_; cbv
  (first | (apply E_pcallX hE (c_Next ⟨_, _, _, _⟩ true); (case hm => rfl); (case hle => (repeat' (first | exact u_nil | apply u_cons | apply u2_agg | exact u2_int | exact u1_int | exact u2_bool | exact u1_bool | exact u2_sli | exact u1_sli | exact u2_s0 | exact u1_s0))); all_goals (first | (intro q hq; cbv) | (assumption))) | (apply E_callX hE (c_Next ⟨_, _, _, _⟩ true); (case hf => rfl); (case hc => (cbv <;> trivial)); (case hle => (repeat' (first | exact u_nil | apply u_cons | apply u2_agg | exact u2_int | exact u1_int | exact u2_bool | exact u1_bool | exact u2_sli | exact u1_sli | exact u2_s0 | exact u1_s0))); all_goals (first | (intro q hq; cbv) | (assumption))))
  have hq : q = p.hi := by
    have k : q = Num.next p.lo true := hq
    rw [k, hp]; exact piNext
  subst hq; subst hp; subst hE; decide +kernel

end Go.Proofs.YtpadpcjdakfokaaGreatDoor.Ev

/- Contracts of the reference: the two fixed numbers for an inverse tangent. Printed by gen.py. -/
namespace Go.Proofs.YtpadpcjdakfokaaGreatDoor.Ev
open Go Go.Proofs
set_option linter.unusedVariables false
set_option linter.unusedSimpArgs false

attribute [local irreducible] Lb whN piOne
end Go.Proofs.YtpadpcjdakfokaaGreatDoor.Ev

/- Contracts of the reference: the bounds of pi; whole numbers that are just the same; what is out of reach. Printed by gen.py. -/
namespace Go.Proofs.YtpadpcjdakfokaaGreatDoor.Ev
open Go Go.Proofs
set_option linter.unusedVariables false
set_option linter.unusedSimpArgs false

attribute [local irreducible] Lb whN piOne piLo piHi
theorem c_rSameEq (a : List Int) (hl : a.length < 134217728) : ∃ t : Bool, t = true ∧ CallsA Tryz.prog 63 [.sli .u32 a, .sli .u32 a] (.bool (.s t)) := by
  refine ⟨_, rfl, ?_⟩
  obtain ⟨m, em⟩ : ∃ m : Int → Nat, ∀ i, m i = ((a.length : Int) - i).toNat := ⟨_, fun _ => rfl⟩
  obtain ⟨ok, eok⟩ : ∃ ok : Int → Prop, ∀ i, ok i ↔ 0 ≤ i ∧ i ≤ a.length := ⟨_, fun _ => Iff.rfl⟩
  have rng : ∀ i, ok i → 0 ≤ i ∧ i ≤ a.length := fun i h => (eok i).1 h
  have nx : ∀ i j : Int, ok i → i < a.length → j = IntKind.i64.wrap (i + 1) → m j < m i ∧ ok j := by
    intro i j hi h hj
    obtain ⟨i0, i1⟩ := rng i hi
    rw [wi64_in (by omega) (by omega)] at hj
    exact ⟨by rw [em, em]; omega, (eok _).2 ⟨by omega, by omega⟩⟩
  have start : ok 0 := (eok 0).2 ⟨by omega, by omega⟩
  refine callsA_of hG hm Tryz.func63 (by kernel_rfl) ?_
  intro E hE lp hl'
  have ne : ∀ x : Int, E.cmp .neq x x = false := by intro x; subst hE; show cmpR .neq x x = false; rw [cmp_neq]; exact decide_eq_false (fun h => h rfl)
  cbv
  refine E_br_f hE (ne _) ?_; cbv
  refine E_loop hE hG hm hl' (fun i : Int => (⟨[(0, .sli .u32 a), (1, .sli .u32 a), (5, .int .i64 (.s i))], []⟩ : St)) m ok ⟨0, start, stLe rfl ?_⟩ ?_
  · (repeat' (first | exact t_nil | apply t_cons | exact u2_sli | exact u2_int | exact u2_bool | exact u2_ms | exact u2_ptr | exact (rfl : sle2 .s0 .s0)))
  intro i hi
  obtain ⟨i0, i1⟩ := rng i hi
  cbv
  repeat' (first
    | (refine E_br hE (fun h => ?_) (fun h => ?_) <;> cbv)
    | (refine E_nm hE (fun v hv => ?_); cbv)
    | (refine E_nilS hE (fun b hb => ?_); cbv)
    | fail)
  all_goals (try (exact absurd ((ne _).symm.trans ‹_›) (by decide)))
  all_goals (try (have L : i < a.length := (by have k := ‹E.cmp .lss i (E.len a) = true›; subst hE; exact lss_t k)))
  all_goals (try (have V : v = IntKind.i64.wrap (i + 1) := (by rw [hv]; subst hE; rfl); refine ⟨v, (nx i v hi L V).1, (nx i v hi L V).2, stLe rfl ?_⟩; (repeat' (first | exact t_nil | apply t_cons | exact u2_sli | exact u2_int | exact u2_bool | exact u2_ms | exact u2_ptr | exact (rfl : sle2 .s0 .s0)))))
  all_goals (first | rfl | (subst hE; simp only [NatCast.natCast, Int.ofNat_eq_natCast, realE, cmp_eql, cmp_neq, cmp_lss, cmp_leq, cmp_gtr, cmp_geq, intBinR, decide_eq_true_eq, decide_eq_false_iff_not, SI.val, SB.val, Num.eta, Iv.eta] at *; omega) | trace_state)

end Go.Proofs.YtpadpcjdakfokaaGreatDoor.Ev

/- Contracts: what the law of the fixed numbers for inverse tangents asks; the law. Printed by gen.py. -/
namespace Go.Proofs.YtpadpcjdakfokaaGreatDoor.Ev
open Go Go.Proofs
set_option linter.unusedVariables false
set_option linter.unusedSimpArgs false

attribute [local irreducible] Lb whN piOne piLo piHi piLoB piHiB
theorem c_r2AlikeEq (na : Bool) (a : List Int) (hl : a.length < 134217728) : ∃ t : Bool, t = true ∧ CallsA Tryz.prog 13 [.agg [.bool (.s na), .sli .u32 a], .agg [.bool (.s na), .sli .u32 a]] (.bool (.s t)) := by
  refine ⟨_, rfl, ?_⟩
  refine callsA_of hG hm Tryz.func13 (by kernel_rfl) ?_
  intro E hE lp hl'
  have be : E.beq na na = true := by subst hE; exact beq_self_eq_true na
  cbv
  (first | (apply E_pcallX hE (c_rSameEq a hl); (case hm => rfl); (case hle => (repeat' (first | exact u_nil | apply u_cons | apply u2_agg | exact u2_int | exact u1_int | exact u2_bool | exact u1_bool | exact u2_sli | exact u1_sli | exact u2_s0 | exact u1_s0))); all_goals (first | (intro t ht; cbv) | (assumption))) | (apply E_callX hE (c_rSameEq a hl); (case hf => rfl); (case hc => (cbv <;> trivial)); (case hle => (repeat' (first | exact u_nil | apply u_cons | apply u2_agg | exact u2_int | exact u1_int | exact u2_bool | exact u1_bool | exact u2_sli | exact u1_sli | exact u2_s0 | exact u1_s0))); all_goals (first | (intro t ht; cbv) | (assumption))))
  refine E_br_t hE ht ?_; cbv
  exact be

theorem c_r7Ratio (na : Bool) (a : List Int) (nb : Bool) (b : List Int) (up : Bool) (ha : Lb a) (hb : Lb b) (hla : a.length ≤ 1000) (hlb : b.length ≤ 1000) :
    ∃ t : Num, t = ratioP na (lv a) nb (lv b) 0 up ∧ CallsA Tryz.prog 67 [.agg [.bool (.s na), .sli .u32 a], .agg [.bool (.s nb), .sli .u32 b], .bool (.s up)] t.av := by
  refine ⟨_, rfl, ?_⟩
  generalize hr : ratioP na (lv a) nb (lv b) 0 up = r
  refine callsA_of hG hm Tryz.func67 (by kernel_rfl) ?_
  intro E hE lp hl'
  cbv
  (first | (apply E_pcallX hE (c_r7ratio na a nb b 0 up ha hb hla hlb (by decide)); (case hm => rfl); (case hle => (repeat' (first | exact u_nil | apply u_cons | apply u2_agg | exact u2_int | exact u1_int | exact u2_bool | exact u1_bool | exact u2_sli | exact u1_sli | exact u2_s0 | exact u1_s0))); all_goals (first | (intro t ht; cbv) | (assumption))) | (apply E_callX hE (c_r7ratio na a nb b 0 up ha hb hla hlb (by decide)); (case hf => rfl); (case hc => (cbv <;> trivial)); (case hle => (repeat' (first | exact u_nil | apply u_cons | apply u2_agg | exact u2_int | exact u1_int | exact u2_bool | exact u1_bool | exact u2_sli | exact u1_sli | exact u2_s0 | exact u1_s0))); all_goals (first | (intro t ht; cbv) | (assumption))))
  have k : t = r := Eq.trans ht hr
  rw [← k]; exact ⟨rfl, rfl, rfl, rfl, trivial⟩

end Go.Proofs.YtpadpcjdakfokaaGreatDoor.Ev

/- Contracts: the reference's fixed number; the interval of fixed numbers; the law PiFixes. Printed by gen.py. -/
namespace Go.Proofs.YtpadpcjdakfokaaGreatDoor.Ev
open Go Go.Proofs
set_option linter.unusedVariables false
set_option linter.unusedSimpArgs false

attribute [local irreducible] Lb whN
theorem c_r5Of30 : ∃ t : Num, t = Num.ofInt 1073741824 ∧ CallsA Tryz.prog 59 [.int .i64 (.l 1073741824)] t.av := by
  refine ⟨_, rfl, ?_⟩
  generalize hr : Num.ofInt 1073741824 = r
  have w : ∀ u : Bool × List Int, u = whN 1073741824 → u.1 = false ∧ lv u.2 = 1073741824 ∧ Lb u.2 ∧ u.2.length ≤ 1000 := by
    intro u h; rw [h]; exact ⟨by unfold whN; rfl, by unfold whN; show lv (lim (Int.natAbs 1073741824)) = _; rw [lv_lim]; rfl, whN_lb _, Nat.le_trans (whN_len (k := 1) (by decide)) (by decide)⟩
  have fin := rnd30.trans hr
  have dl : ∀ d : Bool × List Int × Int, d = dyL (dyMake false 1073741824 0) → Lb d.2.1 ∧ d.2.1.length ≤ 1000 ∧ (-9223372036854775808 ≤ d.2.2 ∧ d.2.2 < 9223372036854775808) := by
    intro d h
    have e : dyL (dyMake false 1073741824 0) = (false, [1], 30) := by decide +kernel
    rw [h, e]
    exact ⟨Lb.cons (by decide) (by decide) Lb.nil, by decide, by decide, by decide⟩
  clear hr
  refine callsA_of hG hm Tryz.func59 (by kernel_rfl) ?_
  intro E hE lp hl'
  cbv
  (first | (apply E_pcallX hE (c_r2From 1073741824 (by decide) (by decide)); (case hm => rfl); (case hle => (repeat' (first | exact u_nil | apply u_cons | apply u2_agg | exact u2_int | exact u1_int | exact u2_bool | exact u1_bool | exact u2_sli | exact u1_sli | exact u2_s0 | exact u1_s0))); all_goals (first | (intro u hu; cbv) | (assumption))) | (apply E_callX hE (c_r2From 1073741824 (by decide) (by decide)); (case hf => rfl); (case hc => (cbv <;> trivial)); (case hle => (repeat' (first | exact u_nil | apply u_cons | apply u2_agg | exact u2_int | exact u1_int | exact u2_bool | exact u1_bool | exact u2_sli | exact u1_sli | exact u2_s0 | exact u1_s0))); all_goals (first | (intro u hu; cbv) | (assumption))))
  obtain ⟨u1, u2, u3, u4⟩ := w u hu
  have u5 : u.2.length ≤ 125000 := Nat.le_trans u4 (by decide)
  (first | (apply E_pcallX hE (k_r3Make u.1 u.2 0 u3 u5 (by decide)); (case hm => rfl); (case hle => (repeat' (first | exact u_nil | apply u_cons | apply u2_agg | exact u2_int | exact u1_int | exact u2_bool | exact u1_bool | exact u2_sli | exact u1_sli | exact u2_s0 | exact u1_s0))); all_goals (first | (intro d hd; cbv) | (assumption))) | (apply E_callX hE (k_r3Make u.1 u.2 0 u3 u5 (by decide)); (case hf => rfl); (case hc => (cbv <;> trivial)); (case hle => (repeat' (first | exact u_nil | apply u_cons | apply u2_agg | exact u2_int | exact u1_int | exact u2_bool | exact u1_bool | exact u2_sli | exact u1_sli | exact u2_s0 | exact u1_s0))); all_goals (first | (intro d hd; cbv) | (assumption))))
  have hd : d = dyL (dyMake false 1073741824 0) := by
    have k : d = dyL (dyMake u.1 (lv u.2) 0) := hd
    rw [k, u1, u2]
  obtain ⟨d1, d2, d3⟩ := dl d hd
  have d4 : d.2.1.length ≤ 62500 := Nat.le_trans d2 (by decide)
  (first | (apply E_pcallX hE (c_rRound d.1 d.2.1 d.2.2 true d1 d4 d3); (case hm => rfl); (case hle => (repeat' (first | exact u_nil | apply u_cons | apply u2_agg | exact u2_int | exact u1_int | exact u2_bool | exact u1_bool | exact u2_sli | exact u1_sli | exact u2_s0 | exact u1_s0))); all_goals (first | (intro z hz; cbv) | (assumption))) | (apply E_callX hE (c_rRound d.1 d.2.1 d.2.2 true d1 d4 d3); (case hf => rfl); (case hc => (cbv <;> trivial)); (case hle => (repeat' (first | exact u_nil | apply u_cons | apply u2_agg | exact u2_int | exact u1_int | exact u2_bool | exact u1_bool | exact u2_sli | exact u1_sli | exact u2_s0 | exact u1_s0))); all_goals (first | (intro z hz; cbv) | (assumption))))
  have k : z = r := by
    have k : z = rnd (dyMake d.1 (lv d.2.1) d.2.2).1 (dyMake d.1 (lv d.2.1) d.2.2).2.1 (dyMake d.1 (lv d.2.1) d.2.2).2.2 true := hz
    rw [k, hd]; exact fin
  rw [← k]; exact ⟨rfl, rfl, rfl, rfl, trivial⟩
set_option maxHeartbeats 2000000 in
theorem c_r11Fix (x : Num) (ox : x.ok) : ∃ t : (Bool × List Int) × Bool, t = (whN (fixV x).1, (fixV x).2) ∧ CallsA Tryz.prog 12 [x.av] (.tup [.agg [.bool (.s t.1.1), .sli .u32 t.1.2], .bool (.s t.2)]) := by
  refine ⟨_, rfl, ?_⟩
  generalize hr : (whN (fixV x).1, (fixV x).2) = r
  have law : ∀ n, n = x.fair → n.ok ∧ n.far.ok ∧ FixR x n := by
    intro n h
    have o : n.ok := by rw [h]; exact Num.fair_ok ox
    exact ⟨o, o, fix_r ox h⟩
  have R : ∀ z b, fixV x = (z, b) → (whN z, b) = r := by intro z b h; rw [← hr, h]
  have ok30 : (Num.ofInt 1073741824).ok := Num.ofInt_ok _
  clear hr
  refine callsA_of hG hm Tryz.func12 (by kernel_rfl) ?_
  intro E hE lp hl'
  cbv
  (first | (apply E_pcallX hE (c_r6Fair ⟨_, _, _, _⟩); (case hm => rfl); (case hle => (repeat' (first | exact u_nil | apply u_cons | apply u2_agg | exact u2_int | exact u1_int | exact u2_bool | exact u1_bool | exact u2_sli | exact u1_sli | exact u2_s0 | exact u1_s0))); all_goals (first | (intro n hn_; cbv) | (assumption))) | (apply E_callX hE (c_r6Fair ⟨_, _, _, _⟩); (case hf => rfl); (case hc => (cbv <;> trivial)); (case hle => (repeat' (first | exact u_nil | apply u_cons | apply u2_agg | exact u2_int | exact u1_int | exact u2_bool | exact u1_bool | exact u2_sli | exact u1_sli | exact u2_s0 | exact u1_s0))); all_goals (first | (intro n hn_; cbv) | (assumption))))
  obtain ⟨on, of, law⟩ := law n hn_
  (first | (apply E_pcallX hE (c_rExact ⟨_, _, _, _⟩ on); (case hm => rfl); (case hle => (repeat' (first | exact u_nil | apply u_cons | apply u2_agg | exact u2_int | exact u1_int | exact u2_bool | exact u1_bool | exact u2_sli | exact u1_sli | exact u2_s0 | exact u1_s0))); all_goals (first | (intro d hd; cbv) | (assumption))) | (apply E_callX hE (c_rExact ⟨_, _, _, _⟩ on); (case hf => rfl); (case hc => (cbv <;> trivial)); (case hle => (repeat' (first | exact u_nil | apply u_cons | apply u2_agg | exact u2_int | exact u1_int | exact u2_bool | exact u1_bool | exact u2_sli | exact u1_sli | exact u2_s0 | exact u1_s0))); all_goals (first | (intro d hd; cbv) | (assumption))))
  have d1 : d.1 = dyL n.exact.1 := by have k : d = (dyL n.exact.1, n.exact.2) := hd; rw [k]
  have d2 : d.2 = n.exact.2 := by have k : d = (dyL n.exact.1, n.exact.2) := hd; rw [k]
  clear hd
  have ff : ∀ t : Bool, E.bnot t = false → t = true := by intro t h; subst hE; cases t; exact absurd h (by decide); rfl
  have ft : ∀ t : Bool, E.bnot t = true → t = false := by intro t h; subst hE; cases t; rfl; exact absurd h (by decide)
  refine E_br hE (fun g1 => ?_) (fun g1 => ?_) <;> cbv
  · rw [← R _ _ (law.a (d2.symm.trans (ft _ g1))), w0]; exact ⟨⟨rfl, rfl, trivial⟩, rfl, trivial⟩
  have ex := d2.symm.trans (ff _ g1)
  (first | (apply E_pcallX hE (c_r5Of30); (case hm => rfl); (case hle => (repeat' (first | exact u_nil | apply u_cons | apply u2_agg | exact u2_int | exact u1_int | exact u2_bool | exact u1_bool | exact u2_sli | exact u1_sli | exact u2_s0 | exact u1_s0))); all_goals (first | (intro o ho_; cbv) | (assumption))) | (apply E_callX hE (c_r5Of30); (case hf => rfl); (case hc => (cbv <;> trivial)); (case hle => (repeat' (first | exact u_nil | apply u_cons | apply u2_agg | exact u2_int | exact u1_int | exact u2_bool | exact u1_bool | exact u2_sli | exact u1_sli | exact u2_s0 | exact u1_s0))); all_goals (first | (intro o ho_; cbv) | (assumption))))
  have oo : o.ok := by rw [ho_]; exact ok30
  (first | (apply E_pcallX hE (c_r5Cmp n.far ⟨_, _, _, _⟩ of oo); (case hm => rfl); (case hle => (repeat' (first | exact u_nil | apply u_cons | apply u2_agg | exact u2_int | exact u1_int | exact u2_bool | exact u1_bool | exact u2_sli | exact u1_sli | exact u2_s0 | exact u1_s0))); all_goals (first | (intro c hc; cbv) | (assumption))) | (apply E_callX hE (c_r5Cmp n.far ⟨_, _, _, _⟩ of oo); (case hf => rfl); (case hc => (cbv <;> trivial)); (case hle => (repeat' (first | exact u_nil | apply u_cons | apply u2_agg | exact u2_int | exact u1_int | exact u2_bool | exact u1_bool | exact u2_sli | exact u1_sli | exact u2_s0 | exact u1_s0))); all_goals (first | (intro c hc; cbv) | (assumption))))
  have hc : c = n.far.cmp o := hc
  rw [ho_] at hc
  refine E_br hE (fun g2 => ?_) (fun g2 => ?_) <;> cbv
  · have g2 : ¬ n.far.cmp (Num.ofInt 1073741824) < 0 := by rw [← hc]; subst hE; have := geq_t g2; omega
    rw [← R _ _ (law.b ex g2), w0]; exact ⟨⟨rfl, rfl, trivial⟩, rfl, trivial⟩
  have g2 : n.far.cmp (Num.ofInt 1073741824) < 0 := by rw [← hc]; subst hE; have := geq_f g2; omega
  refine E_br hE (fun g3 => ?_) (fun g3 => ?_) <;> cbv
  · rw [← R _ _ (law.d (by subst hE; exact eql_t g3)), w0]; exact ⟨⟨rfl, rfl, trivial⟩, rfl, trivial⟩
  have g3 : n.kind ≠ 0 := by subst hE; exact eql_f g3
  have de : d.1.2.2 = n.exact.1.2.2 := by rw [d1]; rfl
  refine E_br hE (fun g4 => ?_) (fun g4 => ?_) <;> cbv
  · have g4 : n.exact.1.2.2 < -3000 := by rw [← de]; subst hE; exact lss_t g4
    refine E_br hE (fun g5 => ?_) (fun g5 => ?_) <;> cbv
    · skip
      (first | (apply E_pcallX hE (c_r2From (-1) (by decide) (by decide)); (case hm => rfl); (case hle => (repeat' (first | exact u_nil | apply u_cons | apply u2_agg | exact u2_int | exact u1_int | exact u2_bool | exact u1_bool | exact u2_sli | exact u1_sli | exact u2_s0 | exact u1_s0))); all_goals (first | (intro u hu; cbv) | (assumption))) | (apply E_callX hE (c_r2From (-1) (by decide) (by decide)); (case hf => rfl); (case hc => (cbv <;> trivial)); (case hle => (repeat' (first | exact u_nil | apply u_cons | apply u2_agg | exact u2_int | exact u1_int | exact u2_bool | exact u1_bool | exact u2_sli | exact u1_sli | exact u2_s0 | exact u1_s0))); all_goals (first | (intro u hu; cbv) | (assumption))))
      rw [← R _ _ (law.e1 ex g3 g4 g5), ← hu]; exact ⟨⟨rfl, rfl, trivial⟩, rfl, trivial⟩
    · rw [← R _ _ (law.e0 ex g3 g4 (by rw [g5]; decide)), w0]; exact ⟨⟨rfl, rfl, trivial⟩, rfl, trivial⟩
  have g4 : ¬ n.exact.1.2.2 < -3000 := by rw [← de]; subst hE; exact lss_f g4
  obtain ⟨f1, f2, f3, f4, f5, f6⟩ := law.f ex g2 g3 g4
  have l1 : d.1.2.1.length ≤ 100000 := by rw [d1]; exact Nat.le_trans f2 (by decide)
  (first | (apply E_pcallX hE (c_r3Move n.exact.1 f1 d.1 d1 l1 192 (by decide) (by decide)); (case hm => rfl); (case hle => (repeat' (first | exact u_nil | apply u_cons | apply u2_agg | exact u2_int | exact u1_int | exact u2_bool | exact u1_bool | exact u2_sli | exact u1_sli | exact u2_s0 | exact u1_s0))); all_goals (first | (intro m hm_; cbv) | (assumption))) | (apply E_callX hE (c_r3Move n.exact.1 f1 d.1 d1 l1 192 (by decide) (by decide)); (case hf => rfl); (case hc => (cbv <;> trivial)); (case hle => (repeat' (first | exact u_nil | apply u_cons | apply u2_agg | exact u2_int | exact u1_int | exact u2_bool | exact u1_bool | exact u2_sli | exact u1_sli | exact u2_s0 | exact u1_s0))); all_goals (first | (intro m hm_; cbv) | (assumption))))
  have l2 : m.2.1.length ≤ 1000 := by rw [hm_]; exact Nat.le_trans f4 (by decide)
  (first | (apply E_pcallX hE (c_r3Floor (dyMake n.exact.1.1 n.exact.1.2.1 (n.exact.1.2.2 + 192)) f3 m hm_ l2 f5); (case hm => rfl); (case hle => (repeat' (first | exact u_nil | apply u_cons | apply u2_agg | exact u2_int | exact u1_int | exact u2_bool | exact u1_bool | exact u2_sli | exact u1_sli | exact u2_s0 | exact u1_s0))); all_goals (first | (intro v hv; cbv) | (assumption))) | (apply E_callX hE (c_r3Floor (dyMake n.exact.1.1 n.exact.1.2.1 (n.exact.1.2.2 + 192)) f3 m hm_ l2 f5); (case hf => rfl); (case hc => (cbv <;> trivial)); (case hle => (repeat' (first | exact u_nil | apply u_cons | apply u2_agg | exact u2_int | exact u1_int | exact u2_bool | exact u1_bool | exact u2_sli | exact u1_sli | exact u2_s0 | exact u1_s0))); all_goals (first | (intro v hv; cbv) | (assumption))))
  rw [← R _ _ f6, ← hv]; exact ⟨⟨rfl, rfl, trivial⟩, rfl, trivial⟩

theorem ratioN_ok {na nb : Bool} {a b : Nat} {up : Bool} (la : blen (a : Int) ≤ 300000) (lb : blen (b : Int) ≤ 300000) : (ratioN na a nb b up).ok := by
  by_cases hb : b = 0
  · unfold ratioN; rw [if_pos hb]; exact Num.inf_ok _
  by_cases ha : a = 0
  · unfold ratioN; rw [if_neg hb, if_pos ha]; exact Num.zero_ok
  · exact (ratioN_best up (by omega) (by omega) (by omega) (by omega)).ok
theorem c_piPartG (na : Bool) (a : List Int) (nb : Bool) (b : List Int) (ab : Lb a) (bb : Lb b) (la0 : a.length ≤ 1000) (lb0 : b.length ≤ 1000) :
    ∃ t : Iv, t = Iv.make (ratioN na (lv a) false piOne false) (ratioN nb (lv b) false piOne true) ∧
      CallsA Tryz.prog 14 [.agg [.bool (.s na), .sli .u32 a], .agg [.bool (.s nb), .sli .u32 b]] t.av := by
  refine ⟨_, rfl, ?_⟩
  generalize hr : Iv.make (ratioN na (lv a) false piOne false) (ratioN nb (lv b) false piOne true) = r
  have la : a.length ≤ 100000 := by omega
  have lb : b.length ≤ 100000 := by omega
  have sd : ∀ s : Bool × List Int, s = whN (piOne : Int) → s.1 = false ∧ lv s.2 = piOne ∧ Lb s.2 ∧ s.2.length ≤ 1000 ∧ s.2.length ≤ 100000 := by
    intro s h
    have l := lim_pow_len piOne_le
    rw [h]; exact ⟨by rw [whN_nat], by rw [whN_nat]; show lv (lim piOne) = piOne; exact lv_lim _, whN_lb _, by rw [whN_nat]; exact Nat.le_trans l (by decide), by rw [whN_nat]; exact Nat.le_trans l (by decide)⟩
  refine callsA_of hG hm Tryz.func14 (by kernel_rfl) ?_
  intro E hE lp hl'
  cbv
  (first | (apply E_pcallX hE (c_piScale); (case hm => rfl); (case hle => (repeat' (first | exact u_nil | apply u_cons | apply u2_agg | exact u2_int | exact u1_int | exact u2_bool | exact u1_bool | exact u2_sli | exact u1_sli | exact u2_s0 | exact u1_s0))); all_goals (first | (intro s hs; cbv) | (assumption))) | (apply E_callX hE (c_piScale); (case hf => rfl); (case hc => (cbv <;> trivial)); (case hle => (repeat' (first | exact u_nil | apply u_cons | apply u2_agg | exact u2_int | exact u1_int | exact u2_bool | exact u1_bool | exact u2_sli | exact u1_sli | exact u2_s0 | exact u1_s0))); all_goals (first | (intro s hs; cbv) | (assumption))))
  obtain ⟨s1, s2, s3, s4, s5⟩ := sd s hs
  (first | (apply E_pcallX hE (c_qRatio na a s.1 s.2 false ab s3 la s5); (case hm => rfl); (case hle => (repeat' (first | exact u_nil | apply u_cons | apply u2_agg | exact u2_int | exact u1_int | exact u2_bool | exact u1_bool | exact u2_sli | exact u1_sli | exact u2_s0 | exact u1_s0))); all_goals (first | (intro x hx; cbv) | (assumption))) | (apply E_callX hE (c_qRatio na a s.1 s.2 false ab s3 la s5); (case hf => rfl); (case hc => (cbv <;> trivial)); (case hle => (repeat' (first | exact u_nil | apply u_cons | apply u2_agg | exact u2_int | exact u1_int | exact u2_bool | exact u1_bool | exact u2_sli | exact u1_sli | exact u2_s0 | exact u1_s0))); all_goals (first | (intro x hx; cbv) | (assumption))))
  have hx : x = ratioN na (lv a) false piOne false := by
    have k : x = ratioN na (lv a) s.1 (lv s.2) false := hx
    rw [k, s1, s2]
  (first | (apply E_pcallX hE (c_piScale); (case hm => rfl); (case hle => (repeat' (first | exact u_nil | apply u_cons | apply u2_agg | exact u2_int | exact u1_int | exact u2_bool | exact u1_bool | exact u2_sli | exact u1_sli | exact u2_s0 | exact u1_s0))); all_goals (first | (intro u hu; cbv) | (assumption))) | (apply E_callX hE (c_piScale); (case hf => rfl); (case hc => (cbv <;> trivial)); (case hle => (repeat' (first | exact u_nil | apply u_cons | apply u2_agg | exact u2_int | exact u1_int | exact u2_bool | exact u1_bool | exact u2_sli | exact u1_sli | exact u2_s0 | exact u1_s0))); all_goals (first | (intro u hu; cbv) | (assumption))))
  obtain ⟨u1, u2, u3, u4, u5⟩ := sd u hu
  (first | (apply E_pcallX hE (c_qRatio nb b u.1 u.2 true bb u3 lb u5); (case hm => rfl); (case hle => (repeat' (first | exact u_nil | apply u_cons | apply u2_agg | exact u2_int | exact u1_int | exact u2_bool | exact u1_bool | exact u2_sli | exact u1_sli | exact u2_s0 | exact u1_s0))); all_goals (first | (intro y hy; cbv) | (assumption))) | (apply E_callX hE (c_qRatio nb b u.1 u.2 true bb u3 lb u5); (case hf => rfl); (case hc => (cbv <;> trivial)); (case hle => (repeat' (first | exact u_nil | apply u_cons | apply u2_agg | exact u2_int | exact u1_int | exact u2_bool | exact u1_bool | exact u2_sli | exact u1_sli | exact u2_s0 | exact u1_s0))); all_goals (first | (intro y hy; cbv) | (assumption))))
  have hy : y = ratioN nb (lv b) false piOne true := by
    have k : y = ratioN nb (lv b) u.1 (lv u.2) true := hy
    rw [k, u1, u2]
  (first | (apply E_pcallX hE (c_ivMake ⟨_, _, _, _⟩ ⟨_, _, _, _⟩); (case hm => rfl); (case hle => (repeat' (first | exact u_nil | apply u_cons | apply u2_agg | exact u2_int | exact u1_int | exact u2_bool | exact u1_bool | exact u2_sli | exact u1_sli | exact u2_s0 | exact u1_s0))); all_goals (first | (intro z hz; cbv) | (assumption))) | (apply E_callX hE (c_ivMake ⟨_, _, _, _⟩ ⟨_, _, _, _⟩); (case hf => rfl); (case hc => (cbv <;> trivial)); (case hle => (repeat' (first | exact u_nil | apply u_cons | apply u2_agg | exact u2_int | exact u1_int | exact u2_bool | exact u1_bool | exact u2_sli | exact u1_sli | exact u2_s0 | exact u1_s0))); all_goals (first | (intro z hz; cbv) | (assumption))))
  have k : z = r := by
    have k : z = Iv.make x y := hz
    rw [k, hx, hy, hr]
  rw [← k]
  exact ⟨rfl, rfl, rfl, rfl, rfl, rfl, rfl, rfl, rfl, trivial⟩
theorem c_r11PartG (na : Bool) (a : List Int) (nb : Bool) (b : List Int) (ab : Lb a) (bb : Lb b) (la0 : a.length ≤ 1000) (lb0 : b.length ≤ 1000) :
    ∃ t : Iv, t = Iv.make (ratioN na (lv a) false piOne false) (ratioN nb (lv b) false piOne true) ∧
      CallsA Tryz.prog 15 [.agg [.bool (.s na), .sli .u32 a], .agg [.bool (.s nb), .sli .u32 b]] t.av := by
  refine ⟨_, rfl, ?_⟩
  generalize hr : Iv.make (ratioN na (lv a) false piOne false) (ratioN nb (lv b) false piOne true) = r
  have la : a.length ≤ 100000 := by omega
  have lb : b.length ≤ 100000 := by omega
  have sd : ∀ s : Bool × List Int, s = whN (piOne : Int) → s.1 = false ∧ lv s.2 = piOne ∧ Lb s.2 ∧ s.2.length ≤ 1000 ∧ s.2.length ≤ 100000 := by
    intro s h
    have l := lim_pow_len piOne_le
    rw [h]; exact ⟨by rw [whN_nat], by rw [whN_nat]; show lv (lim piOne) = piOne; exact lv_lim _, whN_lb _, by rw [whN_nat]; exact Nat.le_trans l (by decide), by rw [whN_nat]; exact Nat.le_trans l (by decide)⟩
  have pb1 : blen ((piOne : Nat) : Int) ≤ 300000 := Int.le_trans (blen_le 193 (by decide +kernel)) (by decide)
  have ba : blen (lv a : Int) ≤ 300000 := by have := blen_le_len ab; omega
  have bb1 : blen (lv b : Int) ≤ 300000 := by have := blen_le_len bb; omega
  have pa := (ratio_one na (lv a) false piOne false ba pb1).symm
  have pb := (ratio_one nb (lv b) false piOne true bb1 pb1).symm
  have ka : (ratioN na (lv a) false piOne false).ok := ratioN_ok ba pb1
  have kb : (ratioN nb (lv b) false piOne true).ok := ratioN_ok bb1 pb1
  refine callsA_of hG hm Tryz.func15 (by kernel_rfl) ?_
  intro E hE lp hl'
  cbv
  (first | (apply E_pcallX hE (c_r11Scale); (case hm => rfl); (case hle => (repeat' (first | exact u_nil | apply u_cons | apply u2_agg | exact u2_int | exact u1_int | exact u2_bool | exact u1_bool | exact u2_sli | exact u1_sli | exact u2_s0 | exact u1_s0))); all_goals (first | (intro s hs; cbv) | (assumption))) | (apply E_callX hE (c_r11Scale); (case hf => rfl); (case hc => (cbv <;> trivial)); (case hle => (repeat' (first | exact u_nil | apply u_cons | apply u2_agg | exact u2_int | exact u1_int | exact u2_bool | exact u1_bool | exact u2_sli | exact u1_sli | exact u2_s0 | exact u1_s0))); all_goals (first | (intro s hs; cbv) | (assumption))))
  obtain ⟨s1, s2, s3, s4, s5⟩ := sd s hs
  (first | (apply E_pcallX hE (c_r7Ratio na a s.1 s.2 false ab s3 la0 s4); (case hm => rfl); (case hle => (repeat' (first | exact u_nil | apply u_cons | apply u2_agg | exact u2_int | exact u1_int | exact u2_bool | exact u1_bool | exact u2_sli | exact u1_sli | exact u2_s0 | exact u1_s0))); all_goals (first | (intro x hx; cbv) | (assumption))) | (apply E_callX hE (c_r7Ratio na a s.1 s.2 false ab s3 la0 s4); (case hf => rfl); (case hc => (cbv <;> trivial)); (case hle => (repeat' (first | exact u_nil | apply u_cons | apply u2_agg | exact u2_int | exact u1_int | exact u2_bool | exact u1_bool | exact u2_sli | exact u1_sli | exact u2_s0 | exact u1_s0))); all_goals (first | (intro x hx; cbv) | (assumption))))
  have hx : x = ratioN na (lv a) false piOne false := by
    have k : x = ratioP na (lv a) s.1 (lv s.2) 0 false := hx
    rw [k, s1, s2, pa]
  (first | (apply E_pcallX hE (c_r11Scale); (case hm => rfl); (case hle => (repeat' (first | exact u_nil | apply u_cons | apply u2_agg | exact u2_int | exact u1_int | exact u2_bool | exact u1_bool | exact u2_sli | exact u1_sli | exact u2_s0 | exact u1_s0))); all_goals (first | (intro u hu; cbv) | (assumption))) | (apply E_callX hE (c_r11Scale); (case hf => rfl); (case hc => (cbv <;> trivial)); (case hle => (repeat' (first | exact u_nil | apply u_cons | apply u2_agg | exact u2_int | exact u1_int | exact u2_bool | exact u1_bool | exact u2_sli | exact u1_sli | exact u2_s0 | exact u1_s0))); all_goals (first | (intro u hu; cbv) | (assumption))))
  obtain ⟨u1, u2, u3, u4, u5⟩ := sd u hu
  (first | (apply E_pcallX hE (c_r7Ratio nb b u.1 u.2 true bb u3 lb0 u4); (case hm => rfl); (case hle => (repeat' (first | exact u_nil | apply u_cons | apply u2_agg | exact u2_int | exact u1_int | exact u2_bool | exact u1_bool | exact u2_sli | exact u1_sli | exact u2_s0 | exact u1_s0))); all_goals (first | (intro y hy; cbv) | (assumption))) | (apply E_callX hE (c_r7Ratio nb b u.1 u.2 true bb u3 lb0 u4); (case hf => rfl); (case hc => (cbv <;> trivial)); (case hle => (repeat' (first | exact u_nil | apply u_cons | apply u2_agg | exact u2_int | exact u1_int | exact u2_bool | exact u1_bool | exact u2_sli | exact u1_sli | exact u2_s0 | exact u1_s0))); all_goals (first | (intro y hy; cbv) | (assumption))))
  have hy : y = ratioN nb (lv b) false piOne true := by
    have k : y = ratioP nb (lv b) u.1 (lv u.2) 0 true := hy
    rw [k, u1, u2, pb]
  have ox : x.ok := by rw [hx]; exact ka
  have oy : y.ok := by rw [hy]; exact kb
  (first | (apply E_pcallX hE (c_r8Make ⟨_, _, _, _⟩ ⟨_, _, _, _⟩ ox oy); (case hm => rfl); (case hle => (repeat' (first | exact u_nil | apply u_cons | apply u2_agg | exact u2_int | exact u1_int | exact u2_bool | exact u1_bool | exact u2_sli | exact u1_sli | exact u2_s0 | exact u1_s0))); all_goals (first | (intro z hz; cbv) | (assumption))) | (apply E_callX hE (c_r8Make ⟨_, _, _, _⟩ ⟨_, _, _, _⟩ ox oy); (case hf => rfl); (case hc => (cbv <;> trivial)); (case hle => (repeat' (first | exact u_nil | apply u_cons | apply u2_agg | exact u2_int | exact u1_int | exact u2_bool | exact u1_bool | exact u2_sli | exact u1_sli | exact u2_s0 | exact u1_s0))); all_goals (first | (intro z hz; cbv) | (assumption))))
  have k : z = r := by
    have k : z = Iv.make x y := hz
    rw [k, hx, hy, hr]
  rw [← k]
  exact ⟨rfl, rfl, rfl, rfl, rfl, rfl, rfl, rfl, rfl, trivial⟩
set_option maxHeartbeats 2000000 in
theorem c_PiFixes (n : Num) (on : n.ok) (na : Bool) (a : List Int) (nb : Bool) (b : List Int) (ab : Lb a) (bb : Lb b) (la : a.length < 9223372036854775808) (lb : b.length < 9223372036854775808) :
    ∃ t : Bool, t = true ∧ CallsA Tryz.prog 3 [n.av, .agg [.bool (.s na), .sli .u32 a], .agg [.bool (.s nb), .sli .u32 b]] (.bool (.s t)) := by
  refine ⟨_, rfl, ?_⟩
  have fx : ∀ t : Bool × List Int, t = whN (fixV n).1 → t.2.length < 134217728 := by
    intro t h
    rw [h]
    by_cases g : (fixV n).2 = true
    · have f := (fix_floor g).2.2.2
      have := whN_len (z := (fixV n).1) (k := 7) (by rw [show (4294967296 : Nat) ^ 7 = 2 ^ 224 by decide +kernel]; omega)
      omega
    · have z : (fixV n).1 = 0 := by
        unfold fixV at g ⊢
        split
        · rfl
        · rename_i h; rw [if_neg h] at g; exact absurd rfl g
      rw [z]
      have := whN_len (z := 0) (k := 1) (by decide)
      omega
  refine callsA_of hG hm Tryz.func3 (by kernel_rfl) ?_
  intro E hE lp hl'
  cbv
  (first | (apply E_pcallX hE (c_awake11); (case hm => rfl); (case hle => (repeat' (first | exact u_nil | apply u_cons | apply u2_agg | exact u2_int | exact u1_int | exact u2_bool | exact u1_bool | exact u2_sli | exact u1_sli | exact u2_s0 | exact u1_s0))); all_goals (first | (intro up hup; cbv) | (assumption))) | (apply E_callX hE (c_awake11); (case hf => rfl); (case hc => (cbv <;> trivial)); (case hle => (repeat' (first | exact u_nil | apply u_cons | apply u2_agg | exact u2_int | exact u1_int | exact u2_bool | exact u1_bool | exact u2_sli | exact u1_sli | exact u2_s0 | exact u1_s0))); all_goals (first | (intro up hup; cbv) | (assumption))))
  have b0 : E.bnot up = false := by subst hE; rw [hup]; rfl
  refine E_br_f hE b0 ?_; cbv
  have la1 : E.cmp .gtr (E.len a) 20 = false → a.length ≤ 1000 := by intro h; subst hE; have : ¬ (a.length : Int) > 20 := of_decide_eq_false h; omega
  have lb1 : E.cmp .gtr (E.len b) 20 = false → b.length ≤ 1000 := by intro h; subst hE; have : ¬ (b.length : Int) > 20 := of_decide_eq_false h; omega
  refine E_br hE (fun g1 => ?_) (fun g1 => ?_) <;> cbv
  · exact hup
  refine E_br hE (fun g2 => ?_) (fun g2 => ?_) <;> cbv
  · exact hup
  have la2 := la1 g1
  have lb2 := lb1 g2
  (first | (apply E_pcallX hE (c_Fix ⟨_, _, _, _⟩ on); (case hm => rfl); (case hle => (repeat' (first | exact u_nil | apply u_cons | apply u2_agg | exact u2_int | exact u1_int | exact u2_bool | exact u1_bool | exact u2_sli | exact u1_sli | exact u2_s0 | exact u1_s0))); all_goals (first | (intro x hx; cbv) | (assumption))) | (apply E_callX hE (c_Fix ⟨_, _, _, _⟩ on); (case hf => rfl); (case hc => (cbv <;> trivial)); (case hle => (repeat' (first | exact u_nil | apply u_cons | apply u2_agg | exact u2_int | exact u1_int | exact u2_bool | exact u1_bool | exact u2_sli | exact u1_sli | exact u2_s0 | exact u1_s0))); all_goals (first | (intro x hx; cbv) | (assumption))))
  (first | (apply E_pcallX hE (c_r11Fix ⟨_, _, _, _⟩ on); (case hm => rfl); (case hle => (repeat' (first | exact u_nil | apply u_cons | apply u2_agg | exact u2_int | exact u1_int | exact u2_bool | exact u1_bool | exact u2_sli | exact u1_sli | exact u2_s0 | exact u1_s0))); all_goals (first | (intro y hy; cbv) | (assumption))) | (apply E_callX hE (c_r11Fix ⟨_, _, _, _⟩ on); (case hf => rfl); (case hc => (cbv <;> trivial)); (case hle => (repeat' (first | exact u_nil | apply u_cons | apply u2_agg | exact u2_int | exact u1_int | exact u2_bool | exact u1_bool | exact u2_sli | exact u1_sli | exact u2_s0 | exact u1_s0))); all_goals (first | (intro y hy; cbv) | (assumption))))
  have hx : x = (whN (fixV n).1, (fixV n).2) := hx
  have hy : y = (whN (fixV n).1, (fixV n).2) := hy
  have xy : y = x := hy.trans hx.symm
  have xl : x.1.2.length < 134217728 := fx _ (by rw [hx])
  clear hx hy
  subst xy
  (first | (apply E_pcallX hE (c_r2AlikeEq y.1.1 y.1.2 xl); (case hm => rfl); (case hle => (repeat' (first | exact u_nil | apply u_cons | apply u2_agg | exact u2_int | exact u1_int | exact u2_bool | exact u1_bool | exact u2_sli | exact u1_sli | exact u2_s0 | exact u1_s0))); all_goals (first | (intro same hs; cbv) | (assumption))) | (apply E_callX hE (c_r2AlikeEq y.1.1 y.1.2 xl); (case hf => rfl); (case hc => (cbv <;> trivial)); (case hle => (repeat' (first | exact u_nil | apply u_cons | apply u2_agg | exact u2_int | exact u1_int | exact u2_bool | exact u1_bool | exact u2_sli | exact u1_sli | exact u2_s0 | exact u1_s0))); all_goals (first | (intro same hs; cbv) | (assumption))))
  refine E_br_t hE hs ?_; cbv
  refine E_br_t hE (show E.beq y.2 y.2 = true by subst hE; exact beq_self_eq_true _) ?_; cbv
  (first | (apply E_pcallX hE (c_piPartG na a nb b ab bb la2 lb2); (case hm => rfl); (case hle => (repeat' (first | exact u_nil | apply u_cons | apply u2_agg | exact u2_int | exact u1_int | exact u2_bool | exact u1_bool | exact u2_sli | exact u1_sli | exact u2_s0 | exact u1_s0))); all_goals (first | (intro i1 hi1; cbv) | (assumption))) | (apply E_callX hE (c_piPartG na a nb b ab bb la2 lb2); (case hf => rfl); (case hc => (cbv <;> trivial)); (case hle => (repeat' (first | exact u_nil | apply u_cons | apply u2_agg | exact u2_int | exact u1_int | exact u2_bool | exact u1_bool | exact u2_sli | exact u1_sli | exact u2_s0 | exact u1_s0))); all_goals (first | (intro i1 hi1; cbv) | (assumption))))
  (first | (apply E_pcallX hE (c_r11PartG na a nb b ab bb la2 lb2); (case hm => rfl); (case hle => (repeat' (first | exact u_nil | apply u_cons | apply u2_agg | exact u2_int | exact u1_int | exact u2_bool | exact u1_bool | exact u2_sli | exact u1_sli | exact u2_s0 | exact u1_s0))); all_goals (first | (intro i2 hi2; cbv) | (assumption))) | (apply E_callX hE (c_r11PartG na a nb b ab bb la2 lb2); (case hf => rfl); (case hc => (cbv <;> trivial)); (case hle => (repeat' (first | exact u_nil | apply u_cons | apply u2_agg | exact u2_int | exact u1_int | exact u2_bool | exact u1_bool | exact u2_sli | exact u1_sli | exact u2_s0 | exact u1_s0))); all_goals (first | (intro i2 hi2; cbv) | (assumption))))
  have e : i1 = i2 := by
    have k1 : i1 = _ := hi1
    have k2 : i2 = _ := hi2
    rw [k1, k2]
  exact (ivEq_of hE i1 i2).trans (decide_eq_true e)

end Go.Proofs.YtpadpcjdakfokaaGreatDoor.Ev

/- What an argument that reads as data stands for: numbers and intervals. -/
namespace Go.Proofs.YtpadpcjdakfokaaGreatDoor.Ev
open Go Go.ChangeShapes Go.WideShapes Go.RowKit
set_option linter.unusedVariables false
set_option maxRecDepth 100000

section
variable {H : Type} {enc : TypeId × Value → H} {w : World} {base : Nat} {spare : Nat → Bool} {held : Bool}

theorem wf_u64 {n : Int} (h : (Lit.int .u64 n).wf = true) : 0 ≤ n ∧ n < 18446744073709551616 := by
  simp only [Lit.wf, IntKind.min, IntKind.max, IntKind.signed, IntKind.bits, Bool.and_eq_true] at h
  have := h.1; have := h.2
  simp at *
  omega
theorem wf_i64 {n : Int} (h : (Lit.int .i64 n).wf = true) : -9223372036854775808 ≤ n ∧ n < 9223372036854775808 := by
  simp only [Lit.wf, IntKind.min, IntKind.max, IntKind.signed, IntKind.bits, Bool.and_eq_true] at h
  have := h.1; have := h.2
  simp at *
  omega

/-- a number's fields are of their words -/
def Num.wf (n : Num) : Prop := n.ok ∧ (-9223372036854775808 ≤ n.e ∧ n.e < 9223372036854775808) ∧ (-9223372036854775808 ≤ n.kind ∧ n.kind < 9223372036854775808)
def Num.vals (n : Num) : List Value := [.int .i64 n.kind, .bool n.neg, .int .u64 n.m, .int .i64 n.e]

theorem read_num {fuel : Nat} {cs : List Value} {x : DataW H × List MemPlace} (h : DataW.trod enc Tryz.prog w base spare held fuel 24 cs = some x) : ∃ n : Num, cs = n.vals ∧ n.wf := by
  obtain ⟨xs, m, rfl, _, hl, hxs, hf⟩ := DataW.trod_struct Tryz.underlying24 h
  rw [show Tryz.prog.cellsOf 24 = 4 by kernel_rfl] at hl
  obtain ⟨c0, c1, c2, c3, rfl⟩ : ∃ a b c d, cs = [a, b, c, d] := by
    rcases cs with _ | ⟨a, _ | ⟨b, _ | ⟨c, _ | ⟨d, _ | ⟨e, r⟩⟩⟩⟩⟩ <;> simp at hl
    exact ⟨a, b, c, d, rfl⟩
  have get : ∀ i, i < 4 → ∃ y, xs[i]? = some y := fun i hi => ⟨_, List.getElem?_eq_getElem (by rw [hxs]; exact hi)⟩
  obtain ⟨y0, e0⟩ := get 0 (by omega)
  obtain ⟨y1, e1⟩ := get 1 (by omega)
  obtain ⟨y2, e2⟩ := get 2 (by omega)
  obtain ⟨y3, e3⟩ := get 3 (by omega)
  have z3 : Tryz.prog.cellsOf 3 = 1 := by kernel_rfl
  have z4 : Tryz.prog.cellsOf 4 = 1 := by kernel_rfl
  have z22 : Tryz.prog.cellsOf 22 = 1 := by kernel_rfl
  have h0 : DataW.trod enc Tryz.prog w base spare held m 3 (([c0, c1, c2, c3].drop 0).take (Tryz.prog.cellsOf 3)) = some y0 := (hf 0 _ rfl).trans e0
  have h1 : DataW.trod enc Tryz.prog w base spare held m 4 (([c0, c1, c2, c3].drop 1).take (Tryz.prog.cellsOf 4)) = some y1 := (hf 1 _ rfl).trans e1
  have h2 : DataW.trod enc Tryz.prog w base spare held m 22 (([c0, c1, c2, c3].drop 2).take (Tryz.prog.cellsOf 22)) = some y2 := (hf 2 _ rfl).trans e2
  have h3 : DataW.trod enc Tryz.prog w base spare held m 3 (([c0, c1, c2, c3].drop 3).take (Tryz.prog.cellsOf 3)) = some y3 := (hf 3 _ rfl).trans e3
  rw [z3] at h0 h3
  rw [z4] at h1
  rw [z22] at h2
  obtain ⟨n0, q0, _, w0⟩ := DataW.trod_int Tryz.underlying3 h0
  obtain ⟨n1, q1, _⟩ := DataW.trod_bool Tryz.underlying4 h1
  obtain ⟨n2, q2, _, w2⟩ := DataW.trod_int Tryz.underlying22 h2
  obtain ⟨n3, q3, _, w3⟩ := DataW.trod_int Tryz.underlying3 h3
  refine ⟨⟨n0, n1, n2, n3⟩, ?_, wf_u64 w2, wf_i64 w3, wf_i64 w0⟩
  obtain ⟨rfl⟩ : c0 = _ := (List.cons.inj q0).1
  obtain ⟨rfl⟩ : c1 = _ := (List.cons.inj q1).1
  obtain ⟨rfl⟩ : c2 = _ := (List.cons.inj q2).1
  obtain ⟨rfl⟩ : c3 = _ := (List.cons.inj q3).1
  rfl

def Iv.vals (x : Iv) : List Value := .bool x.empty :: (x.lo.vals ++ x.hi.vals)

theorem ro_num (O : Nat → Prop) (w : World) (n : Num) (ys : Array Value) (h : ys.toList = n.vals) : RoV O w n.av (.agg ys) := by
  obtain ⟨l⟩ := ys
  dsimp only at h
  subst h
  refine .agg _ _ rfl (fun j c hj => ?_)
  match j, hj with
  | 0, hj => simp at hj; subst hj; exact .int _ _ _ rfl
  | 1, hj => simp at hj; subst hj; exact .bool _ _ rfl
  | 2, hj => simp at hj; subst hj; exact .int _ _ _ rfl
  | 3, hj => simp at hj; subst hj; exact .int _ _ _ rfl
  | j + 4, hj => simp at hj

theorem arg_num {r : Reach} {b0 : Nat} {v : Value} {d : DataW H} {ps : List MemPlace} (hval : Value.okWide Tryz.prog w r b0 24 v) (hd : DataW.Trod enc Tryz.prog w base spare held 24 v d ps) :
    ∃ n : Num, n.wf ∧ ∀ O w', RoV O w' n.av v := by
  obtain ⟨cs, rfl, _⟩ := okWide_struct Tryz.underlying24 hval
  obtain ⟨fuel, hf⟩ := hd
  obtain ⟨n, e, hw⟩ := read_num hf
  exact ⟨n, hw, fun O w' => ro_num O w' n cs e⟩
end
end Go.Proofs.YtpadpcjdakfokaaGreatDoor.Ev

/- What an argument that is a row of intervals stands for. -/
namespace Go.Proofs.YtpadpcjdakfokaaGreatDoor.Ev
open Go Go.ChangeShapes Go.WideShapes Go.RowKit
set_option linter.unusedVariables false
set_option maxRecDepth 100000

theorem mapM_get {α : Type} {f : Nat → Option α} : ∀ (l : List Nat) (cs : List α), l.mapM f = some cs → cs.length = l.length ∧ ∀ (j i : Nat), l[j]? = some i → ∃ v, f i = some v ∧ cs[j]? = some v
  | [], cs, h => by
    simp at h
    subst h
    exact ⟨rfl, fun j i hj => by simp at hj⟩
  | x :: r, cs, h => by
    simp only [List.mapM_cons] at h
    cases hx : f x with
    | none => rw [hx] at h; simp at h
    | some v =>
      cases hr : r.mapM f with
      | none => rw [hx, hr] at h; simp at h
      | some vs =>
        rw [hx, hr] at h
        simp at h
        subst h
        obtain ⟨e1, e2⟩ := mapM_get r vs hr
        refine ⟨by simp [e1], fun j i hj => ?_⟩
        cases j with
        | zero => simp at hj; subst hj; exact ⟨v, hx, by simp⟩
        | succ j => simpa using e2 j i (by simpa using hj)
theorem cells_get {w : World} {base : Nat} {a : Addr} {n : Nat} {cs : List Value} (h : w.cells? base a n = some cs) : ∀ (j : Nat) (v : Value), cs[j]? = some v → w.cell? (a.add j) = some v := by
  unfold World.cells? at h
  split at h
  · obtain ⟨e1, e2⟩ := mapM_get _ _ h
    intro j v hj
    have hlt : j < n := by
      have := (List.getElem?_eq_some_iff.1 hj).1
      simpa [e1] using this
    obtain ⟨u, hu, hu2⟩ := e2 j j (by simp [hlt])
    rw [hj] at hu2
    rw [Option.some.inj hu2]; exact hu
  · cases h

section
variable {H : Type} {enc : TypeId × Value → H} {w : World} {base : Nat} {spare : Nat → Bool} {held : Bool}
end
end Go.Proofs.YtpadpcjdakfokaaGreatDoor.Ev

/- What an argument that is a whole number or a decimal number stands for. -/
namespace Go.Proofs.YtpadpcjdakfokaaGreatDoor.Ev
open Go Go.ChangeShapes Go.WideShapes Go.RowKit
set_option linter.unusedVariables false
set_option maxRecDepth 100000

section
variable {H : Type} {enc : TypeId × Value → H} {w : World} {base : Nat} {spare : Nat → Bool} {held : Bool}
theorem wf_u32 {n : Int} (h : (Lit.int .u32 n).wf = true) : 0 ≤ n ∧ n < 4294967296 := by
  simp only [Lit.wf, IntKind.min, IntKind.max, IntKind.signed, IntKind.bits, Bool.and_eq_true] at h
  have := h.1; have := h.2
  simp at *
  omega
theorem read_limbs {fuel : Nat} {cs : List Value} {x : DataW H × List MemPlace} (h : DataW.trod enc Tryz.prog w base spare held fuel 25 cs = some x) :
    ∃ (l : List Int) (A : Option Addr) (cap : Nat), cs = [.slice A l.length cap] ∧ Lb l ∧ l.length < 9223372036854775808 ∧ RoV (fun k => k < w.heap.size) w (.sli .u32 l) (.slice A l.length cap) := by
  rcases DataW.trod_slice Tryz.underlying25 h with ⟨hcs, _⟩ | ⟨a, len, cap, elems, rest, n, _, hcs, _, _, hl, hm, hlen, hel, _⟩
  · exact ⟨[], none, 0, hcs, Lb.nil, by decide, RoV.sliN _ _ _⟩
  · rcases Nat.eq_zero_or_pos len with h0 | h0
    · subst h0
      exact ⟨[], some a, cap, hcs, Lb.nil, by decide, RoV.sliN _ _ _⟩
    rw [show Tryz.prog.cellsOf 93 = 1 by kernel_rfl] at hel
    have key : ∀ i, i < len → ∃ x : Int, (0 ≤ x ∧ x < 4294967296) ∧ w.cells? base (a.add (i * 1)) 1 = some [.int .u32 x] := by
      intro i hi
      have h := hel i hi
      have hi' : i < elems.length := by omega
      rw [List.getElem?_eq_getElem hi', Option.bind_eq_some_iff] at h
      obtain ⟨cs, h1, h2⟩ := h
      obtain ⟨x, q, _, hw⟩ := DataW.trod_int Tryz.underlying93 h2
      exact ⟨x, wf_u32 hw, by rw [h1, q]⟩
    let g : Nat → Int := fun i => if h : i < len then Classical.choose (key i h) else 0
    have hg : ∀ i, i < len → (0 ≤ g i ∧ g i < 4294967296) ∧ w.cells? base (a.add (i * 1)) 1 = some [.int .u32 (g i)] := by
      intro i h
      show (0 ≤ (dite (i < len) _ _ : Int) ∧ (dite (i < len) _ _ : Int) < 4294967296) ∧ w.cells? base (a.add (i * 1)) 1 = some [.int .u32 (dite (i < len) _ _ : Int)]
      rw [dif_pos h]
      exact Classical.choose_spec (key i h)
    have c0 := (hg 0 h0).2
    have blk : a.block < w.heap.size := World.cells?_block c0 (by decide)
    have sp : a.spot = none := World.cell?_spot (cells_get c0 0 (.int .u32 (g 0)) rfl)
    have len1 : ((List.range len).map g).length = len := by simp
    refine ⟨(List.range len).map g, some a, cap, by rw [len1]; exact hcs, ?_, ?_, ?_⟩
    · intro x hx
      obtain ⟨i, hi, rfl⟩ := List.mem_map.1 hx
      exact (hg i (List.mem_range.1 hi)).1
    · rw [len1]
      have : cap ≤ maxLen := hm
      have e : maxLen < 9223372036854775808 := by decide
      omega
    · refine RoV.sli _ _ a cap sp blk (by rw [len1]; exact hl) (fun i n hi => ?_)
      obtain ⟨hi1, hi2⟩ := List.getElem?_eq_some_iff.1 hi
      have hi3 : i < len := by rw [len1] at hi1; exact hi1
      have en : n = g i := by rw [← hi2]; simp
      have cc := cells_get (hg i hi3).2 0 (.int .u32 (g i)) rfl
      have ea : (a.add (i * 1)).add 0 = ⟨a.block, a.off + i, none⟩ := by
        have e0 : a = ⟨a.block, a.off, none⟩ := by
          obtain ⟨x, y, z⟩ := a
          have sp' : z = none := sp
          rw [sp']
        rw [e0]
        unfold Addr.add
        by_cases h1 : i = 0 <;> simp [h1]
      rw [ea] at cc
      rw [en]; exact cc
theorem read_whole {fuel : Nat} {cs : List Value} {x : DataW H × List MemPlace} (h : DataW.trod enc Tryz.prog w base spare held fuel 27 cs = some x) :
    ∃ (b : Bool) (l : List Int) (A : Option Addr) (cap : Nat), cs = [.bool b, .slice A l.length cap] ∧ Lb l ∧ l.length < 9223372036854775808 ∧ RoV (fun k => k < w.heap.size) w (.sli .u32 l) (.slice A l.length cap) := by
  obtain ⟨xs, m, rfl, _, hl, hxs, hf⟩ := DataW.trod_struct Tryz.underlying27 h
  rw [show Tryz.prog.cellsOf 27 = 2 by kernel_rfl] at hl
  obtain ⟨c0, c1, rfl⟩ : ∃ a b, cs = [a, b] := by
    rcases cs with _ | ⟨a, _ | ⟨b, _ | ⟨c, r⟩⟩⟩ <;> simp at hl
    exact ⟨a, b, rfl⟩
  have get : ∀ i, i < 2 → ∃ y, xs[i]? = some y := fun i hi => ⟨_, List.getElem?_eq_getElem (by rw [hxs]; exact hi)⟩
  obtain ⟨y0, e0⟩ := get 0 (by omega)
  obtain ⟨y1, e1⟩ := get 1 (by omega)
  have z4 : Tryz.prog.cellsOf 4 = 1 := by kernel_rfl
  have z5 : Tryz.prog.cellsOf 25 = 1 := by kernel_rfl
  have h0 : DataW.trod enc Tryz.prog w base spare held m 4 (([c0, c1].drop 0).take (Tryz.prog.cellsOf 4)) = some y0 := (hf 0 _ rfl).trans e0
  have h1 : DataW.trod enc Tryz.prog w base spare held m 25 (([c0, c1].drop 1).take (Tryz.prog.cellsOf 25)) = some y1 := (hf 1 _ rfl).trans e1
  rw [z4] at h0
  rw [z5] at h1
  obtain ⟨b, q0, _⟩ := DataW.trod_bool Tryz.underlying4 h0
  obtain ⟨l, A, cap, q1, r1, r2, r3⟩ := read_limbs h1
  refine ⟨b, l, A, cap, ?_, r1, r2, r3⟩
  obtain ⟨rfl⟩ : c0 = _ := (List.cons.inj q0).1
  obtain ⟨rfl⟩ : c1 = _ := (List.cons.inj q1).1
  rfl
theorem arg_whole {r : Reach} {b0 : Nat} {v : Value} {d : DataW H} {ps : List MemPlace} (hval : Value.okWide Tryz.prog w r b0 27 v) (hd : DataW.Trod enc Tryz.prog w base spare held 27 v d ps) :
    ∃ (b : Bool) (l : List Int), Lb l ∧ l.length < 9223372036854775808 ∧ RoV (fun k => k < w.heap.size) w (.agg [.bool (.s b), .sli .u32 l]) v := by
  obtain ⟨cs, rfl, _⟩ := okWide_struct Tryz.underlying27 hval
  obtain ⟨fuel, hf⟩ := hd
  obtain ⟨b, l, A, cap, e, r1, r2, r3⟩ := read_whole hf
  refine ⟨b, l, r1, r2, ?_⟩
  obtain ⟨ys⟩ := cs
  have e : ys = _ := e
  subst e
  refine .agg _ _ rfl (fun j c hj => ?_)
  match j, hj with
  | 0, hj => simp at hj; subst hj; exact .bool _ _ rfl
  | 1, hj => simp at hj; subst hj; exact r3
  | j + 2, hj => simp at hj
end
end Go.Proofs.YtpadpcjdakfokaaGreatDoor.Ev
