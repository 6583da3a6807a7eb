/- Texts of the proof, joined: R15 R16 R17 Br6 R18 R19 Br11 R23 Br7 R24 S6 Rd -/
import Derived.Test.YtaiillbjhdoikaaB6
import Derived.ChangeArms
import Derived.ProofKit
import Derived.RowKit
import Derived.Carry
set_option linter.unusedVariables false
set_option linter.unusedSimpArgs false

/- Contract of the reference: rounding. Printed by gen.py. -/
namespace Go.Proofs.Ytaiillbjhdoikaa.Ev
open Go Go.Proofs
set_option linter.unusedVariables false
set_option linter.unusedSimpArgs false

attribute [local irreducible] Lb
theorem c_rRound (neg : Bool) (m : List Int) (e : Int) (up : Bool) (h : Lb m) (hl : m.length ≤ 62500) (he : -9223372036854775808 ≤ e ∧ e < 9223372036854775808) :
    ∃ t : Num, t = rnd (dyMake neg (lv m) e).1 (dyMake neg (lv m) e).2.1 (dyMake neg (lv m) e).2.2 up ∧
    CallsA Try.prog 63 [.agg [.bool (.s neg), .sli .u32 m, .int .i64 (.s e)], .bool (.s up)] t.av := by
  refine ⟨_, rfl, ?_⟩
  have rg := dyMake_rng neg (lv m) e
  have dl := fun k (hk : k ≤ lv m) => lim_len_of h hk
  generalize ed : dyMake neg (lv m) e = d at *
  generalize hr : rnd d.1 d.2.1 d.2.2 up = r
  obtain ⟨ng, k, e1⟩ := d
  dsimp only at rg hr
  have rg1 := rg.1
  have rg2 := rg.2.1
  have hk := dl k rg.2.2
  have lbk := lim_lb k
  have vk := lv_lim k
  have kb := lv_blen lbk
  rw [vk] at kb
  have kb0 := blen_nonneg (k : Int)
  have few := fun (h0 : 0 < k) => rnd_few h0
  have many := fun (h0 : 0 < k) => rnd_many h0
  have zer : k = 0 → r = Num.zero := by intro z; rw [← hr]; unfold rnd; rw [if_pos z]
  have lo : k ≠ 0 → blen (k : Int) ≤ 64 → r = Num.bound ng ((k * 2 ^ (64 - blen (k : Int)).toNat : Nat) : Int) (e1 + blen (k : Int) - 64) (up != ng) := by
    intro z y; rw [← hr]; unfold rnd; rw [if_neg z, if_pos y]
  have hi : k ≠ 0 → ¬ blen (k : Int) ≤ 64 → r = Num.grow ng ((k / 2 ^ (blen (k : Int) - 64).toNat : Nat) : Int) (e1 + blen (k : Int) - 64) true (up != ng) := by
    intro z y; rw [← hr]; unfold rnd; rw [if_neg z, if_neg y]
  have bw : blen (k : Int) ≤ 2000000 := by
    have q : ((lim k).length : Int) ≤ 62500 := by omega
    omega
  have F1 : IntKind.i64.wrap (IntKind.i64.wrap (e1 + blen (k : Int)) - 64) = e1 + blen (k : Int) - 64 := by rw [wi64, wi64]; omega
  have F2 : IntKind.i64.wrap (64 - blen (k : Int)) = 64 - blen (k : Int) := by rw [wi64]; omega
  have F3 : IntKind.i64.wrap (blen (k : Int) - 64) = blen (k : Int) - 64 := by rw [wi64]; omega
  have F4 : IntKind.i64.wrap (e1 + blen (k : Int) - 64 + 1) = e1 + blen (k : Int) - 64 + 1 := by rw [wi64]; omega
  have F5 : blen (k : Int) - 64 < 9223372036854775807 := by omega
  have l1 : Lb [(1 : Int)] := Lb.cons (by decide) (by decide) Lb.nil
  have Tp : ∀ s, 64 < blen (k : Int) → k / 2 ^ (blen (k : Int) - 64).toNat < 18446744073709551616 → s = (if blen (k : Int) - 64 < 1 then lim k else lim (k / 2 ^ (blen (k : Int) - 64).toNat)) → Lb s ∧ s.length ≤ 2 ∧ lv s = k / 2 ^ (blen (k : Int) - 64).toNat := by
    intro s b kk hs
    rw [if_neg (by omega)] at hs
    rw [hs]
    exact ⟨lim_lb _, len_two kk, lv_lim _⟩
  have Up : ∀ u, k / 2 ^ (blen (k : Int) - 64).toNat < 18446744073709551616 → u = lim (k / 2 ^ (blen (k : Int) - 64).toNat + lv [(1 : Int)]) → Lb u ∧ u.length ≤ 3 ∧ lv u = k / 2 ^ (blen (k : Int) - 64).toNat + 1 := by
    intro u kk hu
    rw [hu]
    refine ⟨lim_lb _, lim_length_le ?_, lv_lim _⟩
    show k / 2 ^ (blen (k : Int) - 64).toNat + 1 < 4294967296 ^ 3
    omega
  have Gr : 64 < blen (k : Int) → r = Num.grow ng ((k / 2 ^ (blen (k : Int) - 64).toNat : Nat) : Int) (e1 + blen (k : Int) - 64) true (up != ng) → (9223372036854775808 ≤ k / 2 ^ (blen (k : Int) - 64).toNat ∧ k / 2 ^ (blen (k : Int) - 64).toNat < 18446744073709551616) →
      ((up != ng) = true → (64 < blen ((k / 2 ^ (blen (k : Int) - 64).toNat + 1 : Nat) : Int) → r = Num.bound ng ((9223372036854775808 : Nat) : Int) (e1 + blen (k : Int) - 64 + 1) true ∧ (k / 2 ^ (blen (k : Int) - 64).toNat + 1) / 2 ^ (1 : Int).toNat = 9223372036854775808) ∧
        (¬ 64 < blen ((k / 2 ^ (blen (k : Int) - 64).toNat + 1 : Nat) : Int) → r = Num.bound ng ((k / 2 ^ (blen (k : Int) - 64).toNat + 1 : Nat) : Int) (e1 + blen (k : Int) - 64) true ∧ k / 2 ^ (blen (k : Int) - 64).toNat + 1 < 18446744073709551616)) ∧
      ((up != ng) = false → r = Num.bound ng ((k / 2 ^ (blen (k : Int) - 64).toNat : Nat) : Int) (e1 + blen (k : Int) - 64) false) := by
    intro b hr m
    generalize k / 2 ^ (blen (k : Int) - 64).toNat = v at *
    have tm := top_more m.1 m.2
    refine ⟨fun a => ⟨fun c => ?_, fun c => ?_⟩, fun a => ?_⟩
    · have e := tm.1.1 c
      refine ⟨?_, tm.2 e⟩
      rw [hr, a]
      unfold Num.grow
      rw [if_pos (show (true && true) = true from rfl), if_pos (by rw [e]; decide), F4]
      rfl
    · have e : v ≠ 18446744073709551615 := fun z => c (tm.1.2 z)
      refine ⟨?_, by omega⟩
      rw [hr, a]
      unfold Num.grow
      have w : IntKind.u64.wrap ((v : Int) + 1) = ((v + 1 : Nat) : Int) := by rw [wu64]; omega
      rw [if_pos (show (true && true) = true from rfl), w, if_neg (by omega)]
    · rw [hr, a]
      unfold Num.grow
      rw [if_neg (by decide)]
  have Sh : ∀ s, blen (k : Int) ≤ 64 → k * 2 ^ (64 - blen (k : Int)).toNat < 18446744073709551616 → s = (if 64 - blen (k : Int) < 1 then lim k else if 16777216 < 64 - blen (k : Int) then [] else lim (k * 2 ^ (64 - blen (k : Int)).toNat)) →
      Lb s ∧ s.length ≤ 2 ∧ lv s = k * 2 ^ (64 - blen (k : Int)).toNat := by
    intro s b kk hs
    have e : s = lim (k * 2 ^ (64 - blen (k : Int)).toNat) := by
      rw [hs]
      split
      · rw [show (64 - blen (k : Int)).toNat = 0 by omega]; simp
      · rw [if_neg (by omega)]
    rw [e]
    exact ⟨lim_lb _, len_two kk, lv_lim _⟩
  refine callsA_of hG hm Try.func63 (by kernel_rfl) ?_
  intro E hE lp hl'
  cbv
  (apply E_callX hE (k_r3Make _ _ _ h ?_ he); (case hf => rfl); (case hc => (cbv <;> trivial)); (case hle => exact u_up); all_goals (first | (intro x hx; cbv) | (exact Nat.le_trans hl (by decide))))
  have X : x = (ng, lim k, e1) := by rw [hx]; show dyL (dyMake neg (lv m) e) = _; rw [ed]; rfl
  have x1 : x.1 = ng := by rw [X]
  have x2 : x.2.1 = lim k := by rw [X]
  have x3 : x.2.2 = e1 := by rw [X]
  clear X hx
  refine E_br hE (fun g1 => ?_) (fun g1 => ?_) <;> cbv
  · have z : k = 0 := by
      subst hE
      have q : (x.2.1.length : Int) = 0 := eql_t g1
      rw [x2] at q
      exact lim_eq_nil.1 (List.length_eq_zero_iff.1 (by omega))
    rw [zer z]; exact ⟨rfl, rfl, rfl, rfl, trivial⟩
  have kz : k ≠ 0 := by
    intro z
    subst hE
    have q : ¬ (x.2.1.length : Int) = 0 := eql_f g1
    rw [x2, z] at q
    exact q rfl
  have few := few (by omega)
  have many := many (by omega)
  have lo := lo kz
  have hi := hi kz
  have xl : Lb x.2.1 ∧ x.2.1.length ≤ 62500 := by rw [x2]; exact ⟨lbk, Nat.le_trans hk hl⟩
  (apply E_callX hE (c_rLen _ xl.1 ?_); (case hf => rfl); (case hc => (cbv <;> trivial)); (case hle => exact u_up); all_goals (first | (intro nn hn; cbv) | (exact Nat.le_trans xl.2 (by decide))))
  refine E_nm hE (fun n hn' => ?_)
  cbv
  have nB : n = blen (k : Int) := by
    have q : nn = blen (lv x.2.1 : Int) := hn
    rw [x2, vk] at q
    subst hE; exact Eq.trans (b := nn) hn' q
  have ea : E.bnot (E.beq up x.1) = (up != ng) := by rw [x1]; subst hE; rfl
  have ee : E.bin .sub .i64 (E.bin .add .i64 x.2.2 n) 64 = e1 + blen (k : Int) - 64 := by
    rw [x3, nB]; subst hE
    exact F1
  refine E_br hE (fun g2 => ?_) (fun g2 => ?_) <;> cbv
  · have b64 : blen (k : Int) ≤ 64 := by rw [← nB]; subst hE; exact leq_t g2
    have en : E.bin .sub .i64 64 n = 64 - blen (k : Int) := by rw [nB]; subst hE; exact F2
    have kk := few b64
    (apply E_pcallX hE (c_rShl _ _ xl.1 ?_); (case hm => rfl); (case hle => exact u_up); all_goals (first | (intro s hs; cbv) | (exact Nat.lt_of_le_of_lt xl.2 (by decide))))
    have S : Lb s ∧ s.length ≤ 2 ∧ lv s = k * 2 ^ (64 - blen (k : Int)).toNat := by
      have q : s = (if E.bin .sub .i64 64 n < 1 then lim (lv x.2.1) else if 16777216 < E.bin .sub .i64 64 n then [] else lim (lv x.2.1 * 2 ^ (E.bin .sub .i64 64 n).toNat)) := hs
      rw [en, x2, vk] at q
      exact Sh s b64 kk q
    (apply E_pcallX hE (c_rWord _ S.1 S.2.1); (case hm => rfl); (case hle => exact u_up); all_goals (first | (intro w hw; cbv) | (assumption)))
    (apply E_pcallX hE (c_rFin _ _ _ _); (case hm => rfl); (case hle => exact u_up); all_goals (first | (intro t ht; cbv) | (assumption)))
    have ht' : t = Num.bound x.1 w (E.bin .sub .i64 (E.bin .add .i64 x.2.2 n) 64) (E.bnot (E.beq up x.1)) := ht
    rw [ee, ea, x1, show w = (lv s : Int) from hw, S.2.2, ← lo b64] at ht'
    rw [ht']; exact ⟨rfl, rfl, rfl, rfl, trivial⟩
  · have b64 : ¬ blen (k : Int) ≤ 64 := by rw [← nB]; subst hE; exact leq_f g2
    have en : E.bin .sub .i64 n 64 = blen (k : Int) - 64 := by rw [nB]; subst hE; exact F3
    have M := many (Int.not_le.1 b64)
    (apply E_callX hE (c_rShr _ _ xl.1 ?_ ?_); (case hf => rfl); (case hc => (cbv <;> trivial)); (case hle => exact u_up); all_goals (first | (intro s hs; cbv) | (first | exact Nat.lt_of_le_of_lt xl.2 (by decide) | (show E.bin .sub .i64 n 64 < 9223372036854775807; rw [en]; exact F5))))
    have T : Lb s ∧ s.length ≤ 2 ∧ lv s = k / 2 ^ (blen (k : Int) - 64).toNat := by
      have q : s = (if E.bin .sub .i64 n 64 < 1 then lim (lv x.2.1) else lim (lv x.2.1 / 2 ^ (E.bin .sub .i64 n 64).toNat)) := hs
      rw [en, x2, vk] at q
      exact Tp s (Int.not_le.1 b64) M.2 q
    have G := Gr (Int.not_le.1 b64) (hi b64) M
    refine E_nm hE (fun e2 he2 => ?_)
    cbv
    have ee2 : e2 = e1 + blen (k : Int) - 64 := Eq.trans (b := E.bin .sub .i64 (E.bin .add .i64 x.2.2 n) 64) he2 ee
    have es : E.sub [1] 0 1 = [1] := by subst hE; rfl
    refine E_br hE (fun g3 => ?_) (fun g3 => ?_) <;> cbv
    · have a1 : (up != ng) = true := ea.symm.trans g3
      (apply E_callX hE (c_rAdd _ _ T.1 ?_ ?_ ?_); (case hf => rfl); (case hc => (cbv <;> trivial)); (case hle => exact u_up); all_goals (first | (intro u hu; cbv) | (first | exact Nat.lt_of_le_of_lt T.2.1 (by decide) | (show Lb (E.sub [1] 0 1); rw [es]; exact l1) | (show (E.sub [1] 0 1).length < 268435456; rw [es]; show (1 : Nat) < 268435456; decide))))
      have U : Lb u ∧ u.length ≤ 3 ∧ lv u = k / 2 ^ (blen (k : Int) - 64).toNat + 1 := by
        have q : u = lim (lv s + lv (E.sub [1] 0 1)) := hu
        rw [es, T.2.2] at q
        exact Up u M.2 q
      (apply E_callX hE (c_rLen _ U.1 ?_); (case hf => rfl); (case hc => (cbv <;> trivial)); (case hle => exact u_up); all_goals (first | (intro n2 hn2; cbv) | (exact Nat.le_trans U.2.1 (by decide))))
      have n2e : n2 = blen ((k / 2 ^ (blen (k : Int) - 64).toNat + 1 : Nat) : Int) := by rw [← U.2.2]; exact hn2
      refine E_br hE (fun g4 => ?_) (fun g4 => ?_) <;> cbv
      · have c : 64 < blen ((k / 2 ^ (blen (k : Int) - 64).toNat + 1 : Nat) : Int) := by rw [← n2e]; subst hE; exact gtr_t g4
        have GG := (G.1 a1).1 c
        (apply E_callX hE (c_rShr _ 1 U.1 ?_ ?_); (case hf => rfl); (case hc => (cbv <;> trivial)); (case hle => exact u_up); all_goals (first | (intro y hy; cbv) | (first | exact Nat.lt_of_le_of_lt U.2.1 (by decide) | (show (1 : Int) < 9223372036854775807; decide))))
        have Y : Lb y ∧ y.length ≤ 2 ∧ lv y = 9223372036854775808 := by
          have q : y = (if (1 : Int) < 1 then lim (lv u) else lim (lv u / 2 ^ (1 : Int).toNat)) := hy
          rw [if_neg (by decide), U.2.2, GG.2] at q
          rw [q]; exact ⟨lim_lb _, len_two (by decide), lv_lim _⟩
        refine E_nm hE (fun e3 he3 => ?_)
        cbv
        have ee3 : e3 = e1 + blen (k : Int) - 64 + 1 := by subst hE; rw [← F4, ← ee2]; exact he3
        (apply E_pcallX hE (c_rWord _ Y.1 Y.2.1); (case hm => rfl); (case hle => exact u_up); all_goals (first | (intro w hw; cbv) | (assumption)))
        (apply E_pcallX hE (c_rFin _ _ _ _); (case hm => rfl); (case hle => exact u_up); all_goals (first | (intro t ht; cbv) | (assumption)))
        have ht' : t = Num.bound x.1 w e3 (E.bnot (E.beq up x.1)) := ht
        rw [ee3, ea, x1, show w = (lv y : Int) from hw, Y.2.2, a1] at ht'
        have e : t = r := ht'.trans GG.1.symm
        rw [e]; exact ⟨rfl, rfl, rfl, rfl, trivial⟩
      · have c : ¬ 64 < blen ((k / 2 ^ (blen (k : Int) - 64).toNat + 1 : Nat) : Int) := by rw [← n2e]; subst hE; exact gtr_f g4
        have GG := (G.1 a1).2 c
        have UL : k / 2 ^ (blen (k : Int) - 64).toNat + 1 < 18446744073709551616 → u.length ≤ 2 := fun z => by have q : u = lim (lv s + lv (E.sub [1] 0 1)) := hu; rw [es, T.2.2] at q; rw [q]; exact len_two z
        (apply E_pcallX hE (c_rWord _ U.1 ?_); (case hm => rfl); (case hle => exact u_up); all_goals (first | (intro w hw; cbv) | (exact UL GG.2)))
        (apply E_pcallX hE (c_rFin _ _ _ _); (case hm => rfl); (case hle => exact u_up); all_goals (first | (intro t ht; cbv) | (assumption)))
        have ht' : t = Num.bound x.1 w e2 (E.bnot (E.beq up x.1)) := ht
        rw [ee2, ea, x1, show w = (lv u : Int) from hw, U.2.2, a1] at ht'
        have e : t = r := ht'.trans GG.1.symm
        rw [e]; exact ⟨rfl, rfl, rfl, rfl, trivial⟩
    · have a1 : (up != ng) = false := ea.symm.trans g3
      have GG := G.2 a1
      (apply E_pcallX hE (c_rWord _ T.1 T.2.1); (case hm => rfl); (case hle => exact u_up); all_goals (first | (intro w hw; cbv) | (assumption)))
      (apply E_pcallX hE (c_rFin _ _ _ _); (case hm => rfl); (case hle => exact u_up); all_goals (first | (intro t ht; cbv) | (assumption)))
      have ht' : t = Num.bound x.1 w e2 (E.bnot (E.beq up x.1)) := ht
      rw [ee2, ea, x1, show w = (lv s : Int) from hw, T.2.2, a1] at ht'
      have e : t = r := ht'.trans GG.symm
      rw [e]; exact ⟨rfl, rfl, rfl, rfl, trivial⟩

end Go.Proofs.Ytaiillbjhdoikaa.Ev

/- Contracts of the reference: products. Printed by gen.py. -/
namespace Go.Proofs.Ytaiillbjhdoikaa.Ev
open Go Go.Proofs
set_option linter.unusedVariables false
set_option linter.unusedSimpArgs false

attribute [local irreducible] Lb
end Go.Proofs.Ytaiillbjhdoikaa.Ev

/- Contracts of the reference: the product of two numbers. Printed by gen.py. -/
namespace Go.Proofs.Ytaiillbjhdoikaa.Ev
open Go Go.Proofs
set_option linter.unusedVariables false
set_option linter.unusedSimpArgs false

attribute [local irreducible] Lb
theorem k_rRound (p : Bool × Nat × Int) (up : Bool) (hp : (lim p.2.1).length ≤ 62500) (ep : -9223372036854775808 ≤ p.2.2 ∧ p.2.2 < 9223372036854775808) (x : Bool × List Int × Int) (hx : x = dyL p) : ∃ t : Num, t = dyRound p up ∧
    CallsA Try.prog 63 [.agg [.bool (.s x.1), .sli .u32 x.2.1, .int .i64 (.s x.2.2)], .bool (.s up)] t.av := by
  subst hx
  obtain ⟨t, ht, hC⟩ := c_rRound p.1 (lim p.2.1) p.2.2 up (lim_lb _) hp ep
  refine ⟨t, ?_, hC⟩
  rw [ht, lv_lim]; rfl
theorem exact_len {n : Num} (h : n.ok) : (lim n.exact.1.2.1).length ≤ 2 ∧ -9223372036854775808 ≤ n.exact.1.2.2 ∧ n.exact.1.2.2 < 9223372036854775808 := by
  unfold Num.exact
  split
  · exact ⟨by show (lim 0).length ≤ 2; decide, by show (-9223372036854775808 : Int) ≤ 0; decide, by show (0 : Int) < 9223372036854775808; decide⟩
  · split
    · exact ⟨by show (lim 0).length ≤ 2; decide, by show (-9223372036854775808 : Int) ≤ 0; decide, by show (0 : Int) < 9223372036854775808; decide⟩
    · have r := dyMake_rng n.neg n.m.toNat n.e
      have := h.1
      have := h.2
      exact ⟨len_two (by show (dyMake n.neg n.m.toNat n.e).2.1 < _; omega), by show -9223372036854775808 ≤ (dyMake n.neg n.m.toNat n.e).2.2; omega, by show (dyMake n.neg n.m.toNat n.e).2.2 < 9223372036854775808; omega⟩
end Go.Proofs.Ytaiillbjhdoikaa.Ev

/- The reference's quotients are the program's: plain Lean. -/
namespace Go.Proofs.Ytaiillbjhdoikaa.Ev
open Go

/-- rounded with a bit that is there alone to be cut off -/
theorem rnd_cut {ng : Bool} {k : Nat} {e : Int} (up : Bool) (hk : k % 2 = 1) (hb : 64 < blen (k : Int)) :
    ∃ s : Nat, 1 ≤ s ∧ blen (k : Int) = 64 + s ∧ rnd ng k e up = Num.grow ng ((k / 2 ^ s : Nat) : Int) (e + s) true (up != ng) ∧ 9223372036854775808 ≤ k / 2 ^ s ∧ k / 2 ^ s < 18446744073709551616 ∧
      2 ^ s * (k / 2 ^ s) + 1 ≤ k ∧ k + 1 ≤ 2 ^ s * (k / 2 ^ s) + 2 ^ s := by
  have k0 : 0 < k := by omega
  have f := rnd_many k0 hb
  obtain ⟨s, hs⟩ : ∃ s : Nat, (blen (k : Int) - 64).toNat = s := ⟨_, rfl⟩
  have es : blen (k : Int) = 64 + (s : Int) := by omega
  rw [hs] at f
  have p2 : 0 < 2 ^ s := Nat.pow_pos (by decide)
  have ev : 2 ^ s % 2 = 0 := by
    have : s = (s - 1) + 1 := by omega
    rw [this, Nat.pow_succ]; omega
  have dm := Nat.div_add_mod k (2 ^ s)
  have dl := Nat.mod_lt k p2
  have nz : k % 2 ^ s ≠ 0 := by
    intro z
    rw [z] at dm
    have : k % 2 = 0 := by rw [← dm, Nat.add_zero, Nat.mul_mod, ev]; simp
    omega
  refine ⟨s, by omega, es, ?_, f.1, f.2, by omega, by omega⟩
  unfold rnd
  rw [if_neg (by omega), if_neg (by omega), hs, show e + blen (k : Int) - 64 = e + s by omega]

/-- rounded, as a number grown -/
theorem rnd_form {ng : Bool} {k : Nat} {e : Int} (up : Bool) (hk : k % 2 = 1) (he : -4190000 ≤ e) :
    ∃ (m e' : Int) (cut : Bool), rnd ng k e up = Num.grow ng m e' cut (up != ng) ∧ 9223372036854775808 ≤ m ∧ m < 18446744073709551616 ∧ e' = e + blen (k : Int) - 64 ∧
      (if cut then m * pw e' < k * pw e else m * pw e' = k * pw e) ∧ k * pw e < (m + 1) * pw e' := by
  have k0 : 0 < k := by omega
  have p := pw_pos e
  rcases Int.lt_or_le 64 (blen (k : Int)) with b | b
  · obtain ⟨s, h1, h2, h3, h4, h5, h6, h7⟩ := rnd_cut (ng := ng) (e := e) up hk b
    refine ⟨_, _, _, h3, by omega, by omega, by omega, ?_, ?_⟩
    all_goals
      have e1 := pw_add (e := e) (f := s) (by omega) (by omega)
      rw [Int.toNat_natCast] at e1
      rw [e1]
    · rw [if_pos rfl]
      have a1 : (((k / 2 ^ s : Nat)) : Int) * (pw e * 2 ^ s) = ((2 ^ s * (k / 2 ^ s) : Nat) : Int) * pw e := by push_cast; grind
      rw [a1]
      exact Int.mul_lt_mul_of_pos_right (by omega) p
    · have a2 : (((k / 2 ^ s : Nat) : Int) + 1) * (pw e * 2 ^ s) = ((2 ^ s * (k / 2 ^ s) + 2 ^ s : Nat) : Int) * pw e := by push_cast; grind
      rw [a2]
      exact Int.mul_lt_mul_of_pos_right (by omega) p
  · obtain ⟨n, h1, h2, h3⟩ := blen_rng k0
    have f := rnd_few k0 b
    obtain ⟨s, hs⟩ : ∃ s : Nat, (64 - blen (k : Int)).toNat = s := ⟨_, rfl⟩
    have es : blen (k : Int) = 64 - (s : Int) := by omega
    have hsn : s + n = 63 := by omega
    rw [hs] at f
    have lo : 9223372036854775808 ≤ k * 2 ^ s := by
      have : 2 ^ n * 2 ^ s ≤ k * 2 ^ s := Nat.mul_le_mul_right _ h2
      rw [← Nat.pow_add, show n + s = 63 by omega] at this
      have : (2 : Nat) ^ 63 = 9223372036854775808 := by decide
      omega
    have e1 := pw_add (e := e - (s : Int)) (f := s) (by omega) (by omega)
    rw [show e - (s : Int) + s = e by omega, Int.toNat_natCast] at e1
    have a1 : (((k * 2 ^ s : Nat)) : Int) * pw (e - s) = k * pw e := by rw [e1]; push_cast; grind
    refine ⟨((k * 2 ^ s : Nat) : Int), e - s, false, ?_, by omega, by omega, by omega, ?_, ?_⟩
    · unfold rnd
      rw [if_neg (by omega), if_pos b, bound_grow, hs, show e + blen (k : Int) - 64 = e - s by omega]
    · rw [if_neg (by decide)]; exact a1
    · have q := pw_pos (e - (s : Int))
      have a2 : ((((k * 2 ^ s : Nat)) : Int) + 1) * pw (e - s) = (((k * 2 ^ s : Nat)) : Int) * pw (e - s) + pw (e - s) := by grind
      omega

/-- a quotient's bits, and whether something was cut off -/
def ratioM (ka kb : Nat) : Nat := 2 * (ka * 2 ^ (70 + blen (kb : Int)).toNat / kb) + (if ka * 2 ^ (70 + blen (kb : Int)).toNat % kb = 0 then 0 else 1)
def ratioP (na : Bool) (ka : Nat) (nb : Bool) (kb : Nat) (e : Int) (up : Bool) : Num :=
  if kb = 0 then Num.inf (!up) else dyRound (dyMake ((na != nb) && decide (ratioM ka kb ≠ 0)) (ratioM ka kb) (e - (70 + blen (kb : Int)) - 1)) up

/-- The quotient of whole numbers, times a power of two: t / c, the scales told. -/
theorem ratio_best {na nb : Bool} {ka kb : Nat} {e : Int} (up : Bool) (hka : 0 < ka) (hkb : 0 < kb) (la : blen (ka : Int) ≤ 300000) (lb : blen (kb : Int) ≤ 300000) (he : -2500000 ≤ e) (he' : e ≤ 2500000)
    {T c : Int} (hc : 0 < c) (hT : T * kb = ka * pw e * c) : Best (ratioP na ka nb kb e up) up (if (na != nb) then -T else T) c := by
  obtain ⟨B, hB⟩ : ∃ B : Nat, (70 + blen (kb : Int)).toNat = B := ⟨_, rfl⟩
  have b0 := blen_nonneg (kb : Int)
  have eB : 70 + blen (kb : Int) = B := by omega
  obtain ⟨nb', h1, h2, h3⟩ := blen_rng hkb
  obtain ⟨na', g1, g2, g3⟩ := blen_rng hka
  obtain ⟨N, hN⟩ : ∃ N, ka * 2 ^ B = N := ⟨_, rfl⟩
  have dm := Nat.div_add_mod N kb
  have dl := Nat.mod_lt N hkb
  obtain ⟨q, hq⟩ : ∃ q, N / kb = q := ⟨_, rfl⟩
  obtain ⟨r, hr⟩ : ∃ r, N % kb = r := ⟨_, rfl⟩
  have hM : ratioM ka kb = 2 * q + (if r = 0 then 0 else 1) := by unfold ratioM; rw [hB, hN, hq, hr]
  rw [hq, hr] at dm
  rw [hr] at dl
  have qlo : 2 ^ 69 ≤ q := by
    rw [← hq, Nat.le_div_iff_mul_le hkb, ← hN]
    have a1 : 2 ^ 69 * kb ≤ 2 ^ 69 * 2 ^ (nb' + 1) := Nat.mul_le_mul_left _ (Nat.le_of_lt h3)
    rw [← Nat.pow_add] at a1
    have a2 : 2 ^ (69 + (nb' + 1)) ≤ 2 ^ B := Nat.pow_le_pow_right (by decide) (by omega)
    have a3 : 1 * 2 ^ B ≤ ka * 2 ^ B := Nat.mul_le_mul_right _ hka
    omega
  have qhi : q < 2 ^ (na' + 1 + B) := by
    rw [← hq]
    refine Nat.lt_of_le_of_lt (Nat.div_le_self _ _) ?_
    rw [← hN, Nat.pow_add]
    exact Nat.mul_lt_mul_of_pos_right g3 (Nat.pow_pos (by decide))
  obtain ⟨E, hE⟩ : ∃ E : Int, e - (70 + blen (kb : Int)) - 1 = E := ⟨_, rfl⟩
  have pE := pw_pos E
  have e1 := pw_add (e := E) (f := B + 1) (by omega) (by omega)
  rw [show E + ((B : Int) + 1) = e by omega, show ((B : Int) + 1).toNat = B + 1 by omega] at e1
  have TN : T * kb = ((2 * N : Nat) : Int) * (pw E * c) := by
    rw [hT, e1, ← hN, Int.pow_succ]; push_cast; grind
  have kc : (0 : Int) < kb := by omega
  have pc : 0 < pw E * c := Int.mul_pos pE hc
  unfold ratioP
  rw [if_neg (by omega), hM, hE]
  have m0 : 2 * q + (if r = 0 then 0 else 1) ≠ 0 := by split <;> omega
  rw [decide_eq_true m0, Bool.and_true]
  obtain ⟨ng, hng⟩ : ∃ ng, (na != nb) = ng := ⟨_, rfl⟩
  rw [hng]
  have blq : blen ((2 * q + (if r = 0 then 0 else 1) : Nat) : Int) ≤ na' + 1 + B + 1 := by
    have hx : ((2 * q + (if r = 0 then 0 else 1) : Nat) : Int) < 2 ^ (na' + 1 + B + 1) := by
      have a : 2 * q + (if r = 0 then 0 else 1) < 2 ^ (na' + 1 + B + 1) := by rw [Nat.pow_succ]; split <;> omega
      exact_mod_cast a
    have := blen_le _ hx
    omega
  by_cases hr0 : r = 0
  · rw [if_pos hr0] at blq ⊢
    have v := v2_blen (k := 2 * q + 0) (by omega)
    have d := dyMake_val (ng := ng) (k := 2 * q + 0) (e := E) (by omega) (by omega) (by omega)
    obtain ⟨d1, d2, d3, d4, d5, d6⟩ := d
    generalize dyMake ng (2 * q + 0) E = P at *
    unfold dyRound
    rw [dyNorm_odd d1 (by omega) (by omega)]
    have bb := blen_nonneg (P.2.1 : Int)
    have R := rnd_best (ng := P.1) up d1 (by omega : -4190000 ≤ P.2.2) (by omega)
    have eT : T = ((2 * q + 0 : Nat) : Int) * pw E * c := by
      have f1 : T * kb = ((2 * q + 0 : Nat) : Int) * pw E * c * kb := by
        rw [TN, show 2 * N = (2 * q + 0) * kb by rw [← dm, hr0]; grind]
        push_cast; grind
      exact Int.eq_of_mul_eq_mul_right (by omega) f1
    have eV : dyv P = if ng = true then -(((2 * q + 0 : Nat) : Int) * pw E) else ((2 * q + 0 : Nat) : Int) * pw E := by
      unfold dyv; rw [d2, d5]
    have key : (if ng = true then -T else T) = dyv P * c := by
      rw [eV, eT]; split
      · rw [Int.neg_mul]
      · rfl
    rw [key]
    exact R.scale hc
  · rw [if_neg hr0] at blq ⊢
    have od : (2 * q + 1) % 2 = 1 := by omega
    have bl : 64 < blen ((2 * q + 1 : Nat) : Int) := by
      obtain ⟨n, k1, k2, k3⟩ := blen_rng (k := 2 * q + 1) (by omega)
      rcases Nat.lt_or_ge 64 (n + 1) with z | z
      · omega
      · exfalso
        have : 2 ^ (n + 1) ≤ 2 ^ 69 := Nat.pow_le_pow_right (by decide) (by omega)
        omega
    rw [dyMake_odd od (by omega) (by omega)]
    unfold dyRound
    rw [dyNorm_odd (p := (ng, 2 * q + 1, E)) od (by show _ ≤ E; omega) (by show E ≤ _; omega)]
    show Best (rnd ng (2 * q + 1) E up) up _ c
    obtain ⟨s, s1, s2, s3, s4, s5, s6, s7⟩ := rnd_cut (ng := ng) (e := E) up od bl
    rw [s3]
    refine grow_best (by omega) (by omega) (by omega) (by omega) hc ?_
    rw [if_pos rfl]
    have e2 := pw_add (e := E) (f := s) (by omega) (by omega)
    rw [Int.toNat_natCast] at e2
    rw [e2]
    obtain ⟨m, hm⟩ : ∃ m, (2 * q + 1) / 2 ^ s = m := ⟨_, rfl⟩
    rw [hm] at s6 s7 ⊢
    have a1 : (m : Int) * (pw E * 2 ^ s) * c * kb = ((2 ^ s * m * kb : Nat) : Int) * (pw E * c) := by push_cast; grind
    have a2 : ((m : Int) + 1) * (pw E * 2 ^ s) * c * kb = (((2 ^ s * m + 2 ^ s) * kb : Nat) : Int) * (pw E * c) := by push_cast; grind
    have l1 : 2 ^ s * m * kb < 2 * N := by
      have : 2 ^ s * m * kb ≤ (2 * q) * kb := Nat.mul_le_mul_right _ (by omega)
      have : 2 * q * kb = 2 * (kb * q) := by grind
      omega
    have l2 : 2 * N < (2 ^ s * m + 2 ^ s) * kb := by
      have : (2 * q + 2) * kb ≤ (2 ^ s * m + 2 ^ s) * kb := Nat.mul_le_mul_right _ (by omega)
      have : (2 * q + 2) * kb = 2 * (kb * q) + 2 * kb := by grind
      omega
    constructor
    · refine Int.lt_of_mul_lt_mul_right (a := (kb : Int)) ?_ (Int.le_of_lt kc)
      rw [a1, TN]
      exact Int.mul_lt_mul_of_pos_right (by exact_mod_cast l1) pc
    · refine Int.lt_of_mul_lt_mul_right (a := (kb : Int)) ?_ (Int.le_of_lt kc)
      rw [a2, TN]
      exact Int.mul_lt_mul_of_pos_right (by exact_mod_cast l2) pc

def Num.unit (n : Num) : Num := ⟨1, n.neg, n.m, 0⟩
def Num.rdiv (x y : Num) (up : Bool) : Num :=
  if y.fair.kind = 0 then Num.inf (!up) else if x.fair.kind = 0 ∨ y.fair.kind = 2 then Num.zero else if x.fair.kind = 2 then Num.inf (x.fair.neg != y.fair.neg) else
    ratioP x.fair.unit.exact.1.1 x.fair.unit.exact.1.2.1 y.fair.unit.exact.1.1 y.fair.unit.exact.1.2.1 (x.fair.e - y.fair.e + x.fair.unit.exact.1.2.2 - y.fair.unit.exact.1.2.2) up
theorem Num.Fin.unit {n : Num} (h : n.Fin) : n.unit.Fin := ⟨rfl, h.lo, h.hi, by show (-1048576 : Int) ≤ 0; decide, by show (0 : Int) ≤ 1048576; decide⟩
/-- a finite number's odd part -/
theorem unit_fin {n : Num} (h : n.Fin) : n.unit.exact.2 = true ∧ n.unit.exact.1.1 = n.neg ∧ 0 < n.unit.exact.1.2.1 ∧ n.unit.exact.1.2.1 < 18446744073709551616 ∧ 0 ≤ n.unit.exact.1.2.2 ∧ n.unit.exact.1.2.2 ≤ 64 ∧
    n.unit.exact.1.2.1 * pw (n.e + n.unit.exact.1.2.2) = n.W ∧ blen (n.unit.exact.1.2.1 : Int) ≤ 64 ∧ n.unit.exact.1.2.1 % 2 = 1 := by
  have elo := h.elo
  have ehi := h.ehi
  have hW := h.W
  obtain ⟨x1, x2, x3, x4, x5, x6, x7, x8⟩ := exact_fin h.unit
  have lo := h.lo
  have hi := h.hi
  have v := v2_lt (n := n.m.toNat) (k := 64) (by omega) (by show n.m.toNat < 18446744073709551616; omega)
  have d := dyMake_val (ng := n.neg) (k := n.m.toNat) (e := 0) (by omega) (by decide) (by omega)
  have u : n.unit.exact.1.2.2 = 0 + v2 n.m.toNat := by
    have : n.unit.exact.1 = dyMake n.neg n.m.toNat 0 := by
      unfold Num.exact
      rw [if_neg (by rw [h.unit.may, h.unit.kind]; decide), if_neg (by rw [h.unit.kind]; decide)]
      rfl
    rw [this]; exact d.2.2.1
  rw [h.unit.W] at x6
  have x8' : 0 ≤ n.unit.exact.1.2.2 := x8
  generalize n.unit.exact.1 = X at *
  have x6' : (X.2.1 : Int) * pw X.2.2 = n.m * pw 0 := x6
  refine ⟨x1, x2, by omega, x7, by omega, by omega, ?_, ?_, x3⟩
  · rw [hW]
    have f := pw_mul (e := n.e) (f := X.2.2) (by omega) (by omega) (by omega)
    have p0 := pw_pos 0
    have : (X.2.1 : Int) * pw (n.e + X.2.2) * pw 0 = n.m * pw n.e * pw 0 := by
      have a : (X.2.1 : Int) * pw (n.e + X.2.2) * pw 0 = (X.2.1 : Int) * (pw 0 * pw (n.e + X.2.2)) := by grind
      rw [a, ← f]
      have b : (X.2.1 : Int) * (pw n.e * pw X.2.2) = (X.2.1 : Int) * pw X.2.2 * pw n.e := by grind
      rw [b, x6']; grind
    exact Int.eq_of_mul_eq_mul_right (by omega) this
  · refine blen_le 64 ?_
    have : ((X.2.1 : Nat) : Int) < 18446744073709551616 := by omega
    exact this

/-- THE QUOTIENT of the reference is the program's. -/
theorem rdiv_eq {x y : Num} (ox : x.ok) (oy : y.ok) (up : Bool) : Num.rdiv x y up = Num.div x y up := by
  by_cases k0 : y.fair.kind = 0
  · unfold Num.rdiv Num.div; rw [if_pos k0, if_pos k0]
  by_cases k1 : x.fair.kind = 0 ∨ y.fair.kind = 2
  · unfold Num.rdiv Num.div; rw [if_neg k0, if_pos k1, if_neg k0, if_pos k1]
  by_cases k2 : x.fair.kind = 2
  · unfold Num.rdiv Num.div; rw [if_neg k0, if_neg k1, if_pos k2, if_neg k0, if_neg k1, if_pos k2]
  have FX := Num.fair_fin ox (by omega) (by omega)
  have FY := Num.fair_fin oy (by omega) (by omega)
  have B := div_best ox oy (by omega) FY.kind up
  have R : Best (Num.rdiv x y up) up (if (x.fair.neg != y.fair.neg) then -(x.fair.W * pw 0) else x.fair.W * pw 0) y.fair.W := by
    have ex := FX.elo
    have ex' := FX.ehi
    have ey := FY.elo
    have ey' := FY.ehi
    have wy := FY.lt.1
    obtain ⟨x1, x2, x3, x4, x5, x6, x7, x8, _⟩ := unit_fin FX
    obtain ⟨y1, y2, y3, y4, y5, y6, y7, y8, _⟩ := unit_fin FY
    unfold Num.rdiv
    rw [if_neg k0, if_neg k1, if_neg k2]
    generalize x.fair.unit.exact.1 = X at *
    generalize y.fair.unit.exact.1 = Y at *
    rw [← x2, ← y2]
    refine ratio_best up x3 y3 (by omega) (by omega) (by omega) (by omega) wy ?_
    rw [← x7, ← y7]
    have f := pw_mul (e := x.fair.e - y.fair.e + X.2.2 - Y.2.2) (f := y.fair.e + Y.2.2) (by omega) (by omega) (by omega)
    rw [show x.fair.e - y.fair.e + X.2.2 - Y.2.2 + (y.fair.e + Y.2.2) = x.fair.e + X.2.2 by omega] at f
    have a : (X.2.1 : Int) * pw (x.fair.e - y.fair.e + X.2.2 - Y.2.2) * (↑Y.2.1 * pw (y.fair.e + Y.2.2)) = (X.2.1 : Int) * Y.2.1 * (pw (x.fair.e - y.fair.e + X.2.2 - Y.2.2) * pw (y.fair.e + Y.2.2)) := by grind
    rw [a, f]; grind
  refine R.uniq B FY.lt.1 FY.lt.1 ?_
  congr 1
  unfold Num.val
  cases x.fair.neg <;> cases y.fair.neg <;> simp [Int.neg_mul]
end Go.Proofs.Ytaiillbjhdoikaa.Ev

/- Contracts of the reference: the ratio of two whole numbers. Printed by gen.py. -/
namespace Go.Proofs.Ytaiillbjhdoikaa.Ev
open Go Go.Proofs
set_option linter.unusedVariables false
set_option linter.unusedSimpArgs false

attribute [local irreducible] Lb
theorem c_r7sticky (m : List Int) (cut : Bool) (h : Lb m) (hl : m.length ≤ 100000) : ∃ t : List Int, t = lim (2 * lv m + (if cut = true then 1 else 0)) ∧ CallsA Try.prog 62 [.sli .u32 m, .bool (.s cut)] (.sli .u32 t) := by
  refine ⟨_, rfl, ?_⟩
  generalize hr : lim (2 * lv m + (if cut = true then 1 else 0)) = r
  have r1 : cut = true → lim (2 * lv m + 1) = r := by intro z; rw [← hr, if_pos z]
  have r0 : cut = false → lim (2 * lv m) = r := by intro z; rw [← hr, z]; rfl
  have l1 : Lb [(1 : Int)] := Lb.cons (by decide) (by decide) Lb.nil
  have sh : ∀ s, s = (if (1 : Int) < 1 then lim (lv m) else if 16777216 < (1 : Int) then [] else lim (lv m * 2 ^ (1 : Int).toNat)) → s = lim (2 * lv m) ∧ Lb s ∧ s.length < 268435456 := by
    intro s hs
    rw [if_neg (by decide), if_neg (by decide), show (2 : Nat) ^ (1 : Int).toNat = 2 from rfl, Nat.mul_comm] at hs
    refine ⟨hs, by rw [hs]; exact lim_lb _, ?_⟩
    have l := lv_lt h
    have : (lim (2 * lv m)).length ≤ m.length + 1 := lim_length_le (by rw [Nat.pow_succ]; omega)
    rw [hs]; omega
  refine callsA_of hG hm Try.func62 (by kernel_rfl) ?_
  intro E hE lp hl'
  cbv
  (apply E_callX hE (c_rShl _ 1 h ?_); (case hf => rfl); (case hc => (cbv <;> trivial)); (case hle => exact u_up); all_goals (first | (intro s hs; cbv) | (exact Nat.lt_of_le_of_lt hl (by decide))))
  have S := sh s hs
  have es : E.sub [1] 0 1 = [1] := by subst hE; rfl
  refine E_br hE (fun g => ?_) (fun g => ?_) <;> cbv
  · (apply E_callX hE (c_rAdd _ _ S.2.1 ?_ S.2.2 ?_); (case hf => rfl); (case hc => (cbv <;> trivial)); (case hle => exact u_up); all_goals (first | (intro u hu; cbv) | (first | (show Lb (E.sub [1] 0 1); rw [es]; exact l1) | (show (E.sub [1] 0 1).length < 268435456; rw [es]; show (1 : Nat) < 268435456; decide))))
    have k : u = lim (lv s + lv (E.sub [1] 0 1)) := hu
    rw [es, S.1, lv_lim] at k
    rw [k]; exact r1 g
  · rw [S.1]; exact r0 g

/-! ### the ratio, step by step -/
theorem ratio_by {b : List Int} {n by_ : Int} (hb : Lb b) (hlb : b.length ≤ 1000) (hn : n = blen (lv b : Int)) (h : by_ = IntKind.i64.wrap (70 + n)) : by_ = 70 + blen (lv b : Int) ∧ 70 ≤ by_ ∧ by_ ≤ 33000 := by
  have bb := lv_blen hb
  have b0 := blen_nonneg (lv b : Int)
  rw [h, hn, wi64]
  omega
theorem ratio_len {a : List Int} {y X : Nat} (ha : Lb a) (hla : a.length ≤ 1000) (hy : y ≤ 33000) (hX : X ≤ lv a * 2 ^ y) : (lim X).length ≤ 3000 := by
  have l := lv_lt ha
  have p : (2 : Nat) ^ y ≤ 2 ^ (32 * (y / 32 + 1)) := Nat.pow_le_pow_right (by decide) (by omega)
  rw [Nat.pow_mul] at p
  have lt : X < 4294967296 ^ (a.length + (y / 32 + 1)) := by
    rw [Nat.pow_add]
    exact Nat.lt_of_le_of_lt hX (Nat.mul_lt_mul_of_lt_of_le l p (Nat.pow_pos (by decide)))
  have := lim_length_le lt
  omega
theorem ratio_shl {a s : List Int} {y : Int} (ha : Lb a) (hla : a.length ≤ 1000) (hy : 70 ≤ y ∧ y ≤ 33000) (hs : s = if y < 1 then lim (lv a) else if 16777216 < y then [] else lim (lv a * 2 ^ y.toNat)) :
    Lb s ∧ s.length < 67108864 ∧ lv s = lv a * 2 ^ y.toNat := by
  rw [if_neg (by omega), if_neg (by omega)] at hs
  rw [hs]
  exact ⟨lim_lb _, Nat.lt_of_le_of_lt (ratio_len ha hla (by omega) (Nat.le_refl _)) (by decide), lv_lim _⟩
theorem ratio_div {a b s : List Int} {y : Int} {d : List Int × List Int × Bool} (ha : Lb a) (hla : a.length ≤ 1000) (hy : 70 ≤ y ∧ y ≤ 33000) (hs : lv s = lv a * 2 ^ y.toNat) (z : lv b ≠ 0)
    (hd : d = if lv b = 0 then ([], [], false) else (lim (lv s / lv b), lim (lv s % lv b), true)) : Lb d.1 ∧ d.1.length ≤ 3000 ∧ lv d.1 = lv s / lv b ∧ (d.2.1.length = 0 ↔ lv s % lv b = 0) := by
  rw [if_neg z] at hd
  rw [hd]
  refine ⟨lim_lb _, ratio_len ha hla (by omega : y.toNat ≤ 33000) (by rw [hs]; exact Nat.div_le_self _ _), lv_lim _, ?_⟩
  show (lim (lv s % lv b)).length = 0 ↔ _
  exact ⟨fun q => lim_eq_nil.1 (List.length_eq_zero_iff.1 q), fun q => by rw [q]; rfl⟩
theorem ratio_M {a b s m : List Int} {y : Int} {d : List Int × List Int × Bool} {c : Bool} (ha : Lb a) (hla : a.length ≤ 1000) (hy : 70 ≤ y ∧ y ≤ 33000) (hb : y = 70 + blen (lv b : Int)) (hs : lv s = lv a * 2 ^ y.toNat)
    (D : Lb d.1 ∧ d.1.length ≤ 3000 ∧ lv d.1 = lv s / lv b ∧ (d.2.1.length = 0 ↔ lv s % lv b = 0)) (hc : c = decide ((0 : Int) < (d.2.1.length : Int))) (hm' : m = lim (2 * lv d.1 + (if c = true then 1 else 0))) :
    Lb m ∧ m.length ≤ 3001 ∧ lv m = ratioM (lv a) (lv b) := by
  have e : lv m = ratioM (lv a) (lv b) := by
    rw [hm', lv_lim, D.2.2.1, hc, hs]
    unfold ratioM
    rw [← hb]
    rw [hs] at D
    by_cases z : lv a * 2 ^ y.toNat % lv b = 0
    · rw [if_pos z, decide_eq_false (by have := D.2.2.2.2 z; omega)]; rfl
    · rw [if_neg z, decide_eq_true (by have : d.2.1.length ≠ 0 := fun q => z (D.2.2.2.1 q)
                                       omega), if_pos rfl]
  refine ⟨by rw [hm']; exact lim_lb _, ?_, e⟩
  have k := D.2.1
  have l := lv_lt D.1
  rw [hm']
  obtain ⟨n, hn⟩ : ∃ n, n = 3000 := ⟨_, rfl⟩
  rw [← hn] at k
  have p : (4294967296 : Nat) ^ d.1.length ≤ 4294967296 ^ n := Nat.pow_le_pow_right (by decide) k
  have : 2 * lv d.1 + (if c = true then 1 else 0) < 4294967296 ^ (n + 1) := by
    rw [Nat.pow_succ]
    generalize (4294967296 : Nat) ^ n = q at p ⊢
    split <;> omega
  have := lim_length_le this
  omega
theorem ratio_P {na nb : Bool} {a b m : List Int} {e f y : Int} {up : Bool} {w : Bool × List Int} (hb : y = 70 + blen (lv b : Int)) (hy : 70 ≤ y ∧ y ≤ 33000) (he : -8000000 ≤ e ∧ e ≤ 8000000) (z : lv b ≠ 0)
    (M : Lb m ∧ m.length ≤ 3001 ∧ lv m = ratioM (lv a) (lv b)) (hw : w = ((na != nb) && decide (lv m ≠ 0), lim (lv m))) (hf : f = IntKind.i64.wrap (IntKind.i64.wrap (e - y) - 1)) :
    Lb w.2 ∧ w.2.length ≤ 3001 ∧ (-9223372036854775808 ≤ f ∧ f < 9223372036854775808) ∧
      (lim (dyMake w.1 (lv w.2) f).2.1).length ≤ 62500 ∧ (-9223372036854775808 ≤ (dyMake w.1 (lv w.2) f).2.2 ∧ (dyMake w.1 (lv w.2) f).2.2 < 9223372036854775808) ∧ dyRound (dyMake w.1 (lv w.2) f) up = ratioP na (lv a) nb (lv b) e up := by
  have hf' : f = e - y - 1 := by rw [hf, wi64, wi64]; omega
  have hl : (lim (lv m)).length ≤ 3001 := Nat.le_trans (lim_len_of M.1 (Nat.le_refl _)) M.2.1
  have w2 : w.2 = lim (lv m) := by rw [hw]
  have w1 : w.1 = ((na != nb) && decide (lv m ≠ 0)) := by rw [hw]
  have r := dyMake_rng w.1 (lv w.2) f
  refine ⟨by rw [w2]; exact lim_lb _, by rw [w2]; exact hl, by omega, ?_, by omega, ?_⟩
  · rw [w2, lv_lim] at r ⊢
    have := lim_len_of M.1 (k := (dyMake w.1 (lv m) f).2.1) r.2.2
    have := M.2.1
    omega
  · unfold ratioP
    rw [if_neg z, w2, lv_lim, w1, M.2.2, hf', hb]
theorem c_r7ratio (na : Bool) (a : List Int) (nb : Bool) (b : List Int) (e : Int) (up : Bool) (ha : Lb a) (hb : Lb b) (hla : a.length ≤ 1000) (hlb : b.length ≤ 1000) (he : -8000000 ≤ e ∧ e ≤ 8000000) :
    ∃ t : Num, t = ratioP na (lv a) nb (lv b) e up ∧ CallsA Try.prog 55 [.agg [.bool (.s na), .sli .u32 a], .agg [.bool (.s nb), .sli .u32 b], .int .i64 (.s e), .bool (.s up)] t.av := by
  refine ⟨_, rfl, ?_⟩
  obtain ⟨r, hr⟩ : ∃ r, ratioP na (lv a) nb (lv b) e up = r := ⟨_, rfl⟩
  rw [hr]
  obtain ⟨Q, hQ⟩ : ∃ Q : Num → Prop, ∀ r, Q r ↔ ratioP na (lv a) nb (lv b) e up = r := ⟨_, fun _ => Iff.rfl⟩
  have hq := (hQ r).2 hr
  clear hr
  have zer : lv b = 0 → ∀ t, t = Num.inf (!up) → t = r := by intro z t ht; rw [← (hQ r).1 hq, ht]; unfold ratioP; rw [if_pos z]
  have fin : ∀ t, t = ratioP na (lv a) nb (lv b) e up → t = r := fun t ht => ht.trans ((hQ r).1 hq)
  clear hQ hq Q
  refine callsA_of hG hm Try.func55 (by kernel_rfl) ?_
  intro E hE lp hl'
  cbv
  (apply E_callX hE (c_r2Sign _ _ hb ?_); (case hf => rfl); (case hc => (cbv <;> trivial)); (case hle => exact u_up); all_goals (first | (intro sg hsg; cbv) | (exact Nat.le_trans hlb (by decide))))
  have sgz : sg = 0 ↔ lv b = 0 := by
    have h : sg = (if lv b = 0 then 0 else if nb = true then -1 else 1 : Int) := hsg
    rw [h]
    constructor
    · intro q
      rcases Nat.eq_zero_or_pos (lv b) with k | k
      · exact k
      · exfalso
        rw [if_neg (by omega)] at q
        split at q <;> omega
    · intro q; rw [if_pos q]
  clear hsg
  refine E_br hE (fun g1 => ?_) (fun g1 => ?_) <;> cbv
  · have z : lv b = 0 := sgz.1 (by subst hE; exact eql_t g1)
    (apply E_callX hE (c_rInf _); (case hf => rfl); (case hc => (cbv <;> trivial)); (case hle => exact u_up); all_goals (first | (intro t ht; cbv) | (assumption)))
    have T : t = r := zer z t (by subst hE; exact ht)
    rw [T]; exact ⟨rfl, rfl, rfl, rfl, trivial⟩
  have nz : lv b ≠ 0 := fun z => (eql_f (by subst hE; exact g1) : ¬ sg = 0) (sgz.2 z)
  clear sgz zer g1
  (apply E_callX hE (c_rLen _ hb ?_); (case hf => rfl); (case hc => (cbv <;> trivial)); (case hle => exact u_up); all_goals (first | (intro n hn; cbv) | (exact Nat.le_trans hlb (by decide))))
  refine E_nm hE (fun by_ hby => ?_)
  have B := ratio_by hb hlb hn (by subst hE; exact hby)
  clear hn hby
  cbv
  (apply E_pcallX hE (c_rShl _ by_ ha ?_); (case hm => rfl); (case hle => exact u_up); all_goals (first | (intro s hs; cbv) | (exact Nat.lt_of_le_of_lt hla (by decide))))
  have S := ratio_shl ha hla B.2 hs
  clear hs
  (apply E_pcallX hE (c_rDiv _ _ S.1 hb S.2.1 ?_); (case hm => rfl); (case hle => exact u_up); all_goals (first | (intro d hd; cbv) | (exact Nat.lt_of_le_of_lt hlb (by decide))))
  have D := ratio_div ha hla B.2 S.2.2 nz hd
  clear hd
  (apply E_callX hE (c_r7sticky _ _ D.1 ?_); (case hf => rfl); (case hc => (cbv <;> trivial)); (case hle => exact u_up); all_goals (first | (intro m hm_; cbv) | (exact Nat.le_trans D.2.1 (by decide))))
  have M := ratio_M (c := E.cmp .gtr (E.len d.2.1) 0) ha hla B.2 B.1 S.2.2 D (by subst hE; rfl) hm_
  clear hm_
  (apply E_callX hE (c_r2Make _ _ M.1 ?_); (case hf => rfl); (case hc => (cbv <;> trivial)); (case hle => exact u_up); all_goals (first | (intro w hw; cbv) | (exact Nat.le_trans M.2.1 (by decide))))
  have P := ratio_P (na := na) (nb := nb) (up := up) (f := E.bin .sub .i64 (E.bin .sub .i64 e by_) 1) B.1 B.2 he nz M (by have k := hw; subst hE; exact k) (by subst hE; rfl)
  clear hw
  (apply E_callX hE (k_r3Make _ _ _ P.1 ?_ ?_); (case hf => rfl); (case hc => (cbv <;> trivial)); (case hle => exact u_up); all_goals (first | (intro y hy; cbv) | (first | exact Nat.le_trans P.2.1 (by decide) | exact P.2.2.1)))
  (apply E_callX hE (k_rRound (dyMake w.1 (lv w.2) (E.bin .sub .i64 (E.bin .sub .i64 e by_) 1)) up P.2.2.2.1 P.2.2.2.2.1 ⟨_, _, _⟩ ?_); (case hf => rfl); (case hc => (cbv <;> trivial)); (case hle => exact u_up); all_goals (first | (intro t ht; cbv) | (exact hy)))
  have T : t = r := fin t (ht.trans P.2.2.2.2.2)
  rw [T]; exact ⟨rfl, rfl, rfl, rfl, trivial⟩

end Go.Proofs.Ytaiillbjhdoikaa.Ev

/- Contracts of the reference: the quotient of two numbers. Printed by gen.py. -/
namespace Go.Proofs.Ytaiillbjhdoikaa.Ev
open Go Go.Proofs
set_option linter.unusedVariables false
set_option linter.unusedSimpArgs false

attribute [local irreducible] Lb
theorem Num.unit_ok {n : Num} (h : n.ok) : n.unit.ok := ⟨h.1, h.2⟩
theorem rdiv_fin {a b : Num} {up : Bool} {p q : (Bool × List Int × Int) × Bool} {e : Int} (FA : a.Fin) (FB : b.Fin) (hp : p = (dyL a.unit.exact.1, a.unit.exact.2)) (hq : q = (dyL b.unit.exact.1, b.unit.exact.2))
    (he : e = IntKind.i64.wrap (IntKind.i64.wrap (IntKind.i64.wrap (a.e - b.e) + p.1.2.2) - q.1.2.2)) :
    Lb p.1.2.1 ∧ Lb q.1.2.1 ∧ p.1.2.1.length ≤ 1000 ∧ q.1.2.1.length ≤ 1000 ∧ (-8000000 ≤ e ∧ e ≤ 8000000) ∧
      ratioP p.1.1 (lv p.1.2.1) q.1.1 (lv q.1.2.1) e up = ratioP a.unit.exact.1.1 a.unit.exact.1.2.1 b.unit.exact.1.1 b.unit.exact.1.2.1 (a.e - b.e + a.unit.exact.1.2.2 - b.unit.exact.1.2.2) up := by
  have la := (exact_len (Num.unit_ok FA.ok)).1
  have lb := (exact_len (Num.unit_ok FB.ok)).1
  obtain ⟨x1, x2, x3, x4, x5, x6, x7, x8, _⟩ := unit_fin FA
  obtain ⟨y1, y2, y3, y4, y5, y6, y7, y8, _⟩ := unit_fin FB
  have := FA.elo; have := FA.ehi; have := FB.elo; have := FB.ehi
  have p2 : p.1.2.2 = a.unit.exact.1.2.2 := by rw [hp]; rfl
  have q2 : q.1.2.2 = b.unit.exact.1.2.2 := by rw [hq]; rfl
  have p1 : p.1.2.1 = lim a.unit.exact.1.2.1 := by rw [hp]; rfl
  have q1 : q.1.2.1 = lim b.unit.exact.1.2.1 := by rw [hq]; rfl
  have p0 : p.1.1 = a.unit.exact.1.1 := by rw [hp]; rfl
  have q0 : q.1.1 = b.unit.exact.1.1 := by rw [hq]; rfl
  have e' : e = a.e - b.e + a.unit.exact.1.2.2 - b.unit.exact.1.2.2 := by
    rw [he, p2, q2]; simp only [wi64]; omega
  refine ⟨by rw [p1]; exact lim_lb _, by rw [q1]; exact lim_lb _, by rw [p1]; omega, by rw [q1]; omega, by omega, ?_⟩
  rw [p0, q0, p1, q1, lv_lim, lv_lim, e']
theorem c_r7Div (x y : Num) (up : Bool) (ox : x.ok) (oy : y.ok) : ∃ t : Num, t = Num.div x y up ∧ CallsA Try.prog 22 [x.av, y.av, .bool (.s up)] t.av := by
  rw [← rdiv_eq ox oy]
  refine ⟨_, rfl, ?_⟩
  generalize hr : Num.rdiv x y up = r
  have dz : y.fair.kind = 0 → r = Num.inf (!up) := by intro h; rw [← hr]; unfold Num.rdiv; rw [if_pos h]
  have zer : ¬ y.fair.kind = 0 → (x.fair.kind = 0 ∨ y.fair.kind = 2) → r = Num.zero := by intro h g; rw [← hr]; unfold Num.rdiv; rw [if_neg h, if_pos g]
  have inf : ¬ y.fair.kind = 0 → ¬ (x.fair.kind = 0 ∨ y.fair.kind = 2) → x.fair.kind = 2 → r = Num.inf (x.fair.neg != y.fair.neg) := by intro h g k; rw [← hr]; unfold Num.rdiv; rw [if_neg h, if_neg g, if_pos k]
  have fin : ¬ y.fair.kind = 0 → ¬ (x.fair.kind = 0 ∨ y.fair.kind = 2) → ¬ x.fair.kind = 2 → x.fair.Fin ∧ y.fair.Fin ∧
      ∀ t, t = ratioP x.fair.unit.exact.1.1 x.fair.unit.exact.1.2.1 y.fair.unit.exact.1.1 y.fair.unit.exact.1.2.1 (x.fair.e - y.fair.e + x.fair.unit.exact.1.2.2 - y.fair.unit.exact.1.2.2) up → t = r := by
    intro h g k
    refine ⟨Num.fair_fin ox (by omega) (by omega), Num.fair_fin oy (by omega) (by omega), fun t ht => ?_⟩
    rw [ht, ← hr]; unfold Num.rdiv; rw [if_neg h, if_neg g, if_neg k]
  clear hr
  refine callsA_of hG hm Try.func22 (by kernel_rfl) ?_
  intro E hE lp hl'
  cbv
  (apply E_callX hE (c_r6Fair ⟨_, _, _, _⟩); (case hf => rfl); (case hc => (cbv <;> trivial)); (case hle => exact u_up); all_goals (first | (intro a ha; cbv) | (assumption)))
  (apply E_callX hE (c_r6Fair ⟨_, _, _, _⟩); (case hf => rfl); (case hc => (cbv <;> trivial)); (case hle => exact u_up); all_goals (first | (intro b hb; cbv) | (assumption)))
  replace ha : a = x.fair := ha
  replace hb : b = y.fair := hb
  rw [← ha] at zer inf fin
  rw [← hb] at dz zer inf fin
  refine E_br hE (fun g1 => ?_) (fun g1 => ?_) <;> cbv
  · (apply E_callX hE (c_rInf _); (case hf => rfl); (case hc => (cbv <;> trivial)); (case hle => exact u_up); all_goals (first | (intro t ht; cbv) | (assumption)))
    have T : t = r := by
      have k : t = Num.inf (E.bnot up) := ht
      rw [k, dz (by subst hE; exact eql_t g1)]; subst hE; rfl
    rw [T]; exact ⟨rfl, rfl, rfl, rfl, trivial⟩
  have b0 : ¬ b.kind = 0 := by subst hE; exact eql_f g1
  clear dz
  refine E_br hE (fun g2 => ?_) (fun g2 => ?_) <;> cbv
  · rw [zer b0 (.inl (by subst hE; exact eql_t g2))]; exact ⟨rfl, rfl, rfl, rfl, trivial⟩
  refine E_br hE (fun g3 => ?_) (fun g3 => ?_) <;> cbv
  · rw [zer b0 (.inr (by subst hE; exact eql_t g3))]; exact ⟨rfl, rfl, rfl, rfl, trivial⟩
  have nz : ¬ (a.kind = 0 ∨ b.kind = 2) := by subst hE; exact fun z => z.elim (eql_f g2) (eql_f g3)
  clear zer
  have eb : E.bnot (E.beq a.neg b.neg) = (a.neg != b.neg) := by subst hE; rfl
  refine E_br hE (fun g4 => ?_) (fun g4 => ?_) <;> cbv
  · (apply E_callX hE (c_rInf _); (case hf => rfl); (case hc => (cbv <;> trivial)); (case hle => exact u_up); all_goals (first | (intro t ht; cbv) | (assumption)))
    have T : t = r := by
      have k : t = Num.inf (E.bnot (E.beq a.neg b.neg)) := ht
      rw [k, eb, inf b0 nz (by subst hE; exact eql_t g4)]
    rw [T]; exact ⟨rfl, rfl, rfl, rfl, trivial⟩
  have F := fin b0 nz (by subst hE; exact eql_f g4)
  clear inf fin eb
  (apply E_callX hE (c_rExact ⟨_, _, _, _⟩ ?_); (case hf => rfl); (case hc => (cbv <;> trivial)); (case hle => exact u_up); all_goals (first | (intro p hp; cbv) | (exact Num.unit_ok F.1.ok)))
  (apply E_callX hE (c_rExact ⟨_, _, _, _⟩ ?_); (case hf => rfl); (case hc => (cbv <;> trivial)); (case hle => exact u_up); all_goals (first | (intro q hq; cbv) | (exact Num.unit_ok F.2.1.ok)))
  have R := rdiv_fin (up := up) (e := E.bin .sub .i64 (E.bin .add .i64 (E.bin .sub .i64 a.e b.e) p.1.2.2) q.1.2.2) F.1 F.2.1 hp hq (by subst hE; rfl)
  clear hp hq
  (apply E_callX hE (c_r7ratio _ _ _ _ _ _ R.1 R.2.1 R.2.2.1 R.2.2.2.1 R.2.2.2.2.1); (case hf => rfl); (case hc => (cbv <;> trivial)); (case hle => exact u_up); all_goals (first | (intro t ht; cbv) | (assumption)))
  have T : t = r := F.2.2 t (ht.trans R.2.2.2.2.2)
  rw [T]; exact ⟨rfl, rfl, rfl, rfl, trivial⟩

end Go.Proofs.Ytaiillbjhdoikaa.Ev

/- The root, bit by bit: plain Lean. -/
namespace Go.Proofs.Ytaiillbjhdoikaa.Ev
open Go

/-- the bits from j on are the root's -/
structure RootI (A j s : Nat) : Prop where
  dv : 2 ^ j ∣ s
  lo : s * s ≤ A
  hi : A < (s + 2 ^ j) * (s + 2 ^ j)
theorem RootI.start {A j : Nat} (h : A < 2 ^ (2 * j)) : RootI A j 0 := by
  refine ⟨Nat.dvd_zero _, by omega, ?_⟩
  rw [Nat.zero_add, ← Nat.pow_add, show j + j = 2 * j by omega]; exact h
theorem RootI.keep {A j s : Nat} (h : RootI A (j + 1) s) (g : ¬ (s + 2 ^ j) * (s + 2 ^ j) ≤ A) : RootI A j s := by
  refine ⟨Nat.dvd_trans (Nat.pow_dvd_pow 2 (by omega)) h.dv, h.lo, by omega⟩
theorem RootI.take {A j s : Nat} (h : RootI A (j + 1) s) (g : (s + 2 ^ j) * (s + 2 ^ j) ≤ A) : RootI A j (s + 2 ^ j) := by
  refine ⟨Nat.dvd_add (Nat.dvd_trans (Nat.pow_dvd_pow 2 (by omega)) h.dv) (Nat.dvd_refl _), g, ?_⟩
  have k := h.hi
  rw [show s + 2 ^ j + 2 ^ j = s + 2 ^ (j + 1) by rw [Nat.pow_succ]; omega]
  exact k
theorem RootI.stop {A s : Nat} (h : RootI A 0 s) : nsqrt A = s := nsqrt_eq h.lo (by have := h.hi; simpa using this)
end Go.Proofs.Ytaiillbjhdoikaa.Ev

/- Contracts of the reference: the root of a whole number, bit by bit. Printed by gen.py. -/
namespace Go.Proofs.Ytaiillbjhdoikaa.Ev
open Go Go.Proofs
set_option linter.unusedVariables false
set_option linter.unusedSimpArgs false

attribute [local irreducible] Lb
theorem c_rRoot (a : List Int) (ha : Lb a) (hla : a.length ≤ 100000) :
    ∃ t : List Int × Bool, t = (lim (nsqrt (lv a)), decide (nsqrt (lv a) * nsqrt (lv a) = lv a)) ∧ CallsA Try.prog 60 [.sli .u32 a] (.tup [.sli .u32 t.1, .bool (.s t.2)]) := by
  refine ⟨_, rfl, ?_⟩
  generalize hr : ((lim (nsqrt (lv a)), decide (nsqrt (lv a) * nsqrt (lv a) = lv a)) : List Int × Bool) = r
  have bl := lv_blen ha
  have b0 := blen_nonneg (lv a : Int)
  have bt := lt_blen (lv a)
  obtain ⟨m, em⟩ : ∃ m : Int × List Int → Nat, ∀ p, m p = (p.1 + 1).toNat := ⟨_, fun _ => rfl⟩
  obtain ⟨ok, eok⟩ : ∃ ok : Int × List Int → Prop, ∀ p, ok p ↔ (-1 ≤ p.1 ∧ p.1 ≤ 16 * a.length ∧ RootI (lv a) (p.1 + 1).toNat (lv p.2) ∧ Lb p.2 ∧ p.2.length ≤ a.length + 1) := ⟨_, fun _ => Iff.rfl⟩
  have wn : ∀ n i : Int, n = blen (lv a : Int) → i = IntKind.i64.wrap (n.tdiv 2) → i = blen (lv a : Int) / 2 := by
    intro n i h h'; rw [h', h, Int.tdiv_eq_ediv_of_nonneg b0, wi64]; omega
  have start : ok (blen (lv a : Int) / 2, []) := by
    refine (eok _).2 ⟨by show -1 ≤ blen (lv a : Int) / 2; omega, by show blen (lv a : Int) / 2 ≤ _; omega, ?_, Lb.nil, Nat.zero_le _⟩
    show RootI (lv a) (blen (lv a : Int) / 2 + 1).toNat 0
    refine RootI.start (Nat.lt_of_lt_of_le bt (Nat.pow_le_pow_right (by decide) (by omega)))
  have inv : ∀ i s, ok (i, s) → Lb s ∧ s.length < 67108864 ∧ i < 8589934592 ∧ (0 ≤ i → (s ++ List.replicate (i.toNat / 32 + 1 - s.length) 0).getD (i.toNat / 32) 0 + 2 ^ (i.toNat % 32) < 4294967296 ∧
      Lb (setL s i.toNat) ∧ (setL s i.toNat).length < 67108864 ∧ lv (setL s i.toNat) = lv s + 2 ^ i.toNat) := by
    intro i s hok
    obtain ⟨k1, k2, k3, k4, k5⟩ := (eok _).1 hok
    dsimp only at k1 k2 k3 k4 k5
    refine ⟨k4, by omega, by omega, fun hi => ?_⟩
    have dv := k3.dv
    rw [show (i + 1).toNat = i.toNat + 1 by omega] at dv
    have st := setL_ok k4 i.toNat dv
    exact ⟨st.1, st.2.1, by rw [st.2.2.2]; omega, st.2.2.1⟩
  have next0 : ∀ i s, ok (i, s) → 0 ≤ i → ¬ (lv s + 2 ^ i.toNat) * (lv s + 2 ^ i.toNat) ≤ lv a → m (i - 1, s) < m (i, s) ∧ ok (i - 1, s) := by
    intro i s hok hi h
    obtain ⟨k1, k2, k3, k4, k5⟩ := (eok _).1 hok
    dsimp only at k1 k2 k3 k4 k5
    rw [show (i + 1).toNat = i.toNat + 1 by omega] at k3
    refine ⟨by rw [em, em]; show (i - 1 + 1).toNat < (i + 1).toNat; omega, (eok _).2 ⟨by show -1 ≤ i - 1; omega, by show i - 1 ≤ _; omega, ?_, k4, k5⟩⟩
    show RootI (lv a) (i - 1 + 1).toNat (lv s)
    rw [show (i - 1 + 1).toNat = i.toNat by omega]
    exact k3.keep h
  have next1 : ∀ i s, ok (i, s) → 0 ≤ i → (lv s + 2 ^ i.toNat) * (lv s + 2 ^ i.toNat) ≤ lv a → m (i - 1, setL s i.toNat) < m (i, s) ∧ ok (i - 1, setL s i.toNat) := by
    intro i s hok hi h
    obtain ⟨k1, k2, k3, k4, k5⟩ := (eok _).1 hok
    dsimp only at k1 k2 k3 k4 k5
    rw [show (i + 1).toNat = i.toNat + 1 by omega] at k3
    have st := setL_ok k4 i.toNat k3.dv
    refine ⟨by rw [em, em]; show (i - 1 + 1).toNat < (i + 1).toNat; omega, (eok _).2 ⟨by show -1 ≤ i - 1; omega, by show i - 1 ≤ _; omega, ?_, st.2.1, by show (setL s i.toNat).length ≤ _; rw [st.2.2.2]; omega⟩⟩
    show RootI (lv a) (i - 1 + 1).toNat (lv (setL s i.toNat))
    rw [show (i - 1 + 1).toNat = i.toNat by omega, st.2.2.1]
    exact k3.take h
  have stop : ∀ i s, ok (i, s) → ¬ 0 ≤ i → nsqrt (lv a) = lv s := by
    intro i s hok hi
    obtain ⟨k1, k2, k3, k4, k5⟩ := (eok _).1 hok
    dsimp only at k1 k2 k3 k4 k5
    rw [show (i + 1).toNat = 0 by omega] at k3
    exact k3.stop
  have sqlen : ∀ (s : List Int) (u : List Int), s.length < 67108864 → Lb s → u = lim (lv s * lv s) → Lb u ∧ u.length ≤ 268435456 ∧ lv u = lv s * lv s := by
    intro s u h hs hu
    have l := lv_lt hs
    have : (lim (lv s * lv s)).length ≤ s.length + s.length := lim_length_le (by rw [Nat.pow_add]; exact Nat.mul_lt_mul'' l l)
    rw [hu]
    exact ⟨lim_lb _, by omega, lv_lim _⟩
  have cle : ∀ (c : Int) (u : List Int), c = (if lv u < lv a then -1 else if lv a < lv u then 1 else 0 : Int) → (c ≤ 0 ↔ lv u ≤ lv a) ∧ (c = 0 ↔ lv u = lv a) := by
    intro c u hc
    rw [hc]
    constructor <;> constructor <;> intro h <;> (repeat' split at *) <;> omega
  have fin : ∀ (s : List Int) (x : List Int) (o : Bool), nsqrt (lv a) = lv s → x = lim (lv s) → o = decide (lv s * lv s = lv a) → (x, o) = r := by
    intro s x o h hx ho
    rw [← hr, h, hx, ho]
  clear hr
  refine callsA_of hG hm Try.func60 (by kernel_rfl) ?_
  intro E hE lp hl
  cbv
  (apply E_callX hE (c_rLen a ha (by omega)); (case hf => rfl); (case hc => (cbv <;> trivial)); (case hle => exact ⟨u2_sli, trivial⟩); intro n hn; cbv)
  refine E_nm hE (fun i0 hi0 => ?_)
  have ei0 : i0 = blen (lv a : Int) / 2 := wn n i0 hn (by subst hE; exact hi0)
  clear wn hn hi0
  cbv
  refine E_loopM hE hG hm hl (fun p : Int × List Int => (⟨[(0, .sli .u32 a), (4, .sli .u32 p.2), (5, .int .i64 (.s p.1))], []⟩ : St)) m ok ⟨(i0, []), [], (by rw [ei0]; exact start), stLeM trivial rfl rfl rfl trivial ?_⟩ ?_
  · (repeat' (first | exact m_nil | refine m_consA (ms_le rfl rfl) rfl ?_ | refine m_cons ?_ rfl ?_ | exact u2_int | exact u2_bool | exact u2_sli | exact (rfl : sle2 .s0 .s0) | exact u2_s0))
  rintro ⟨i, s⟩ hok
  have iv := inv i s hok
  have n0 := next0 i s hok
  have n1 := next1 i s hok
  have sp := stop i s hok
  have wpi : 0 ≤ i → IntKind.i64.wrap (i - 1) = i - 1 := fun p => by have := iv.2.2.1; rw [wi64]; omega
  have lens : s.length ≤ 268435456 ∧ s.length < 268435456 ∧ i < 8589934592 ∧ a.length ≤ 268435456 := ⟨by have := iv.2.1; omega, by have := iv.2.1; omega, iv.2.2.1, by omega⟩
  clear next0 next1 stop start inv hok eok
  cbv
  refine E_br hE (fun hi => ?_) (fun hi => ?_) <;> cbv
  · have hnn : 0 ≤ i := by subst hE; exact geq_t hi
    have st := iv.2.2.2 hnn
    (apply E_callX hE (c_rSet s i iv.1 lens.2.1 hnn lens.2.2.1 st.1); (case hf => rfl); (case hc => (cbv <;> trivial)); (case hle => exact ⟨u2_sli, u2_int, trivial⟩); intro t ht; cbv)
    replace ht : t = setL s i.toNat := ht
    rw [← ht] at st n1
    (apply E_callX hE (c_rMul t t st.2.1 st.2.1 st.2.2.1 st.2.2.1); (case hf => rfl); (case hc => (cbv <;> trivial)); (case hle => exact ⟨u2_sli, u2_sli, trivial⟩); intro u hu; cbv)
    have U := sqlen t u st.2.2.1 st.2.1 hu
    (apply E_callX hE (c_rCmp u a U.1 ha U.2.1 lens.2.2.2); (case hf => rfl); (case hc => (cbv <;> trivial)); (case hle => exact ⟨u2_sli, u2_sli, trivial⟩); intro c hc; cbv)
    have C := (cle c u hc).1
    rw [U.2.2, st.2.2.2] at C
    clear hc hu U
    refine E_br hE (fun hb => ?_) (fun hb => ?_) <;> cbv
    · have g := n1 hnn (C.1 (by subst hE; exact leq_t hb))
      refine E_nm hE (fun v hv => ?_)
      have hv' : v = i - 1 := by subst hE; have z : v = IntKind.i64.wrap (i - 1) := hv; rw [z, wpi hnn]
      clear hv n0 n1 C
      subst hv'
      cbv
      refine ⟨(i - 1, t), [], g.1, g.2, stLeM trivial rfl rfl rfl trivial ?_⟩
      (repeat' (first | exact m_nil | refine m_consA (ms_le rfl rfl) rfl ?_ | refine m_cons ?_ rfl ?_ | exact u2_int | exact u2_bool | exact u2_sli | exact (rfl : sle2 .s0 .s0) | exact u2_s0))
    · have g := n0 hnn (fun k => (by subst hE; exact leq_f hb : ¬ c ≤ 0) (C.2 k))
      refine E_nm hE (fun v hv => ?_)
      have hv' : v = i - 1 := by subst hE; have z : v = IntKind.i64.wrap (i - 1) := hv; rw [z, wpi hnn]
      clear hv n0 n1 C
      subst hv'
      cbv
      refine ⟨(i - 1, s), [], g.1, g.2, stLeM trivial rfl rfl rfl trivial ?_⟩
      (repeat' (first | exact m_nil | refine m_consA (ms_le rfl rfl) rfl ?_ | refine m_cons ?_ rfl ?_ | exact u2_int | exact u2_bool | exact u2_sli | exact (rfl : sle2 .s0 .s0) | exact u2_s0))
  · have g := sp (by subst hE; exact geq_f hi)
    (apply E_callX hE (c_rTrim s iv.1 lens.1); (case hf => rfl); (case hc => (cbv <;> trivial)); (case hle => exact ⟨u2_sli, trivial⟩); intro x hx; cbv)
    (apply E_callX hE (c_rMul s s iv.1 iv.1 iv.2.1 iv.2.1); (case hf => rfl); (case hc => (cbv <;> trivial)); (case hle => exact ⟨u2_sli, u2_sli, trivial⟩); intro u hu; cbv)
    have U := sqlen s u iv.2.1 iv.1 hu
    (apply E_callX hE (c_rCmp u a U.1 ha U.2.1 lens.2.2.2); (case hf => rfl); (case hc => (cbv <;> trivial)); (case hle => exact ⟨u2_sli, u2_sli, trivial⟩); intro c hc; cbv)
    have C := (cle c u hc).2
    rw [U.2.2] at C
    have o : E.cmp .eql c 0 = decide (lv s * lv s = lv a) := by
      subst hE
      show cmpR .eql c 0 = _
      rw [cmp_eql]
      by_cases k : lv s * lv s = lv a
      · rw [decide_eq_true k, decide_eq_true (C.2 k)]
      · rw [decide_eq_false k, decide_eq_false (fun q => k (C.1 q))]
    have R := fin s x (E.cmp .eql c 0) g hx o
    rw [← R]
    exact ⟨rfl, rfl, trivial⟩

end Go.Proofs.Ytaiillbjhdoikaa.Ev

/- The reference's roots are the program's: plain Lean. -/
namespace Go.Proofs.Ytaiillbjhdoikaa.Ev
open Go

theorem norm_uniq {n m e f T : Int} (n1 : 9223372036854775808 ≤ n) (n2 : n < 18446744073709551616) (m1 : 9223372036854775808 ≤ m) (m2 : m < 18446744073709551616) (he : -4194303 ≤ e) (hf : -4194303 ≤ f)
    (a1 : n * pw e * (n * pw e) ≤ T) (a2 : T < (n + 1) * pw e * ((n + 1) * pw e)) (b1 : m * pw f * (m * pw f) ≤ T) (b2 : T < (m + 1) * pw f * ((m + 1) * pw f)) : n = m ∧ e = f := by
  have p := pw_pos e
  have q := pw_pos f
  have x1 : n * pw e < (m + 1) * pw f := sq_lt_of (Int.le_of_lt (Int.mul_pos (by omega) q)) (by omega)
  have x2 : m * pw f < (n + 1) * pw e := sq_lt_of (Int.le_of_lt (Int.mul_pos (by omega) p)) (by omega)
  have far : ∀ {n m e f : Int}, n < 18446744073709551616 → 9223372036854775808 ≤ m → -4194303 ≤ e → e < f → 0 < pw e → 0 < pw f → (n + 1) * pw e ≤ m * pw f := by
    intro n m e f h1 h2 h3 h4 p q
    have l := pw_lt (e := e) (f := f) (by omega) h4
    have y1 : (n + 1) * pw e ≤ 18446744073709551616 * pw e := Int.mul_le_mul_of_nonneg_right (by omega) (Int.le_of_lt p)
    have y2 : 9223372036854775808 * pw f ≤ m * pw f := Int.mul_le_mul_of_nonneg_right h2 (Int.le_of_lt q)
    omega
  rcases Int.lt_trichotomy e f with h | h | h
  · have := far n2 m1 he h p q; omega
  · subst h
    have z1 := Int.lt_of_mul_lt_mul_right x1 (Int.le_of_lt p)
    have z2 := Int.lt_of_mul_lt_mul_right x2 (Int.le_of_lt p)
    exact ⟨by omega, rfl⟩
  · have := far m2 n1 hf h q p; omega

theorem sq_lt_sq {x y : Int} (hx : 0 ≤ x) (h : x < y) : x * x < y * y := by
  have a1 : x * x ≤ x * y := Int.mul_le_mul_of_nonneg_left (Int.le_of_lt h) hx
  have a2 : x * y < y * y := Int.mul_lt_mul_of_pos_right h (by omega)
  omega
theorem sq_le_sq {x y : Int} (hx : 0 ≤ x) (h : x ≤ y) : x * x ≤ y * y := Int.mul_le_mul h h hx (by omega)

def rootBy (e : Int) : Nat := if e % 2 = 0 then 140 else 141
def rootM (K : Nat) : Nat := 2 * nsqrt K + (if nsqrt K * nsqrt K = K then 0 else 1)
def Num.rrootF (a : Num) (up : Bool) : Num :=
  dyRound (dyMake false (rootM (a.unit.exact.1.2.1 * 2 ^ rootBy (a.unit.exact.1.2.2 + a.e))) ((a.unit.exact.1.2.2 + a.e - rootBy (a.unit.exact.1.2.2 + a.e)) / 2 - 1)) up

theorem rrootF_eq {a : Num} (h : a.Fin) (up : Bool) : Num.rrootF a up = Num.rootF a up := by
  obtain ⟨n, e', cut, er, n1, n2, e1, e2, c1, c2⟩ := rootF_form h up
  obtain ⟨x1, x2, x3, x4, x5, x6, x7, x8, x9⟩ := unit_fin h
  have elo := h.elo
  have ehi := h.ehi
  unfold Num.rrootF
  generalize a.unit.exact.1 = X at *
  obtain ⟨e, he⟩ : ∃ e, X.2.2 + a.e = e := ⟨_, rfl⟩
  rw [show a.e + X.2.2 = e by omega] at x7
  rw [he]
  obtain ⟨b, hb⟩ : ∃ b, rootBy e = b := ⟨_, rfl⟩
  have bb : 140 ≤ b ∧ b ≤ 141 ∧ (e - (b : Int)) % 2 = 0 := by
    unfold rootBy at hb
    split at hb <;> omega
  rw [hb]
  obtain ⟨F, hF⟩ : ∃ F, (e - (b : Int)) / 2 = F := ⟨_, rfl⟩
  rw [hF]
  obtain ⟨K, hK⟩ : ∃ K, X.2.1 * 2 ^ b = K := ⟨_, rfl⟩
  rw [hK]
  have sp := nsqrt_spec K
  have Klo : 2 ^ 140 ≤ K := by
    rw [← hK]
    have a1 : (2 : Nat) ^ 140 ≤ 2 ^ b := Nat.pow_le_pow_right (by decide) bb.1
    have a2 : 1 * 2 ^ b ≤ X.2.1 * 2 ^ b := Nat.mul_le_mul_right _ x3
    omega
  have Khi : K < 2 ^ 205 := by
    rw [← hK]
    have a1 : (2 : Nat) ^ b ≤ 2 ^ 141 := Nat.pow_le_pow_right (by decide) bb.2.1
    have a2 : X.2.1 * 2 ^ b ≤ X.2.1 * 2 ^ 141 := Nat.mul_le_mul_left _ a1
    have a3 : X.2.1 * 2 ^ 141 < 18446744073709551616 * 2 ^ 141 := Nat.mul_lt_mul_of_pos_right x4 (by decide)
    have : 18446744073709551616 * 2 ^ 141 = (2 : Nat) ^ 205 := by decide
    omega
  unfold rootM
  obtain ⟨S, hS⟩ : ∃ S, nsqrt K = S := ⟨_, rfl⟩
  rw [hS] at sp ⊢
  have Slo : 2 ^ 70 ≤ S := by
    rcases Nat.lt_or_ge S (2 ^ 70) with g | g
    · exfalso
      have : (S + 1) * (S + 1) ≤ 2 ^ 70 * 2 ^ 70 := Nat.mul_le_mul g g
      have : (2 : Nat) ^ 70 * 2 ^ 70 = 2 ^ 140 := by decide
      omega
    · exact g
  have Shi : S < 2 ^ 103 := by
    rcases Nat.lt_or_ge S (2 ^ 103) with g | g
    · exact g
    · exfalso
      have : 2 ^ 103 * 2 ^ 103 ≤ S * S := Nat.mul_le_mul g g
      have : (2 : Nat) ^ 103 * 2 ^ 103 = 2 ^ 206 := by decide
      have : (2 : Nat) ^ 205 < 2 ^ 206 := by decide
      omega
  have bhi : ∀ M : Nat, 0 < M → M ≤ 2 * S + 1 → blen (M : Int) ≤ 104 := by
    intro M _ hM
    refine blen_le 104 ?_
    have : M < 2 ^ 104 := by have : (2 : Nat) ^ 104 = 2 * 2 ^ 103 := by decide
                             omega
    exact_mod_cast this
  -- the square
  have P0 := pw_pos F
  have eP : pw F * pw F * 2 ^ b = pw 0 * pw e := by
    have f1 : pw F * pw F = pw 0 * pw (e - b) := by
      have := pw_mul (e := F) (f := F) (by omega) (by omega) (by omega)
      rw [this]; congr 2; omega
    have f2 : pw e = pw (e - b) * 2 ^ b := by
      have := pw_add (e := e - b) (f := b) (by omega) (by omega)
      rw [Int.toNat_natCast] at this
      rw [← this]; congr 1; omega
    rw [f1, f2, Int.mul_assoc]
  have eT : a.W * pw 0 = (K : Int) * (pw F * pw F) := by
    rw [← x7, ← hK]
    have : (X.2.1 : Int) * pw e * pw 0 = X.2.1 * (pw 0 * pw e) := by grind
    rw [this, ← eP]; push_cast; grind
  have eF : pw F = pw (F - 1) * 2 := by
    have := pw_succ (e := F - 1) (by omega)
    rw [show F - 1 + 1 = F by omega] at this
    exact this
  have sq0 : (S : Int) * pw F * (S * pw F) = ((S * S : Nat) : Int) * (pw F * pw F) := by push_cast; grind
  have sq1 : ((S : Int) + 1) * pw F * ((S + 1) * pw F) = (((S + 1) * (S + 1) : Nat) : Int) * (pw F * pw F) := by push_cast; grind
  have PP : 0 < pw F * pw F := Int.mul_pos P0 P0
  have top : a.W * pw 0 < ((S : Int) + 1) * pw F * ((S + 1) * pw F) := by
    rw [sq1, eT]; exact Int.mul_lt_mul_of_pos_right (by exact_mod_cast sp.2) PP
  have form : ∃ (m f : Int) (cut' : Bool), dyRound (dyMake false (2 * S + if S * S = K then 0 else 1) (F - 1)) up = Num.grow false m f cut' up ∧ 9223372036854775808 ≤ m ∧ m < 18446744073709551616 ∧ -4194303 ≤ f ∧
      (if cut' then m * pw f * (m * pw f) < a.W * pw 0 else m * pw f * (m * pw f) = a.W * pw 0) ∧ a.W * pw 0 < (m + 1) * pw f * ((m + 1) * pw f) := by
    by_cases hx : S * S = K
    · rw [if_pos hx]
      have v := v2_blen (k := 2 * S + 0) (by omega)
      have bl := bhi (2 * S + 0) (by omega) (by omega)
      obtain ⟨d1, d2, d3, d4, d5, d6⟩ := dyMake_val (ng := false) (k := 2 * S + 0) (e := F - 1) (by omega) (by omega) (by omega)
      generalize dyMake false (2 * S + 0) (F - 1) = P at *
      unfold dyRound
      rw [dyNorm_odd d1 (by omega) (by omega), d2]
      have bn := blen_nonneg (P.2.1 : Int)
      obtain ⟨m, f, cut', r1, r2, r3, r4, r5, r6⟩ := rnd_form (ng := false) (e := P.2.2) up d1 (by omega)
      have eV : (P.2.1 : Int) * pw P.2.2 = S * pw F := by rw [d5, eF]; push_cast; grind
      rw [eV] at r5 r6
      have eq : (S : Int) * pw F * (S * pw F) = a.W * pw 0 := by rw [sq0, eT, hx]
      have p1 := pw_pos f
      have m0 : 0 ≤ m * pw f := Int.le_of_lt (Int.mul_pos (by omega) p1)
      have S0 : 0 ≤ (S : Int) * pw F := Int.mul_nonneg (by omega) (Int.le_of_lt P0)
      refine ⟨m, f, cut', by rw [r1]; cases up <;> rfl, r2, r3, by omega, ?_, ?_⟩
      · cases cut' with
        | true => rw [if_pos rfl] at r5 ⊢; rw [← eq]; exact sq_lt_sq m0 r5
        | false => rw [if_neg (by decide)] at r5 ⊢; rw [← eq, r5]
      · rw [← eq]; exact sq_lt_sq S0 r6
    · rw [if_neg hx]
      have od : (2 * S + 1) % 2 = 1 := by omega
      have bl2 := bhi (2 * S + 1) (by omega) (by omega)
      have bl : 64 < blen ((2 * S + 1 : Nat) : Int) := by
        obtain ⟨n, k1, k2, k3⟩ := blen_rng (k := 2 * S + 1) (by omega)
        rcases Nat.lt_or_ge 64 (n + 1) with z | z
        · omega
        · exfalso
          have : 2 ^ (n + 1) ≤ 2 ^ 70 := Nat.pow_le_pow_right (by decide) (by omega)
          omega
      rw [dyMake_odd od (by omega) (by omega)]
      unfold dyRound
      rw [dyNorm_odd (p := (false, 2 * S + 1, F - 1)) od (by show _ ≤ F - 1; omega) (by show F - 1 ≤ _; omega)]
      show ∃ (m f : Int) (cut' : Bool), rnd false (2 * S + 1) (F - 1) up = _ ∧ _
      obtain ⟨s, s1, s2, s3, s4, s5, s6, s7⟩ := rnd_cut (ng := false) (e := F - 1) up od bl
      refine ⟨_, _, true, by rw [s3]; cases up <;> rfl, by omega, by omega, by omega, ?_, ?_⟩
      all_goals
        have e2 := pw_add (e := F - 1) (f := s) (by omega) (by omega)
        rw [Int.toNat_natCast] at e2
        rw [e2]
        obtain ⟨m, hm⟩ : ∃ m, (2 * S + 1) / 2 ^ s = m := ⟨_, rfl⟩
        rw [hm] at s4 s5 s6 s7 ⊢
        have pf := pw_pos (F - 1)
      · rw [if_pos rfl]
        have a1 : (m : Int) * (pw (F - 1) * 2 ^ s) = ((2 ^ s * m : Nat) : Int) * pw (F - 1) := by push_cast; grind
        have a2 : ((2 ^ s * m : Nat) : Int) * pw (F - 1) ≤ S * pw F := by
          have : ((2 ^ s * m : Nat) : Int) * pw (F - 1) ≤ ((2 * S : Nat) : Int) * pw (F - 1) := Int.mul_le_mul_of_nonneg_right (by omega) (Int.le_of_lt pf)
          rw [eF]
          have : ((2 * S : Nat) : Int) * pw (F - 1) = S * (pw (F - 1) * 2) := by push_cast; grind
          omega
        rw [a1]
        refine Int.lt_of_le_of_lt (sq_le_sq (Int.mul_nonneg (by omega) (Int.le_of_lt pf)) a2) ?_
        rw [sq0, eT]
        have : S * S < K := by omega
        exact Int.mul_lt_mul_of_pos_right (by exact_mod_cast this) PP
      · have a1 : ((m : Int) + 1) * (pw (F - 1) * 2 ^ s) = ((2 ^ s * m + 2 ^ s : Nat) : Int) * pw (F - 1) := by push_cast; grind
        have a2 : ((S : Int) + 1) * pw F ≤ ((2 ^ s * m + 2 ^ s : Nat) : Int) * pw (F - 1) := by
          have : ((2 * S + 2 : Nat) : Int) * pw (F - 1) ≤ ((2 ^ s * m + 2 ^ s : Nat) : Int) * pw (F - 1) := Int.mul_le_mul_of_nonneg_right (by omega) (Int.le_of_lt pf)
          rw [eF]
          have : ((2 * S + 2 : Nat) : Int) * pw (F - 1) = (S + 1) * (pw (F - 1) * 2) := by push_cast; grind
          omega
        rw [a1]
        exact Int.lt_of_lt_of_le top (sq_le_sq (Int.mul_nonneg (by omega) (Int.le_of_lt P0)) a2)
  obtain ⟨m, f, cut', r1, r2, r3, r4, r5, r6⟩ := form
  have u := norm_uniq (T := a.W * pw 0) n1 n2 r2 r3 (by omega) r4 (by split at c1 <;> omega) c2 (by split at r5 <;> omega) r6
  rw [r1, er, ← u.1, ← u.2]
  rw [← u.1, ← u.2] at r5
  have : cut' = cut := by cases cut <;> cases cut' <;> simp at c1 r5 ⊢ <;> omega
  rw [this]

def Num.rroot (x : Num) (up : Bool) : Num × Bool :=
  if x.fair.kind = 0 ∨ (x.fair.kind = 2 ∧ x.fair.neg = false) then (x.fair, true) else if x.fair.neg = true then (Num.zero, false) else (Num.rrootF x.fair up, true)
theorem rroot_eq {x : Num} (ox : x.ok) (up : Bool) : Num.rroot x up = Num.root x up := by
  unfold Num.rroot Num.root
  rcases Num.may3 x.fair_may (Num.fair_ok ox) with h | h | h
  · have k : x.fair.kind = 0 := by rw [h]; rfl
    rw [if_pos (.inl k), if_neg (fun q => q.1 k), if_pos (by omega)]
  · have k := h.kind
    rw [if_neg (by omega)]
    cases hn : x.fair.neg
    · rw [if_neg (by decide), if_neg (by simp), if_neg (by omega), rrootF_eq h]
    · rw [if_pos rfl, if_pos ⟨by omega, rfl⟩]
  · have k : x.fair.kind = 2 := by rw [h]; rfl
    cases hn : x.fair.neg
    · rw [if_pos (.inr ⟨k, rfl⟩), if_neg (by simp), if_pos (by omega)]
    · rw [if_neg (by simp; omega), if_pos rfl, if_pos ⟨by omega, rfl⟩]
/-- the root's cases -/
structure RootC (a : Num) (up : Bool) (r : Num × Bool) : Prop where
  k0 : a.kind = 0 → r = (a, true)
  pinf : a.kind = 2 → a.neg = false → r = (a, true)
  ng : ¬ a.kind = 0 → a.neg = true → r = (Num.zero, false)
  fin : ¬ a.kind = 0 → ¬ a.kind = 2 → a.neg = false → a.Fin ∧ r = (Num.rrootF a up, true)
theorem rroot_c {x : Num} (ox : x.ok) {up : Bool} {r : Num × Bool} (h : Num.rroot x up = r) : RootC x.fair up r := by
  constructor
  · intro k; rw [← h]; unfold Num.rroot; rw [if_pos (.inl k)]
  · intro k g; rw [← h]; unfold Num.rroot; rw [if_pos (.inr ⟨k, g⟩)]
  · intro k g; rw [← h]; unfold Num.rroot; rw [if_neg (by rintro (q | q); exact k q; rw [g] at q; cases q.2), if_pos g]
  · intro k k2 g
    refine ⟨Num.fair_fin ox k k2, ?_⟩
    rw [← h]; unfold Num.rroot; rw [if_neg (by rintro (q | q); exact k q; exact k2 q.1), if_neg (by rw [g]; decide)]
end Go.Proofs.Ytaiillbjhdoikaa.Ev

/- Contracts of the reference: the root of a number. Printed by gen.py. -/
namespace Go.Proofs.Ytaiillbjhdoikaa.Ev
open Go Go.Proofs
set_option linter.unusedVariables false
set_option linter.unusedSimpArgs false

attribute [local irreducible] Lb
theorem neq_t {a b : Int} (h : (realE Try.prog).cmp .neq a b = true) : a ≠ b := by simpa only [realE, cmp_neq, decide_eq_true_eq] using h
theorem neq_f {a b : Int} (h : (realE Try.prog).cmp .neq a b = false) : ¬ a ≠ b := by simpa only [realE, cmp_neq, decide_eq_false_iff_not] using h
theorem rootBy_is {a : Num} {X : Bool × Nat × Int} {e r : Int} (h : e = X.2.2 + a.e ∧ -1048576 ≤ e ∧ e ≤ 1048640) (hr : r = e.tmod 2) : rootBy e = if r ≠ 0 then 141 else 140 := by
  unfold rootBy
  have : r = 0 ↔ e % 2 = 0 := by
    rw [hr]
    rcases Int.le_total 0 e with h0 | h0
    · rw [Int.tmod_eq_emod_of_nonneg h0]
    · have q := Int.neg_tmod (-e) 2
      rw [Int.neg_neg] at q
      rw [q, Int.tmod_eq_emod_of_nonneg (by omega)]; omega
  by_cases k : e % 2 = 0
  · rw [if_pos k, if_neg (by simpa using this.2 k)]
  · rw [if_neg k, if_pos (fun q => k (this.1 q))]
theorem rr_e {a : Num} {p : (Bool × List Int × Int) × Bool} {e : Int} (F : a.Fin) (hn : a.neg = false) (hp : p = (dyL (Num.mk 1 false a.m 0).exact.1, (Num.mk 1 false a.m 0).exact.2)) (he : e = IntKind.i64.wrap (p.1.2.2 + a.e)) :
    Lb p.1.2.1 ∧ p.1.2.1.length ≤ 2 ∧ lv p.1.2.1 = a.unit.exact.1.2.1 ∧ a.Fin ∧ (e = a.unit.exact.1.2.2 + a.e ∧ -1048576 ≤ e ∧ e ≤ 1048640) ∧ 0 < a.unit.exact.1.2.1 := by
  have u : Num.mk 1 false a.m 0 = a.unit := by unfold Num.unit; rw [hn]
  rw [u] at hp
  have la := (exact_len (n := a.unit) ⟨F.ok.1, F.ok.2⟩).1
  obtain ⟨x1, x2, x3, x4, x5, x6, x7, x8, _⟩ := unit_fin F
  have := F.elo; have := F.ehi
  have p2 : p.1.2.2 = a.unit.exact.1.2.2 := by rw [hp]; rfl
  have p1 : p.1.2.1 = lim a.unit.exact.1.2.1 := by rw [hp]; rfl
  have e' : e = a.unit.exact.1.2.2 + a.e := by rw [he, p2, wi64]; omega
  exact ⟨by rw [p1]; exact lim_lb _, by rw [p1]; exact la, by rw [p1]; exact lv_lim _, F, ⟨e', by omega, by omega⟩, x3⟩
theorem rr_shl {l s : List Int} {b : Nat} (h : Lb l) (hl : l.length ≤ 2) (hb : 1 ≤ b ∧ b ≤ 1000) (hs : s = if (b : Int) < 1 then lim (lv l) else if 16777216 < (b : Int) then [] else lim (lv l * 2 ^ (b : Int).toNat)) :
    Lb s ∧ s.length ≤ 3000 ∧ lv s = lv l * 2 ^ b := by
  rw [if_neg (by omega), if_neg (by omega), Int.toNat_natCast] at hs
  rw [hs]
  exact ⟨lim_lb _, ratio_len h (by omega : l.length ≤ 1000) (by omega : b ≤ 33000) (Nat.le_refl _), lv_lim _⟩
theorem sqrt_le (n : Nat) : nsqrt n ≤ n := by
  have h := (nsqrt_spec n).1
  rcases Nat.eq_zero_or_pos (nsqrt n) with k | k
  · omega
  · have := Nat.mul_le_mul_left (nsqrt n) k
    omega
theorem rr_D {s : List Int} {d : List Int × Bool} (h : Lb s) (hl : s.length ≤ 3000) (hd : d = (lim (nsqrt (lv s)), decide (nsqrt (lv s) * nsqrt (lv s) = lv s))) : Lb d.1 ∧ d.1.length ≤ 3000 := by
  rw [hd]
  exact ⟨lim_lb _, Nat.le_trans (lim_len_of h (sqrt_le _)) hl⟩
theorem rr_M {s m : List Int} {d : List Int × Bool} {c : Bool} (h : Lb s) (hl : s.length ≤ 3000) (hd : d = (lim (nsqrt (lv s)), decide (nsqrt (lv s) * nsqrt (lv s) = lv s))) (hc : c = !d.2) (hm' : m = lim (2 * lv d.1 + (if c = true then 1 else 0))) :
    Lb m ∧ m.length ≤ 3001 ∧ lv m = rootM (lv s) := by
  have D := rr_D h hl hd
  have e : lv m = rootM (lv s) := by
    rw [hm', lv_lim, hc, hd]
    unfold rootM
    show 2 * lv (lim (nsqrt (lv s))) + _ = _
    rw [lv_lim]
    by_cases z : nsqrt (lv s) * nsqrt (lv s) = lv s
    · rw [if_pos z, if_neg (by simp [z])]
    · rw [if_neg z, if_pos (by simp [z])]
  refine ⟨by rw [hm']; exact lim_lb _, ?_, e⟩
  have k := D.2
  have l := lv_lt D.1
  rw [hm']
  obtain ⟨n, hn⟩ : ∃ n, n = 3000 := ⟨_, rfl⟩
  rw [← hn] at k
  have p : (4294967296 : Nat) ^ d.1.length ≤ 4294967296 ^ n := Nat.pow_le_pow_right (by decide) k
  have : 2 * lv d.1 + (if c = true then 1 else 0) < 4294967296 ^ (n + 1) := by
    rw [Nat.pow_succ]
    generalize (4294967296 : Nat) ^ n = q at p ⊢
    split <;> omega
  have := lim_length_le this
  omega
theorem rr_P {a : Num} {l s m : List Int} {b : Nat} {e f : Int} {up : Bool} {w : Bool × List Int} (A : lv l = a.unit.exact.1.2.1 ∧ a.Fin ∧ (e = a.unit.exact.1.2.2 + a.e ∧ -1048576 ≤ e ∧ e ≤ 1048640) ∧ 0 < a.unit.exact.1.2.1)
    (Y : rootBy e = b) (S : lv s = lv l * 2 ^ b) (M : Lb m ∧ m.length ≤ 3001 ∧ lv m = rootM (lv s)) (hw : w = (false && decide (lv m ≠ 0), lim (lv m))) (hf : f = IntKind.i64.wrap (IntKind.i64.wrap ((IntKind.i64.wrap (e - b)).tdiv 2) - 1)) :
    Lb w.2 ∧ w.2.length ≤ 3001 ∧ (-9223372036854775808 ≤ f ∧ f < 9223372036854775808) ∧
      (lim (dyMake w.1 (lv w.2) f).2.1).length ≤ 62500 ∧ (-9223372036854775808 ≤ (dyMake w.1 (lv w.2) f).2.2 ∧ (dyMake w.1 (lv w.2) f).2.2 < 9223372036854775808) ∧ dyRound (dyMake w.1 (lv w.2) f) up = Num.rrootF a up := by
  have bb : 140 ≤ b ∧ b ≤ 141 ∧ (e - (b : Int)) % 2 = 0 := by
    unfold rootBy at Y
    split at Y <;> omega
  have hf' : f = (e - b) / 2 - 1 := by
    have w1 : IntKind.i64.wrap (e - b) = e - b := by rw [wi64]; omega
    have d : (e - (b : Int)).tdiv 2 = (e - b) / 2 := by
      have q : e - (b : Int) = 2 * ((e - b) / 2) := by omega
      have q2 := Int.mul_tdiv_cancel_left ((e - (b : Int)) / 2) (show (2 : Int) ≠ 0 by decide)
      rw [← q] at q2; exact q2
    have w2 : IntKind.i64.wrap ((e - (b : Int)) / 2) = (e - b) / 2 := by rw [wi64]; omega
    rw [hf, w1, d, w2, wi64]; omega
  have hl : (lim (lv m)).length ≤ 3001 := Nat.le_trans (lim_len_of M.1 (Nat.le_refl _)) M.2.1
  have w2 : w.2 = lim (lv m) := by rw [hw]
  have w1 : w.1 = false := by rw [hw]; rfl
  have r := dyMake_rng w.1 (lv w.2) f
  refine ⟨by rw [w2]; exact lim_lb _, by rw [w2]; exact hl, by omega, ?_, by omega, ?_⟩
  · rw [w2, lv_lim] at r ⊢
    have := lim_len_of M.1 (k := (dyMake w.1 (lv m) f).2.1) r.2.2
    have := M.2.1
    omega
  · unfold Num.rrootF
    rw [w2, lv_lim, w1, M.2.2, hf', S, A.1, ← A.2.2.1.1, Y]
set_option maxRecDepth 10000 in
theorem c_r7Root (x : Num) (up : Bool) (ox : x.ok) : ∃ t : Num × Bool, t = Num.root x up ∧ CallsA Try.prog 25 [x.av, .bool (.s up)] (.tup [(t.1).av, .bool (.s t.2)]) := by
  rw [← rroot_eq ox]
  refine ⟨_, rfl, ?_⟩
  generalize hr : Num.rroot x up = r
  have C := rroot_c ox hr
  clear hr
  refine callsA_of hG hm Try.func25 (by kernel_rfl) ?_
  intro E hE lp hl'
  cbv
  (apply E_callX hE (c_r6Fair ⟨_, _, _, _⟩); (case hf => rfl); (case hc => (cbv <;> trivial)); (case hle => exact u_up); all_goals (first | (intro a ha; cbv) | (assumption)))
  replace ha : a = x.fair := ha
  rw [← ha] at C
  refine E_br hE (fun g1 => ?_) (fun g1 => ?_) <;> cbv
  · rw [C.k0 (by subst hE; exact eql_t g1)]; exact ⟨⟨rfl, rfl, rfl, rfl, trivial⟩, rfl, trivial⟩
  have k0 : ¬ a.kind = 0 := by subst hE; exact eql_f g1
  refine E_br hE (fun g2 => ?_) (fun g2 => ?_) <;> cbv
  · have k2 : a.kind = 2 := by subst hE; exact eql_t g2
    refine E_br hE (fun g3 => ?_) (fun g3 => ?_) <;> cbv
    · rw [C.pinf k2 (by subst hE; have k : (!a.neg) = true := g3; simpa using k)]; exact ⟨⟨rfl, rfl, rfl, rfl, trivial⟩, rfl, trivial⟩
    · have nt : a.neg = true := by subst hE; have k : (!a.neg) = false := g3; simpa using k
      refine E_br_t hE nt ?_
      cbv
      rw [C.ng k0 nt]; exact ⟨⟨rfl, rfl, rfl, rfl, trivial⟩, rfl, trivial⟩
  have k2 : ¬ a.kind = 2 := by subst hE; exact eql_f g2
  refine E_br hE (fun g3 => ?_) (fun g3 => ?_) <;> cbv
  · rw [C.ng k0 g3]; exact ⟨⟨rfl, rfl, rfl, rfl, trivial⟩, rfl, trivial⟩
  have F := C.fin k0 k2 g3
  clear C
  (apply E_callX hE (c_rExact ⟨_, false, _, _⟩ ?_); (case hf => rfl); (case hc => (cbv <;> trivial)); (case hle => exact u_up); all_goals (first | (intro p hp; cbv) | (exact ⟨F.1.ok.1, F.1.ok.2⟩)))
  refine E_nm hE (fun e he => ?_)
  have A := rr_e F.1 g3 hp (by subst hE; exact he)
  clear hp he
  cbv
  refine E_br hE (fun g5 => ?_) (fun g5 => ?_) <;> cbv
  · have Y : rootBy e = 141 := by rw [rootBy_is A.2.2.2.2.1 (by subst hE; rfl), if_pos (by subst hE; exact neq_t g5)]
    (apply E_callX hE (c_rShl _ 141 A.1 ?_); (case hf => rfl); (case hc => (cbv <;> trivial)); (case hle => exact u_up); all_goals (first | (intro s hs; cbv) | (exact Nat.lt_of_le_of_lt A.2.1 (by decide))))
    have S := rr_shl (b := 141) A.1 A.2.1 (by decide) hs
    clear hs
    (apply E_callX hE (c_rRoot _ S.1 ?_); (case hf => rfl); (case hc => (cbv <;> trivial)); (case hle => exact u_up); all_goals (first | (intro d hd; cbv) | (exact Nat.le_trans S.2.1 (by decide))))
    have D := rr_D S.1 S.2.1 hd
    (apply E_callX hE (c_r7sticky _ _ D.1 ?_); (case hf => rfl); (case hc => (cbv <;> trivial)); (case hle => exact u_up); all_goals (first | (intro m hm_; cbv) | (exact Nat.le_trans D.2 (by decide))))
    have M := rr_M (c := E.bnot d.2) S.1 S.2.1 hd (by subst hE; rfl) hm_
    clear hm_ hd D
    (apply E_callX hE (c_r2Make false _ M.1 ?_); (case hf => rfl); (case hc => (cbv <;> trivial)); (case hle => exact u_up); all_goals (first | (intro w hw; cbv) | (exact Nat.le_trans M.2.1 (by decide))))
    have P := rr_P (up := up) (f := E.bin .sub .i64 (E.bin .quo .i64 (E.bin .sub .i64 e 141) 2) 1) A.2.2 Y S.2.2 M hw (by subst hE; rfl)
    clear hw
    (apply E_callX hE (k_r3Make _ _ _ P.1 ?_ ?_); (case hf => rfl); (case hc => (cbv <;> trivial)); (case hle => exact u_up); all_goals (first | (intro y hy; cbv) | (first | exact Nat.le_trans P.2.1 (by decide) | exact P.2.2.1)))
    (apply E_callX hE (k_rRound (dyMake w.1 (lv w.2) (E.bin .sub .i64 (E.bin .quo .i64 (E.bin .sub .i64 e 141) 2) 1)) up P.2.2.2.1 P.2.2.2.2.1 ⟨_, _, _⟩ ?_); (case hf => rfl); (case hc => (cbv <;> trivial)); (case hle => exact u_up); all_goals (first | (intro t ht; cbv) | (exact hy)))
    have T : (t, true) = r := by rw [show t = Num.rrootF a up from ht.trans P.2.2.2.2.2]; exact F.2.symm
    rw [← T]; exact ⟨⟨rfl, rfl, rfl, rfl, trivial⟩, rfl, trivial⟩
  · have Y : rootBy e = 140 := by rw [rootBy_is A.2.2.2.2.1 (by subst hE; rfl), if_neg (by subst hE; exact neq_f g5)]
    (apply E_callX hE (c_rShl _ 140 A.1 ?_); (case hf => rfl); (case hc => (cbv <;> trivial)); (case hle => exact u_up); all_goals (first | (intro s hs; cbv) | (exact Nat.lt_of_le_of_lt A.2.1 (by decide))))
    have S := rr_shl (b := 140) A.1 A.2.1 (by decide) hs
    clear hs
    (apply E_callX hE (c_rRoot _ S.1 ?_); (case hf => rfl); (case hc => (cbv <;> trivial)); (case hle => exact u_up); all_goals (first | (intro d hd; cbv) | (exact Nat.le_trans S.2.1 (by decide))))
    have D := rr_D S.1 S.2.1 hd
    (apply E_callX hE (c_r7sticky _ _ D.1 ?_); (case hf => rfl); (case hc => (cbv <;> trivial)); (case hle => exact u_up); all_goals (first | (intro m hm_; cbv) | (exact Nat.le_trans D.2 (by decide))))
    have M := rr_M (c := E.bnot d.2) S.1 S.2.1 hd (by subst hE; rfl) hm_
    clear hm_ hd D
    (apply E_callX hE (c_r2Make false _ M.1 ?_); (case hf => rfl); (case hc => (cbv <;> trivial)); (case hle => exact u_up); all_goals (first | (intro w hw; cbv) | (exact Nat.le_trans M.2.1 (by decide))))
    have P := rr_P (up := up) (f := E.bin .sub .i64 (E.bin .quo .i64 (E.bin .sub .i64 e 140) 2) 1) A.2.2 Y S.2.2 M hw (by subst hE; rfl)
    clear hw
    (apply E_callX hE (k_r3Make _ _ _ P.1 ?_ ?_); (case hf => rfl); (case hc => (cbv <;> trivial)); (case hle => exact u_up); all_goals (first | (intro y hy; cbv) | (first | exact Nat.le_trans P.2.1 (by decide) | exact P.2.2.1)))
    (apply E_callX hE (k_rRound (dyMake w.1 (lv w.2) (E.bin .sub .i64 (E.bin .quo .i64 (E.bin .sub .i64 e 140) 2) 1)) up P.2.2.2.1 P.2.2.2.2.1 ⟨_, _, _⟩ ?_); (case hf => rfl); (case hc => (cbv <;> trivial)); (case hle => exact u_up); all_goals (first | (intro t ht; cbv) | (exact hy)))
    have T : (t, true) = r := by rw [show t = Num.rrootF a up from ht.trans P.2.2.2.2.2]; exact F.2.symm
    rw [← T]; exact ⟨⟨rfl, rfl, rfl, rfl, trivial⟩, rfl, trivial⟩


end Go.Proofs.Ytaiillbjhdoikaa.Ev

/- Contracts of the laws of quotients and roots. Printed by gen.py. -/
namespace Go.Proofs.Ytaiillbjhdoikaa.Ev
open Go Go.Proofs
set_option linter.unusedVariables false
set_option linter.unusedSimpArgs false

attribute [local irreducible] Lb whN
set_option maxHeartbeats 1000000 in
theorem c_QuotDivs (a b : Num) (up : Bool) (oa : a.ok) (ob : b.ok) : ∃ t : Bool, t = true ∧ CallsA Try.prog 5 [a.av, b.av, .bool (.s up)] (.bool (.s t)) := by
  refine ⟨_, rfl, ?_⟩
  have m := Num.div_may oa ob up
  refine callsA_of hG hm Try.func5 (by kernel_rfl) ?_
  intro E hE lp hl'
  cbv
  (first | (apply E_pcallX hE (c_awake07); (case hm => rfl); (case hle => (repeat' (first | exact u_nil | apply u_cons | apply u2_agg | exact u2_int | exact u1_int | exact u2_bool | exact u1_bool | exact u2_sli | exact u1_sli | exact u2_s0 | exact u1_s0))); all_goals (first | (intro lv_ hlv; cbv) | (assumption))) | (apply E_callX hE (c_awake07); (case hf => rfl); (case hc => (cbv <;> trivial)); (case hle => (repeat' (first | exact u_nil | apply u_cons | apply u2_agg | exact u2_int | exact u1_int | exact u2_bool | exact u1_bool | exact u2_sli | exact u1_sli | exact u2_s0 | exact u1_s0))); all_goals (first | (intro lv_ hlv; cbv) | (assumption))))
  (first | (apply E_pcallX hE (c_quDiv ⟨_, _, _, _⟩ ⟨_, _, _, _⟩ _ ?_ ?_); (case hm => rfl); (case hle => (repeat' (first | exact u_nil | apply u_cons | apply u2_agg | exact u2_int | exact u1_int | exact u2_bool | exact u1_bool | exact u2_sli | exact u1_sli | exact u2_s0 | exact u1_s0))); all_goals (first | (intro x hx; cbv) | (first | exact oa | exact ob))) | (apply E_callX hE (c_quDiv ⟨_, _, _, _⟩ ⟨_, _, _, _⟩ _ ?_ ?_); (case hf => rfl); (case hc => (cbv <;> trivial)); (case hle => (repeat' (first | exact u_nil | apply u_cons | apply u2_agg | exact u2_int | exact u1_int | exact u2_bool | exact u1_bool | exact u2_sli | exact u1_sli | exact u2_s0 | exact u1_s0))); all_goals (first | (intro x hx; cbv) | (first | exact oa | exact ob))))
  refine E_br_t hE hlv ?_; cbv
  (first | (apply E_pcallX hE (c_r7Div ⟨_, _, _, _⟩ ⟨_, _, _, _⟩ _ ?_ ?_); (case hm => rfl); (case hle => (repeat' (first | exact u_nil | apply u_cons | apply u2_agg | exact u2_int | exact u1_int | exact u2_bool | exact u1_bool | exact u2_sli | exact u1_sli | exact u2_s0 | exact u1_s0))); all_goals (first | (intro y hy; cbv) | (first | exact oa | exact ob))) | (apply E_callX hE (c_r7Div ⟨_, _, _, _⟩ ⟨_, _, _, _⟩ _ ?_ ?_); (case hf => rfl); (case hc => (cbv <;> trivial)); (case hle => (repeat' (first | exact u_nil | apply u_cons | apply u2_agg | exact u2_int | exact u1_int | exact u2_bool | exact u1_bool | exact u2_sli | exact u1_sli | exact u2_s0 | exact u1_s0))); all_goals (first | (intro y hy; cbv) | (first | exact oa | exact ob))))
  have hx : x = Num.div a b up := hx
  have hy : y = Num.div a b up := hy
  refine E_br_t hE (num_eq_t hE x y (by rw [hx, hy])) ?_; cbv
  (first | (apply E_pcallX hE (c_May ⟨_, _, _, _⟩); (case hm => rfl); (case hle => (repeat' (first | exact u_nil | apply u_cons | apply u2_agg | exact u2_int | exact u1_int | exact u2_bool | exact u1_bool | exact u2_sli | exact u1_sli | exact u2_s0 | exact u1_s0))); all_goals (first | (intro t ht; cbv) | (assumption))) | (apply E_callX hE (c_May ⟨_, _, _, _⟩); (case hf => rfl); (case hc => (cbv <;> trivial)); (case hle => (repeat' (first | exact u_nil | apply u_cons | apply u2_agg | exact u2_int | exact u1_int | exact u2_bool | exact u1_bool | exact u2_sli | exact u1_sli | exact u2_s0 | exact u1_s0))); all_goals (first | (intro t ht; cbv) | (assumption))))
  have k : t = x.may := ht
  rw [k, hx]; exact m

set_option maxHeartbeats 1000000 in
theorem c_QuotRoots (a : Num) (up : Bool) (oa : a.ok) : ∃ t : Bool, t = true ∧ CallsA Try.prog 6 [a.av, .bool (.s up)] (.bool (.s t)) := by
  refine ⟨_, rfl, ?_⟩
  have m := Num.root_may_all oa up
  refine callsA_of hG hm Try.func6 (by kernel_rfl) ?_
  intro E hE lp hl'
  cbv
  (first | (apply E_pcallX hE (c_awake07); (case hm => rfl); (case hle => (repeat' (first | exact u_nil | apply u_cons | apply u2_agg | exact u2_int | exact u1_int | exact u2_bool | exact u1_bool | exact u2_sli | exact u1_sli | exact u2_s0 | exact u1_s0))); all_goals (first | (intro lv_ hlv; cbv) | (assumption))) | (apply E_callX hE (c_awake07); (case hf => rfl); (case hc => (cbv <;> trivial)); (case hle => (repeat' (first | exact u_nil | apply u_cons | apply u2_agg | exact u2_int | exact u1_int | exact u2_bool | exact u1_bool | exact u2_sli | exact u1_sli | exact u2_s0 | exact u1_s0))); all_goals (first | (intro lv_ hlv; cbv) | (assumption))))
  (first | (apply E_pcallX hE (c_quRoot ⟨_, _, _, _⟩ _ ?_); (case hm => rfl); (case hle => (repeat' (first | exact u_nil | apply u_cons | apply u2_agg | exact u2_int | exact u1_int | exact u2_bool | exact u1_bool | exact u2_sli | exact u1_sli | exact u2_s0 | exact u1_s0))); all_goals (first | (intro x hx; cbv) | (exact oa))) | (apply E_callX hE (c_quRoot ⟨_, _, _, _⟩ _ ?_); (case hf => rfl); (case hc => (cbv <;> trivial)); (case hle => (repeat' (first | exact u_nil | apply u_cons | apply u2_agg | exact u2_int | exact u1_int | exact u2_bool | exact u1_bool | exact u2_sli | exact u1_sli | exact u2_s0 | exact u1_s0))); all_goals (first | (intro x hx; cbv) | (exact oa))))
  (first | (apply E_pcallX hE (c_r7Root ⟨_, _, _, _⟩ _ ?_); (case hm => rfl); (case hle => (repeat' (first | exact u_nil | apply u_cons | apply u2_agg | exact u2_int | exact u1_int | exact u2_bool | exact u1_bool | exact u2_sli | exact u1_sli | exact u2_s0 | exact u1_s0))); all_goals (first | (intro y hy; cbv) | (exact oa))) | (apply E_callX hE (c_r7Root ⟨_, _, _, _⟩ _ ?_); (case hf => rfl); (case hc => (cbv <;> trivial)); (case hle => (repeat' (first | exact u_nil | apply u_cons | apply u2_agg | exact u2_int | exact u1_int | exact u2_bool | exact u1_bool | exact u2_sli | exact u1_sli | exact u2_s0 | exact u1_s0))); all_goals (first | (intro y hy; cbv) | (exact oa))))
  have hx : x = Num.root a up := hx
  have hy : y = Num.root a up := hy
  refine E_br_t hE hlv ?_; cbv
  refine E_br_t hE (num_eq_t hE x.1 y.1 (by rw [hx, hy])) ?_; cbv
  have e2 : E.beq x.2 y.2 = true := by rw [hx, hy]; subst hE; exact beq_self_eq_true _
  refine E_br_t hE e2 ?_; cbv
  (first | (apply E_pcallX hE (c_May ⟨_, _, _, _⟩); (case hm => rfl); (case hle => (repeat' (first | exact u_nil | apply u_cons | apply u2_agg | exact u2_int | exact u1_int | exact u2_bool | exact u1_bool | exact u2_sli | exact u1_sli | exact u2_s0 | exact u1_s0))); all_goals (first | (intro t ht; cbv) | (assumption))) | (apply E_callX hE (c_May ⟨_, _, _, _⟩); (case hf => rfl); (case hc => (cbv <;> trivial)); (case hle => (repeat' (first | exact u_nil | apply u_cons | apply u2_agg | exact u2_int | exact u1_int | exact u2_bool | exact u1_bool | exact u2_sli | exact u1_sli | exact u2_s0 | exact u1_s0))); all_goals (first | (intro t ht; cbv) | (assumption))))
  have k : t = x.1.may := ht
  rw [k, hx]; exact m

set_option maxHeartbeats 2000000 in
theorem c_QuotTurns (a b : Num) (up : Bool) (oa : a.ok) (ob : b.ok) : ∃ t : Bool, t = true ∧ CallsA Try.prog 9 [a.av, b.av, .bool (.s up)] (.bool (.s t)) := by
  refine ⟨_, rfl, ?_⟩
  have law : b.sign ≠ 0 → (Num.div a.opp b (!up)).opp = Num.div a b up ∧ Num.div a.opp b.opp up = Num.div a b up := by
    intro h
    exact div_turns oa ob (fun z => h (by unfold Num.sign; rw [if_pos z])) up
  have oo : ∀ {n : Num}, n.ok → n.opp.ok := fun {n} h => Num.fair_ok h
  refine callsA_of hG hm Try.func9 (by kernel_rfl) ?_
  intro E hE lp hl'
  cbv
  (first | (apply E_pcallX hE (c_awake07); (case hm => rfl); (case hle => (repeat' (first | exact u_nil | apply u_cons | apply u2_agg | exact u2_int | exact u1_int | exact u2_bool | exact u1_bool | exact u2_sli | exact u1_sli | exact u2_s0 | exact u1_s0))); all_goals (first | (intro lv_ hlv; cbv) | (assumption))) | (apply E_callX hE (c_awake07); (case hf => rfl); (case hc => (cbv <;> trivial)); (case hle => (repeat' (first | exact u_nil | apply u_cons | apply u2_agg | exact u2_int | exact u1_int | exact u2_bool | exact u1_bool | exact u2_sli | exact u1_sli | exact u2_s0 | exact u1_s0))); all_goals (first | (intro lv_ hlv; cbv) | (assumption))))
  (first | (apply E_pcallX hE (c_Sign ⟨_, _, _, _⟩); (case hm => rfl); (case hle => (repeat' (first | exact u_nil | apply u_cons | apply u2_agg | exact u2_int | exact u1_int | exact u2_bool | exact u1_bool | exact u2_sli | exact u1_sli | exact u2_s0 | exact u1_s0))); all_goals (first | (intro s hs; cbv) | (assumption))) | (apply E_callX hE (c_Sign ⟨_, _, _, _⟩); (case hf => rfl); (case hc => (cbv <;> trivial)); (case hle => (repeat' (first | exact u_nil | apply u_cons | apply u2_agg | exact u2_int | exact u1_int | exact u2_bool | exact u1_bool | exact u2_sli | exact u1_sli | exact u2_s0 | exact u1_s0))); all_goals (first | (intro s hs; cbv) | (assumption))))
  refine E_br hE (fun g => ?_) (fun g => ?_) <;> cbv
  · exact hlv
  have hs : s = b.sign := hs
  have g : b.sign ≠ 0 := by rw [← hs]; subst hE; exact eql_f g
  obtain ⟨law1, law2⟩ := law g
  (first | (apply E_pcallX hE (c_quDiv ⟨_, _, _, _⟩ ⟨_, _, _, _⟩ _ ?_ ?_); (case hm => rfl); (case hle => (repeat' (first | exact u_nil | apply u_cons | apply u2_agg | exact u2_int | exact u1_int | exact u2_bool | exact u1_bool | exact u2_sli | exact u1_sli | exact u2_s0 | exact u1_s0))); all_goals (first | (intro x hx; cbv) | (first | exact oa | exact ob))) | (apply E_callX hE (c_quDiv ⟨_, _, _, _⟩ ⟨_, _, _, _⟩ _ ?_ ?_); (case hf => rfl); (case hc => (cbv <;> trivial)); (case hle => (repeat' (first | exact u_nil | apply u_cons | apply u2_agg | exact u2_int | exact u1_int | exact u2_bool | exact u1_bool | exact u2_sli | exact u1_sli | exact u2_s0 | exact u1_s0))); all_goals (first | (intro x hx; cbv) | (first | exact oa | exact ob))))
  have hx : x = Num.div a b up := hx
  refine E_br_t hE hlv ?_; cbv
  (first | (apply E_pcallX hE (c_Neg ⟨_, _, _, _⟩); (case hm => rfl); (case hle => (repeat' (first | exact u_nil | apply u_cons | apply u2_agg | exact u2_int | exact u1_int | exact u2_bool | exact u1_bool | exact u2_sli | exact u1_sli | exact u2_s0 | exact u1_s0))); all_goals (first | (intro p hp; cbv) | (assumption))) | (apply E_callX hE (c_Neg ⟨_, _, _, _⟩); (case hf => rfl); (case hc => (cbv <;> trivial)); (case hle => (repeat' (first | exact u_nil | apply u_cons | apply u2_agg | exact u2_int | exact u1_int | exact u2_bool | exact u1_bool | exact u2_sli | exact u1_sli | exact u2_s0 | exact u1_s0))); all_goals (first | (intro p hp; cbv) | (assumption))))
  have hp : p = a.opp := hp
  have op : p.ok := by rw [hp]; exact oo oa
  (first | (apply E_pcallX hE (c_quDiv ⟨_, _, _, _⟩ ⟨_, _, _, _⟩ _ ?_ ?_); (case hm => rfl); (case hle => (repeat' (first | exact u_nil | apply u_cons | apply u2_agg | exact u2_int | exact u1_int | exact u2_bool | exact u1_bool | exact u2_sli | exact u1_sli | exact u2_s0 | exact u1_s0))); all_goals (first | (intro q hq; cbv) | (first | exact op | exact ob))) | (apply E_callX hE (c_quDiv ⟨_, _, _, _⟩ ⟨_, _, _, _⟩ _ ?_ ?_); (case hf => rfl); (case hc => (cbv <;> trivial)); (case hle => (repeat' (first | exact u_nil | apply u_cons | apply u2_agg | exact u2_int | exact u1_int | exact u2_bool | exact u1_bool | exact u2_sli | exact u1_sli | exact u2_s0 | exact u1_s0))); all_goals (first | (intro q hq; cbv) | (first | exact op | exact ob))))
  (first | (apply E_pcallX hE (c_Neg ⟨_, _, _, _⟩); (case hm => rfl); (case hle => (repeat' (first | exact u_nil | apply u_cons | apply u2_agg | exact u2_int | exact u1_int | exact u2_bool | exact u1_bool | exact u2_sli | exact u1_sli | exact u2_s0 | exact u1_s0))); all_goals (first | (intro r hr; cbv) | (assumption))) | (apply E_callX hE (c_Neg ⟨_, _, _, _⟩); (case hf => rfl); (case hc => (cbv <;> trivial)); (case hle => (repeat' (first | exact u_nil | apply u_cons | apply u2_agg | exact u2_int | exact u1_int | exact u2_bool | exact u1_bool | exact u2_sli | exact u1_sli | exact u2_s0 | exact u1_s0))); all_goals (first | (intro r hr; cbv) | (assumption))))
  have er : x = r := by
    have k1 : q = Num.div p b (E.bnot up) := hq
    have k2 : r = q.opp := hr
    have k3 : E.bnot up = !up := by subst hE; rfl
    rw [k2, k1, hp, k3, law1, hx]
  refine E_br_t hE (num_eq_t hE x r er) ?_; cbv
  (first | (apply E_pcallX hE (c_Neg ⟨_, _, _, _⟩); (case hm => rfl); (case hle => (repeat' (first | exact u_nil | apply u_cons | apply u2_agg | exact u2_int | exact u1_int | exact u2_bool | exact u1_bool | exact u2_sli | exact u1_sli | exact u2_s0 | exact u1_s0))); all_goals (first | (intro p2 hp2; cbv) | (assumption))) | (apply E_callX hE (c_Neg ⟨_, _, _, _⟩); (case hf => rfl); (case hc => (cbv <;> trivial)); (case hle => (repeat' (first | exact u_nil | apply u_cons | apply u2_agg | exact u2_int | exact u1_int | exact u2_bool | exact u1_bool | exact u2_sli | exact u1_sli | exact u2_s0 | exact u1_s0))); all_goals (first | (intro p2 hp2; cbv) | (assumption))))
  have hp2 : p2 = a.opp := hp2
  have op2 : p2.ok := by rw [hp2]; exact oo oa
  (first | (apply E_pcallX hE (c_Neg ⟨_, _, _, _⟩); (case hm => rfl); (case hle => (repeat' (first | exact u_nil | apply u_cons | apply u2_agg | exact u2_int | exact u1_int | exact u2_bool | exact u1_bool | exact u2_sli | exact u1_sli | exact u2_s0 | exact u1_s0))); all_goals (first | (intro p3 hp3; cbv) | (assumption))) | (apply E_callX hE (c_Neg ⟨_, _, _, _⟩); (case hf => rfl); (case hc => (cbv <;> trivial)); (case hle => (repeat' (first | exact u_nil | apply u_cons | apply u2_agg | exact u2_int | exact u1_int | exact u2_bool | exact u1_bool | exact u2_sli | exact u1_sli | exact u2_s0 | exact u1_s0))); all_goals (first | (intro p3 hp3; cbv) | (assumption))))
  have hp3 : p3 = b.opp := hp3
  have op3 : p3.ok := by rw [hp3]; exact oo ob
  (first | (apply E_pcallX hE (c_quDiv ⟨_, _, _, _⟩ ⟨_, _, _, _⟩ _ ?_ ?_); (case hm => rfl); (case hle => (repeat' (first | exact u_nil | apply u_cons | apply u2_agg | exact u2_int | exact u1_int | exact u2_bool | exact u1_bool | exact u2_sli | exact u1_sli | exact u2_s0 | exact u1_s0))); all_goals (first | (intro u hu; cbv) | (first | exact op2 | exact op3))) | (apply E_callX hE (c_quDiv ⟨_, _, _, _⟩ ⟨_, _, _, _⟩ _ ?_ ?_); (case hf => rfl); (case hc => (cbv <;> trivial)); (case hle => (repeat' (first | exact u_nil | apply u_cons | apply u2_agg | exact u2_int | exact u1_int | exact u2_bool | exact u1_bool | exact u2_sli | exact u1_sli | exact u2_s0 | exact u1_s0))); all_goals (first | (intro u hu; cbv) | (first | exact op2 | exact op3))))
  have eu : x = u := by
    have k1 : u = Num.div p2 p3 up := hu
    rw [k1, hp2, hp3, law2, hx]
  refine E_br_t hE (num_eq_t hE x u eu) ?_; cbv
  (first | (apply E_pcallX hE (c_Sign ⟨_, _, _, _⟩); (case hm => rfl); (case hle => (repeat' (first | exact u_nil | apply u_cons | apply u2_agg | exact u2_int | exact u1_int | exact u2_bool | exact u1_bool | exact u2_sli | exact u1_sli | exact u2_s0 | exact u1_s0))); all_goals (first | (intro s1 hs1; cbv) | (assumption))) | (apply E_callX hE (c_Sign ⟨_, _, _, _⟩); (case hf => rfl); (case hc => (cbv <;> trivial)); (case hle => (repeat' (first | exact u_nil | apply u_cons | apply u2_agg | exact u2_int | exact u1_int | exact u2_bool | exact u1_bool | exact u2_sli | exact u1_sli | exact u2_s0 | exact u1_s0))); all_goals (first | (intro s1 hs1; cbv) | (assumption))))
  (first | (apply E_pcallX hE (c_quDiv ⟨_, _, _, _⟩ ⟨_, _, _, _⟩ _ ?_ ?_); (case hm => rfl); (case hle => (repeat' (first | exact u_nil | apply u_cons | apply u2_agg | exact u2_int | exact u1_int | exact u2_bool | exact u1_bool | exact u2_sli | exact u1_sli | exact u2_s0 | exact u1_s0))); all_goals (first | (intro w hw; cbv) | (first | exact oa | exact ob))) | (apply E_callX hE (c_quDiv ⟨_, _, _, _⟩ ⟨_, _, _, _⟩ _ ?_ ?_); (case hf => rfl); (case hc => (cbv <;> trivial)); (case hle => (repeat' (first | exact u_nil | apply u_cons | apply u2_agg | exact u2_int | exact u1_int | exact u2_bool | exact u1_bool | exact u2_sli | exact u1_sli | exact u2_s0 | exact u1_s0))); all_goals (first | (intro w hw; cbv) | (first | exact oa | exact ob))))
  (first | (apply E_pcallX hE (c_Sign ⟨_, _, _, _⟩); (case hm => rfl); (case hle => (repeat' (first | exact u_nil | apply u_cons | apply u2_agg | exact u2_int | exact u1_int | exact u2_bool | exact u1_bool | exact u2_sli | exact u1_sli | exact u2_s0 | exact u1_s0))); all_goals (first | (intro s2 hs2; cbv) | (assumption))) | (apply E_callX hE (c_Sign ⟨_, _, _, _⟩); (case hf => rfl); (case hc => (cbv <;> trivial)); (case hle => (repeat' (first | exact u_nil | apply u_cons | apply u2_agg | exact u2_int | exact u1_int | exact u2_bool | exact u1_bool | exact u2_sli | exact u1_sli | exact u2_s0 | exact u1_s0))); all_goals (first | (intro s2 hs2; cbv) | (assumption))))
  have k : s1 = s2 := by
    have k1 : s1 = x.sign := hs1
    have k2 : s2 = w.sign := hs2
    have k3 : w = Num.div a b up := hw
    rw [k1, k2, k3, hx]
  rw [k]; subst hE; exact (cmp_eql s2 s2).trans (decide_eq_true rfl)

set_option maxHeartbeats 2000000 in
theorem c_QuotUnits (a : Num) (n : Int) (up : Bool) (oa : a.ok) (h1 : -9223372036854775808 ≤ n) (h2 : n < 9223372036854775808) : ∃ t : Bool, t = true ∧ CallsA Try.prog 8 [a.av, .int .i64 (.s n), .bool (.s up)] (.bool (.s t)) := by
  refine ⟨_, rfl, ?_⟩
  have law1 : a.may = true → Num.div a (Num.ofInt 1) up = a := fun m => div_one m oa up
  have law2 : a.may = true → a.kind = 1 → Num.div a a up = Num.ofInt 1 := fun m k => div_self m oa k up
  have law3 : 0 ≤ n → n ≤ 1000000000 → IntKind.i64.wrap (n * n) = n * n ∧ -9223372036854775808 ≤ n * n ∧ n * n < 9223372036854775808 ∧ Num.root (Num.ofInt (n * n)) up = (Num.ofInt n, true) := by
    intro g1 g2
    have hsq : n * n ≤ 1000000000 * 1000000000 := Int.mul_le_mul g2 g2 g1 (by decide)
    have hsq0 : 0 ≤ n * n := Int.mul_nonneg g1 g1
    exact ⟨wi64_in (by omega) (by omega), by omega, by omega, root_sq g1 g2 up⟩
  refine callsA_of hG hm Try.func8 (by kernel_rfl) ?_
  intro E hE lp hl'
  cbv
  (first | (apply E_pcallX hE (c_awake07); (case hm => rfl); (case hle => (repeat' (first | exact u_nil | apply u_cons | apply u2_agg | exact u2_int | exact u1_int | exact u2_bool | exact u1_bool | exact u2_sli | exact u1_sli | exact u2_s0 | exact u1_s0))); all_goals (first | (intro lv_ hlv; cbv) | (assumption))) | (apply E_callX hE (c_awake07); (case hf => rfl); (case hc => (cbv <;> trivial)); (case hle => (repeat' (first | exact u_nil | apply u_cons | apply u2_agg | exact u2_int | exact u1_int | exact u2_bool | exact u1_bool | exact u2_sli | exact u1_sli | exact u2_s0 | exact u1_s0))); all_goals (first | (intro lv_ hlv; cbv) | (assumption))))
  have b0 : E.bnot lv_ = false := by subst hE; rw [hlv]; rfl
  refine E_br_f hE b0 ?_; cbv
  (first | (apply E_pcallX hE (c_May ⟨_, _, _, _⟩); (case hm => rfl); (case hle => (repeat' (first | exact u_nil | apply u_cons | apply u2_agg | exact u2_int | exact u1_int | exact u2_bool | exact u1_bool | exact u2_sli | exact u1_sli | exact u2_s0 | exact u1_s0))); all_goals (first | (intro m hm_; cbv) | (assumption))) | (apply E_callX hE (c_May ⟨_, _, _, _⟩); (case hf => rfl); (case hc => (cbv <;> trivial)); (case hle => (repeat' (first | exact u_nil | apply u_cons | apply u2_agg | exact u2_int | exact u1_int | exact u2_bool | exact u1_bool | exact u2_sli | exact u1_sli | exact u2_s0 | exact u1_s0))); all_goals (first | (intro m hm_; cbv) | (assumption))))
  refine E_br hE (fun g => ?_) (fun g => ?_) <;> cbv
  · exact hlv
  have hm_ : m = a.may := hm_
  have ma : a.may = true := by rw [← hm_]; subst hE; cases m; exact absurd g (by decide); rfl
  refine E_br hE (fun g1 => ?_) (fun g1 => ?_) <;> cbv
  · exact hlv
  refine E_br hE (fun g2 => ?_) (fun g2 => ?_) <;> cbv
  · exact hlv
  have g1 : 0 ≤ n := by subst hE; have := lss_f g1; omega
  have g2 : n ≤ 1000000000 := by subst hE; have := gtr_f g2; omega
  obtain ⟨w1, w2, w3, w4⟩ := law3 g1 g2
  have law1 := law1 ma
  have law2 := law2 ma
  have wn : E.bin .mul .i64 n n = n * n := by subst hE; exact w1
  (first | (apply E_pcallX hE (c_Of 1 (by decide) (by decide)); (case hm => rfl); (case hle => (repeat' (first | exact u_nil | apply u_cons | apply u2_agg | exact u2_int | exact u1_int | exact u2_bool | exact u1_bool | exact u2_sli | exact u1_sli | exact u2_s0 | exact u1_s0))); all_goals (first | (intro o1 e1; cbv) | (assumption))) | (apply E_callX hE (c_Of 1 (by decide) (by decide)); (case hf => rfl); (case hc => (cbv <;> trivial)); (case hle => (repeat' (first | exact u_nil | apply u_cons | apply u2_agg | exact u2_int | exact u1_int | exact u2_bool | exact u1_bool | exact u2_sli | exact u1_sli | exact u2_s0 | exact u1_s0))); all_goals (first | (intro o1 e1; cbv) | (assumption))))
  (first | (apply E_pcallX hE (c_Of (E.bin .mul .i64 n n) ?_ ?_); (case hm => rfl); (case hle => (repeat' (first | exact u_nil | apply u_cons | apply u2_agg | exact u2_int | exact u1_int | exact u2_bool | exact u1_bool | exact u2_sli | exact u1_sli | exact u2_s0 | exact u1_s0))); all_goals (first | (intro o2 e2; cbv) | ((rw [wn]; assumption)))) | (apply E_callX hE (c_Of (E.bin .mul .i64 n n) ?_ ?_); (case hf => rfl); (case hc => (cbv <;> trivial)); (case hle => (repeat' (first | exact u_nil | apply u_cons | apply u2_agg | exact u2_int | exact u1_int | exact u2_bool | exact u1_bool | exact u2_sli | exact u1_sli | exact u2_s0 | exact u1_s0))); all_goals (first | (intro o2 e2; cbv) | ((rw [wn]; assumption)))))
  have ok1 : o1.ok := by rw [e1]; exact Num.ofInt_ok 1
  have ok2 : o2.ok := by rw [e2]; exact Num.ofInt_ok _
  (first | (apply E_pcallX hE (c_quRoot ⟨_, _, _, _⟩ _ ?_); (case hm => rfl); (case hle => (repeat' (first | exact u_nil | apply u_cons | apply u2_agg | exact u2_int | exact u1_int | exact u2_bool | exact u1_bool | exact u2_sli | exact u1_sli | exact u2_s0 | exact u1_s0))); all_goals (first | (intro r hr; cbv) | (exact ok2))) | (apply E_callX hE (c_quRoot ⟨_, _, _, _⟩ _ ?_); (case hf => rfl); (case hc => (cbv <;> trivial)); (case hle => (repeat' (first | exact u_nil | apply u_cons | apply u2_agg | exact u2_int | exact u1_int | exact u2_bool | exact u1_bool | exact u2_sli | exact u1_sli | exact u2_s0 | exact u1_s0))); all_goals (first | (intro r hr; cbv) | (exact ok2))))
  have hr : r = (Num.ofInt n, true) := by have k : r = Num.root o2 up := hr; rw [k, e2, wn, w4]
  (first | (apply E_pcallX hE (c_quDiv ⟨_, _, _, _⟩ ⟨_, _, _, _⟩ _ ?_ ?_); (case hm => rfl); (case hle => (repeat' (first | exact u_nil | apply u_cons | apply u2_agg | exact u2_int | exact u1_int | exact u2_bool | exact u1_bool | exact u2_sli | exact u1_sli | exact u2_s0 | exact u1_s0))); all_goals (first | (intro x hx; cbv) | (first | exact oa | exact ok1))) | (apply E_callX hE (c_quDiv ⟨_, _, _, _⟩ ⟨_, _, _, _⟩ _ ?_ ?_); (case hf => rfl); (case hc => (cbv <;> trivial)); (case hle => (repeat' (first | exact u_nil | apply u_cons | apply u2_agg | exact u2_int | exact u1_int | exact u2_bool | exact u1_bool | exact u2_sli | exact u1_sli | exact u2_s0 | exact u1_s0))); all_goals (first | (intro x hx; cbv) | (first | exact oa | exact ok1))))
  have hx : x = a := by have k : x = Num.div a o1 up := hx; rw [k, e1, law1]
  refine E_br_t hE (num_eq_t hE x a hx) ?_; cbv
  refine E_br hE (fun g => ?_) (fun g => ?_) <;> cbv
  all_goals (have r2 : r.2 = true := by rw [hr])
  · refine E_br_t hE r2 ?_; cbv
    (first | (apply E_pcallX hE (c_Of n h1 h2); (case hm => rfl); (case hle => (repeat' (first | exact u_nil | apply u_cons | apply u2_agg | exact u2_int | exact u1_int | exact u2_bool | exact u1_bool | exact u2_sli | exact u1_sli | exact u2_s0 | exact u1_s0))); all_goals (first | (intro o3 e3; cbv) | (assumption))) | (apply E_callX hE (c_Of n h1 h2); (case hf => rfl); (case hc => (cbv <;> trivial)); (case hle => (repeat' (first | exact u_nil | apply u_cons | apply u2_agg | exact u2_int | exact u1_int | exact u2_bool | exact u1_bool | exact u2_sli | exact u1_sli | exact u2_s0 | exact u1_s0))); all_goals (first | (intro o3 e3; cbv) | (assumption))))
    exact num_eq_t hE r.1 o3 (by rw [hr, e3])
  · have ka : a.kind = 1 := by subst hE; have q : decide (a.kind ≠ 1) = false := (cmp_neq _ _).symm.trans g; simpa using q
    (first | (apply E_pcallX hE (c_quDiv ⟨_, _, _, _⟩ ⟨_, _, _, _⟩ _ ?_ ?_); (case hm => rfl); (case hle => (repeat' (first | exact u_nil | apply u_cons | apply u2_agg | exact u2_int | exact u1_int | exact u2_bool | exact u1_bool | exact u2_sli | exact u1_sli | exact u2_s0 | exact u1_s0))); all_goals (first | (intro y hy; cbv) | (first | exact oa | exact oa))) | (apply E_callX hE (c_quDiv ⟨_, _, _, _⟩ ⟨_, _, _, _⟩ _ ?_ ?_); (case hf => rfl); (case hc => (cbv <;> trivial)); (case hle => (repeat' (first | exact u_nil | apply u_cons | apply u2_agg | exact u2_int | exact u1_int | exact u2_bool | exact u1_bool | exact u2_sli | exact u1_sli | exact u2_s0 | exact u1_s0))); all_goals (first | (intro y hy; cbv) | (first | exact oa | exact oa))))
    have hy : y = o1 := by have k : y = Num.div a a up := hy; rw [k, e1, law2 ka]
    refine E_br_t hE (num_eq_t hE y o1 hy) ?_; cbv
    refine E_br_t hE r2 ?_; cbv
    (first | (apply E_pcallX hE (c_Of n h1 h2); (case hm => rfl); (case hle => (repeat' (first | exact u_nil | apply u_cons | apply u2_agg | exact u2_int | exact u1_int | exact u2_bool | exact u1_bool | exact u2_sli | exact u1_sli | exact u2_s0 | exact u1_s0))); all_goals (first | (intro o3 e3; cbv) | (assumption))) | (apply E_callX hE (c_Of n h1 h2); (case hf => rfl); (case hc => (cbv <;> trivial)); (case hle => (repeat' (first | exact u_nil | apply u_cons | apply u2_agg | exact u2_int | exact u1_int | exact u2_bool | exact u1_bool | exact u2_sli | exact u1_sli | exact u2_s0 | exact u1_s0))); all_goals (first | (intro o3 e3; cbv) | (assumption))))
    exact num_eq_t hE r.1 o3 (by rw [hr, e3])

end Go.Proofs.Ytaiillbjhdoikaa.Ev

/- What an argument that reads as data stands for: numbers and intervals. -/
namespace Go.Proofs.Ytaiillbjhdoikaa.Ev
open Go Go.ChangeShapes Go.WideShapes Go.RowKit
set_option linter.unusedVariables false
set_option maxRecDepth 100000

section
variable {H : Type} {enc : TypeId × Value → H} {w : World} {base : Nat} {spare : Nat → Bool} {held : Bool}

theorem wf_u64 {n : Int} (h : (Lit.int .u64 n).wf = true) : 0 ≤ n ∧ n < 18446744073709551616 := by
  simp only [Lit.wf, IntKind.min, IntKind.max, IntKind.signed, IntKind.bits, Bool.and_eq_true] at h
  have := h.1; have := h.2
  simp at *
  omega
theorem wf_i64 {n : Int} (h : (Lit.int .i64 n).wf = true) : -9223372036854775808 ≤ n ∧ n < 9223372036854775808 := by
  simp only [Lit.wf, IntKind.min, IntKind.max, IntKind.signed, IntKind.bits, Bool.and_eq_true] at h
  have := h.1; have := h.2
  simp at *
  omega

/-- a number's fields are of their words -/
def Num.wf (n : Num) : Prop := n.ok ∧ (-9223372036854775808 ≤ n.e ∧ n.e < 9223372036854775808) ∧ (-9223372036854775808 ≤ n.kind ∧ n.kind < 9223372036854775808)
def Num.vals (n : Num) : List Value := [.int .i64 n.kind, .bool n.neg, .int .u64 n.m, .int .i64 n.e]

theorem read_num {fuel : Nat} {cs : List Value} {x : DataW H × List MemPlace} (h : DataW.trod enc Try.prog w base spare held fuel 38 cs = some x) : ∃ n : Num, cs = n.vals ∧ n.wf := by
  obtain ⟨xs, m, rfl, _, hl, hxs, hf⟩ := DataW.trod_struct Try.underlying38 h
  rw [show Try.prog.cellsOf 38 = 4 by kernel_rfl] at hl
  obtain ⟨c0, c1, c2, c3, rfl⟩ : ∃ a b c d, cs = [a, b, c, d] := by
    rcases cs with _ | ⟨a, _ | ⟨b, _ | ⟨c, _ | ⟨d, _ | ⟨e, r⟩⟩⟩⟩⟩ <;> simp at hl
    exact ⟨a, b, c, d, rfl⟩
  have get : ∀ i, i < 4 → ∃ y, xs[i]? = some y := fun i hi => ⟨_, List.getElem?_eq_getElem (by rw [hxs]; exact hi)⟩
  obtain ⟨y0, e0⟩ := get 0 (by omega)
  obtain ⟨y1, e1⟩ := get 1 (by omega)
  obtain ⟨y2, e2⟩ := get 2 (by omega)
  obtain ⟨y3, e3⟩ := get 3 (by omega)
  have z3 : Try.prog.cellsOf 3 = 1 := by kernel_rfl
  have z4 : Try.prog.cellsOf 4 = 1 := by kernel_rfl
  have z22 : Try.prog.cellsOf 36 = 1 := by kernel_rfl
  have h0 : DataW.trod enc Try.prog w base spare held m 3 (([c0, c1, c2, c3].drop 0).take (Try.prog.cellsOf 3)) = some y0 := (hf 0 _ rfl).trans e0
  have h1 : DataW.trod enc Try.prog w base spare held m 4 (([c0, c1, c2, c3].drop 1).take (Try.prog.cellsOf 4)) = some y1 := (hf 1 _ rfl).trans e1
  have h2 : DataW.trod enc Try.prog w base spare held m 36 (([c0, c1, c2, c3].drop 2).take (Try.prog.cellsOf 36)) = some y2 := (hf 2 _ rfl).trans e2
  have h3 : DataW.trod enc Try.prog w base spare held m 3 (([c0, c1, c2, c3].drop 3).take (Try.prog.cellsOf 3)) = some y3 := (hf 3 _ rfl).trans e3
  rw [z3] at h0 h3
  rw [z4] at h1
  rw [z22] at h2
  obtain ⟨n0, q0, _, w0⟩ := DataW.trod_int Try.underlying3 h0
  obtain ⟨n1, q1, _⟩ := DataW.trod_bool Try.underlying4 h1
  obtain ⟨n2, q2, _, w2⟩ := DataW.trod_int Try.underlying36 h2
  obtain ⟨n3, q3, _, w3⟩ := DataW.trod_int Try.underlying3 h3
  refine ⟨⟨n0, n1, n2, n3⟩, ?_, wf_u64 w2, wf_i64 w3, wf_i64 w0⟩
  obtain ⟨rfl⟩ : c0 = _ := (List.cons.inj q0).1
  obtain ⟨rfl⟩ : c1 = _ := (List.cons.inj q1).1
  obtain ⟨rfl⟩ : c2 = _ := (List.cons.inj q2).1
  obtain ⟨rfl⟩ : c3 = _ := (List.cons.inj q3).1
  rfl

def Iv.vals (x : Iv) : List Value := .bool x.empty :: (x.lo.vals ++ x.hi.vals)

theorem ro_num (O : Nat → Prop) (w : World) (n : Num) (ys : Array Value) (h : ys.toList = n.vals) : RoV O w n.av (.agg ys) := by
  obtain ⟨l⟩ := ys
  dsimp only at h
  subst h
  refine .agg _ _ rfl (fun j c hj => ?_)
  match j, hj with
  | 0, hj => simp at hj; subst hj; exact .int _ _ _ rfl
  | 1, hj => simp at hj; subst hj; exact .bool _ _ rfl
  | 2, hj => simp at hj; subst hj; exact .int _ _ _ rfl
  | 3, hj => simp at hj; subst hj; exact .int _ _ _ rfl
  | j + 4, hj => simp at hj

theorem arg_num {r : Reach} {b0 : Nat} {v : Value} {d : DataW H} {ps : List MemPlace} (hval : Value.okWide Try.prog w r b0 38 v) (hd : DataW.Trod enc Try.prog w base spare held 38 v d ps) :
    ∃ n : Num, n.wf ∧ ∀ O w', RoV O w' n.av v := by
  obtain ⟨cs, rfl, _⟩ := okWide_struct Try.underlying38 hval
  obtain ⟨fuel, hf⟩ := hd
  obtain ⟨n, e, hw⟩ := read_num hf
  exact ⟨n, hw, fun O w' => ro_num O w' n cs e⟩
end
end Go.Proofs.Ytaiillbjhdoikaa.Ev
