/- The evaluator's operations that leave the call's own memory alone do what the model's do: reslicing, literals, the rest. -/
import Derived.Test.YtincnfjihffllaaEv5
namespace Go.Proofs.Ytincnfjihffllaa.Ev
open Go Go.RowKit
set_option linter.unusedVariables false
set_option linter.unusedSimpArgs false

section
variable {P : Program} {G : Nat → TI} {base : Nat} {O0 : Nat → Prop} {μ : Nat → Nat} {hp : List Blk} {w : World}

theorem run_sliceBound {k : IntKind} {i : Int} {y : Nat} {c : BoundsCode} (h0 : 0 ≤ i) (h1 : i ≤ (y : Int)) (w : World) : (Instr.sliceBound (.int k i) y c).run P w = .ok i.toNat w := by
  simp only [Instr.sliceBound, asIntOf, Sem.run_bind, Sem.run_pure, Result.andThen_ok, Sem.run_ite, if_pos (And.intro h0 h1)]

theorem run_sliceBounds {lo hi : Option Value} {l h : Int} {len cap : Nat} (hl : (lo = none ∧ l = 0) ∨ ∃ k, lo = some (.int k l)) (hh : (hi = none ∧ h = (len : Int)) ∨ ∃ k, hi = some (.int k h))
    (h0 : 0 ≤ l) (h1 : l ≤ h) (h2 : h ≤ (len : Int)) (h3 : len ≤ cap) (w : World) : (Instr.sliceBounds true len cap lo hi none).run P w = .ok (l.toNat, h.toNat, cap) w := by
  have e1 : h ≤ (cap : Int) := by omega
  have e2 : l ≤ (h.toNat : Int) := by omega
  rcases hl with ⟨rfl, rfl⟩ | ⟨k, rfl⟩ <;> rcases hh with ⟨rfl, rfl⟩ | ⟨k', rfl⟩
  · simp [Instr.sliceBounds]
  · simp [Instr.sliceBounds, run_sliceBound (by omega : (0 : Int) ≤ h) e1]
  · simp [Instr.sliceBounds, run_sliceBound h0 (by omega : l ≤ (len : Int))]
  · simp [Instr.sliceBounds, run_sliceBound h0 e2, run_sliceBound (by omega : (0 : Int) ≤ h) e1]

theorem run_sliceBounds3 {lo : Option Value} {len cap : Nat} {k1 k2 : IntKind} (hl : (lo = none) ∨ ∃ k, lo = some (.int k 0)) (w : World) :
    (Instr.sliceBounds true len cap lo (some (.int k1 0)) (some (.int k2 0))).run P w = .ok (0, 0, 0) w := by
  rcases hl with rfl | ⟨k, rfl⟩
  · simp [Instr.sliceBounds, run_sliceBound (P := P) (k := k2) (y := cap) (Int.le_refl 0) (by omega), run_sliceBound (P := P) (k := k1) (y := 0) (Int.le_refl 0) (by omega)]
  · simp [Instr.sliceBounds, run_sliceBound (P := P) (k := k2) (y := cap) (Int.le_refl 0) (by omega), run_sliceBound (P := P) (k := k1) (y := 0) (Int.le_refl 0) (by omega), run_sliceBound (P := P) (k := k) (y := 0) (Int.le_refl 0) (by omega)]

theorem run_sliceAt {t e : Nat} {i : TypeInfo} (hu : P.underlying t = some (.slice e)) (hi : P.info? e = some i) {A : Option Addr} {len cap l h m : Nat} {lo hi' mx : Option Value} {w : World}
    (hb : (Instr.sliceBounds true len cap lo hi' mx).run P w = .ok (l, h, m) w) :
    (Instr.sliceAt t (.slice A len cap) lo hi' mx).run P w = .ok (.slice (if m = l then A else A.map (·.add (l * i.size))) (h - l) (m - l)) w := by
  simp [Instr.sliceAt, Instr.slice, run_underlying' hu, hb, run_sizeOf' hi]

theorem loOf_inv {x : X} {ρ : Operand → AV} {ev : Operand → Value} {o : Option Operand} (hr : ∀ y, o = some y → RelV x (ρ y) (ev y)) {l : SI} (h : loOf ρ o = some l) :
    (o.map ev = none ∧ l.val = 0) ∨ ∃ k, o.map ev = some (.int k l.val) := by
  cases o with
  | none => simp only [loOf, Option.some.injEq] at h; subst h; exact .inl ⟨rfl, rfl⟩
  | some y =>
    obtain ⟨k, hk⟩ := i64Of_inv (hr y rfl) h
    exact .inr ⟨k, by simp [hk]⟩
theorem hiOf_inv {x : X} {ρ : Operand → AV} {ev : Operand → Value} {o : Option Operand} (hr : ∀ y, o = some y → RelV x (ρ y) (ev y)) {n l : SI} (h : hiOf ρ n o = some l) :
    (o.map ev = none ∧ l.val = n.val) ∨ ∃ k, o.map ev = some (.int k l.val) := by
  cases o with
  | none => simp only [hiOf, Option.some.injEq] at h; subst h; exact .inl ⟨rfl, rfl⟩
  | some y =>
    obtain ⟨k, hk⟩ := i64Of_inv (hr y rfl) h
    exact .inr ⟨k, by simp [hk]⟩

theorem lt_list {l : List Int} {a b : Nat} (h1 : a ≤ b) (h2 : b ≤ l.length) : ((l.drop a).take (b - a)).length = b - a := by
  simp; omega

theorem slice_sound (hG : GOK P G) {t : Nat} {a : AV} {va : Value} {ρ : Operand → AV} {ev : Operand → Value} {lo hi mx : Option Operand} {K : AV → Prop}
    (ha : RelV (mkX base O0 μ hp w) a va) (hl : ∀ y, lo = some y → RelV (mkX base O0 μ hp w) (ρ y) (ev y)) (hh : ∀ y, hi = some y → RelV (mkX base O0 μ hp w) (ρ y) (ev y))
    (hm : ∀ y, mx = some y → RelV (mkX base O0 μ hp w) (ρ y) (ev y)) (h : evSlice (realE P) G t a ρ lo hi mx K) :
    ∃ v', K v' ∧ Val P (mkX base O0 μ hp w) (Instr.sliceAt t va (lo.map ev) (hi.map ev) (mx.map ev)) v' := by
  unfold evSlice at h
  cases hel : elemOK G t a with
  | false => rw [hel] at h; exact h.elim
  | true =>
    rw [hel, cond_true] at h
    split at h
    · exact h.elim
    · rename_i n hn
      split at h
      · rename_i l hh' hlo hhi
        have L := loOf_inv hl hlo
        have U := hiOf_inv hh hhi
        split at h
        · have z := siLe_real h
          clear h
          obtain ⟨h0, h⟩ := z
          have z := siLe_real h
          clear h
          obtain ⟨h1, h⟩ := z
          have z := siLe_real h
          clear h
          obtain ⟨h2, h⟩ := z
          have h0' : 0 ≤ l.val := h0
          rcases elemOK_spec hG hel with ⟨s, rfl, _⟩ | ⟨e, i, hu, hi2, hx⟩
          · exact h.elim
          · have hns : ∀ s, a ≠ .str s := by rintro s rfl; rcases hx with ⟨_, _, h, _⟩ | ⟨_, _, _, h, _⟩ | ⟨_, _, _, _, h, _⟩ | h <;> cases h
            obtain ⟨A, cap, rfl, hn0, hnc⟩ := slice_form ha hn hns
            have U' : (hi.map ev = none ∧ hh'.val = ((n.val.toNat : Nat) : Int)) ∨ ∃ k, hi.map ev = some (.int k hh'.val) := by
              rcases U with ⟨u1, u2⟩ | u; exact .inl ⟨u1, by omega⟩; exact .inr u
            have h2' : hh'.val ≤ ((n.val.toNat : Nat) : Int) := by omega
            have hrun := run_sliceAt (P := P) (w := w) (A := A) (mx := none) hu hi2 (run_sliceBounds (w := w) (cap := cap) L U' h0' h1 h2' hnc)
            rcases hx with ⟨k2, ls, rfl, hsz⟩ | ⟨sz, m, f, rfl, hsz⟩ | ⟨b, sz, r, m, rfl, hsz⟩ | rfl
            · refine ⟨_, h, _, hrun, ?_⟩
              simp only [lenOf, Option.some.injEq] at hn
              subst hn
              have hnl : ((SI.s ((realE P).len ls)).val) = (ls.length : Int) := rfl
              rw [hnl] at h2 hnc
              have hlen : ((ls.drop l.val.toNat).take (hh'.val.toNat - l.val.toNat)).length = hh'.val.toNat - l.val.toNat := lt_list (by omega) (by omega)
              have hsub : (realE P).sub ls l.val (siSub (realE P) hh' l).val = (ls.drop l.val.toNat).take (hh'.val.toNat - l.val.toNat) := by
                rw [siSub_real]
                show (ls.drop l.val.toNat).take (hh'.val - l.val).toNat = _
                rw [show (hh'.val - l.val).toNat = hh'.val.toNat - l.val.toNat by omega]
              rw [hsub]
              by_cases he : hh'.val.toNat - l.val.toNat = 0
              · have : (ls.drop l.val.toNat).take (hh'.val.toNat - l.val.toNat) = [] := by rw [he]; simp
                rw [this, he]
                exact RoV.sliN _ _ _
              · cases (show RoV _ _ (.sli k2 ls) (.slice A (ls.length : Int).toNat cap) from ha) with
                | sli _ _ ad _ hs ho hp2 hc =>
                  rw [if_neg (by omega)]
                  simp only [Option.map_some]
                  rw [addr_add hs, hsz, Nat.mul_one]
                  have key : ∀ L : List Int, L = (ls.drop l.val.toNat).take (hh'.val.toNat - l.val.toNat) → RelV (mkX base O0 μ hp w) (.sli k2 L) (.slice (some ⟨ad.block, ad.off + l.val.toNat, none⟩) L.length (cap - l.val.toNat)) := by
                    intro L hL
                    refine RoV.sli k2 _ ⟨ad.block, ad.off + l.val.toNat, none⟩ (cap - l.val.toNat) rfl ho (by rw [hL, hlen]; omega) (fun j c hj => ?_)
                    rw [hL] at hj
                    rw [List.getElem?_take] at hj
                    split at hj
                    · rw [List.getElem?_drop] at hj
                      have := hc _ c hj
                      simpa [Nat.add_assoc] using this
                    · cases hj
                  have := key _ rfl
                  rw [hlen] at this
                  exact this
                | sliN _ _ _ => simp at h2; omega
            · simp only [lenOf, Option.some.injEq] at hn
              subst hn
              have goal : ∀ (n' : SI) (g : Nat → List AV), n'.val = hh'.val - l.val → (∀ j, g j = f (l.val.toNat + j)) →
                  RelV (mkX base O0 μ hp w) (.slc sz n' g) (.slice (if cap = l.val.toNat then A else A.map (·.add (l.val.toNat * i.size))) (hh'.val.toNat - l.val.toNat) (cap - l.val.toNat)) := by
                intro n' g hn' hg
                by_cases he : hh'.val.toNat - l.val.toNat = 0
                · rw [he]
                  exact RoV.slcN _ _ _ _ _ (by omega)
                · generalize hmN : m.val.toNat = mN at hnc ha
                  cases (show RoV _ _ (.slc sz m f) (.slice A mN cap) from ha) with
                  | slc _ _ _ ad _ Y hs ho hm0 hp2 hll hc hr =>
                    rw [if_neg (by omega), show hh'.val.toNat - l.val.toNat = n'.val.toNat by omega]
                    simp only [Option.map_some]
                    rw [addr_add hs, hsz]
                    refine RoV.slc sz n' g ⟨ad.block, ad.off + l.val.toNat * sz, none⟩ (cap - l.val.toNat) (fun i j => Y (l.val.toNat + i) j) rfl ho (by omega) (by omega) (fun j hj => by rw [hg]; exact hll _ (by omega)) (fun j q c hj hq => ?_) (fun j q c hj hq => ?_)
                    · rw [hg] at hq
                      have := hc _ q c (by omega) hq
                      rw [Nat.add_mul] at this
                      simpa [Nat.add_assoc] using this
                    · rw [hg] at hq
                      exact hr _ q c (by omega) hq
                  | slcN _ _ _ _ _ hm => omega
              unfold cutTo at h
              split at h
              · rename_i heq; cases heq
              · rename_i heq
                injection heq with e1 e2 e3
                subst e1 e2 e3
                split at h
                · refine ⟨_, h, _, hrun, goal _ _ ?_ ?_⟩
                  · simp [SI.val]
                  · intro j; simp [SI.val]
                · refine ⟨_, h, _, hrun, goal _ _ (siSub_real _ _) (fun j => rfl)⟩
              · rename_i heq; cases heq
              · exfalso; simp_all
            · simp only [lenOf, Option.some.injEq] at hn
              subst hn
              obtain ⟨hb, hr0, hm0, A', cap', heq, hle, hA, hd⟩ := (show LeafR _ (.ms b sz r m) (.slice A m.val.toNat cap) from ha)
              injection heq with e1 e2 e3
              subst e1 e3
              refine ⟨_, h, _, hrun, ?_⟩
              refine ⟨hb, by rw [siAdd_real]; omega, by rw [siSub_real]; omega, _, _, by rw [siSub_real, show (hh'.val - l.val).toNat = hh'.val.toNat - l.val.toNat by omega], by rw [siSub_real]; omega, fun hc => ?_, fun n' s hn' => ?_⟩
              · rw [if_neg (by omega), hA (by omega), siAdd_real]
                simp only [Option.map_some]
                rw [addr_add rfl, hsz, show (r.val + l.val).toNat = r.val.toNat + l.val.toNat by omega, Nat.add_mul]
              · obtain ⟨q1, q2, e, mm, q3, q4⟩ := hd n' s hn'
                refine ⟨by rw [siAdd_real, siSub_real]; omega, q2, e, mm, q3, ?_⟩
                rw [siAdd_real]
                refine Nat.le_trans (Nat.mul_le_mul_right _ ?_) q4
                omega
            · exact h.elim
        · rename_i m
          split at h
          · rename_i k1 y hmv
            rcases elemOK_spec hG hel with ⟨s, rfl, _⟩ | ⟨e, i, hu, hi2, hx⟩
            · exact h.elim
            · have hns : ∀ s, a ≠ .str s := by rintro s rfl; rcases hx with ⟨_, _, h, _⟩ | ⟨_, _, _, h, _⟩ | ⟨_, _, _, _, h, _⟩ | h <;> cases h
              obtain ⟨A, cap, rfl, hn0, hnc⟩ := slice_form ha hn hns
              have hmi := hm m rfl
              rw [hmv] at hmi
              have hmi' := hmi.int_inv
              have hK : K .s0 := by
                split at h
                · exact absurd rfl (hns _)
                · exact h
              rcases U with ⟨u1, _⟩ | ⟨ku, u⟩
              · simp at u1
              · have L' : lo.map ev = none ∨ ∃ k, lo.map ev = some (.int k 0) := by
                  rcases L with ⟨h1, _⟩ | h1; exact .inl h1; exact .inr h1
                have hb : (Instr.sliceBounds true n.val.toNat cap (lo.map ev) ((some y).map ev) ((some m).map ev)).run P w = .ok (0, 0, 0) w := by
                  rw [u]
                  simp only [Option.map_some, hmi']
                  exact run_sliceBounds3 L' w
                have hrun := run_sliceAt (P := P) (w := w) (A := A) hu hi2 hb
                refine ⟨_, hK, _, hrun, ?_⟩
                simp only [Nat.sub_self]
                exact RoV.s0 _
          · exact h.elim
      · exact h.elim
end
end Go.Proofs.Ytincnfjihffllaa.Ev
