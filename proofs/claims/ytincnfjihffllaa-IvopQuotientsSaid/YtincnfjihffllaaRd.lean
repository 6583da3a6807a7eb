/- What an argument that reads as data stands for: numbers and intervals. -/
import Derived.Test.YtincnfjihffllaaC4
import Derived.ChangeArms
import Derived.ProofKit
import Derived.RowKit
import Derived.Carry
namespace Go.Proofs.Ytincnfjihffllaa.Ev
open Go Go.ChangeShapes Go.WideShapes Go.RowKit
set_option linter.unusedVariables false
set_option maxRecDepth 100000

section
variable {H : Type} {enc : TypeId × Value → H} {w : World} {base : Nat} {spare : Nat → Bool} {held : Bool}

theorem wf_u64 {n : Int} (h : (Lit.int .u64 n).wf = true) : 0 ≤ n ∧ n < 18446744073709551616 := by
  simp only [Lit.wf, IntKind.min, IntKind.max, IntKind.signed, IntKind.bits, Bool.and_eq_true] at h
  have := h.1; have := h.2
  simp at *
  omega
theorem wf_i64 {n : Int} (h : (Lit.int .i64 n).wf = true) : -9223372036854775808 ≤ n ∧ n < 9223372036854775808 := by
  simp only [Lit.wf, IntKind.min, IntKind.max, IntKind.signed, IntKind.bits, Bool.and_eq_true] at h
  have := h.1; have := h.2
  simp at *
  omega

/-- a number's fields are of their words -/
def Num.wf (n : Num) : Prop := n.ok ∧ (-9223372036854775808 ≤ n.e ∧ n.e < 9223372036854775808) ∧ (-9223372036854775808 ≤ n.kind ∧ n.kind < 9223372036854775808)
def Num.vals (n : Num) : List Value := [.int .i64 n.kind, .bool n.neg, .int .u64 n.m, .int .i64 n.e]

theorem read_num {fuel : Nat} {cs : List Value} {x : DataW H × List MemPlace} (h : DataW.trod enc Try.prog w base spare held fuel 24 cs = some x) : ∃ n : Num, cs = n.vals ∧ n.wf := by
  obtain ⟨xs, m, rfl, _, hl, hxs, hf⟩ := DataW.trod_struct Try.underlying24 h
  rw [show Try.prog.cellsOf 24 = 4 by kernel_rfl] at hl
  obtain ⟨c0, c1, c2, c3, rfl⟩ : ∃ a b c d, cs = [a, b, c, d] := by
    rcases cs with _ | ⟨a, _ | ⟨b, _ | ⟨c, _ | ⟨d, _ | ⟨e, r⟩⟩⟩⟩⟩ <;> simp at hl
    exact ⟨a, b, c, d, rfl⟩
  have get : ∀ i, i < 4 → ∃ y, xs[i]? = some y := fun i hi => ⟨_, List.getElem?_eq_getElem (by rw [hxs]; exact hi)⟩
  obtain ⟨y0, e0⟩ := get 0 (by omega)
  obtain ⟨y1, e1⟩ := get 1 (by omega)
  obtain ⟨y2, e2⟩ := get 2 (by omega)
  obtain ⟨y3, e3⟩ := get 3 (by omega)
  have z3 : Try.prog.cellsOf 3 = 1 := by kernel_rfl
  have z4 : Try.prog.cellsOf 4 = 1 := by kernel_rfl
  have z22 : Try.prog.cellsOf 22 = 1 := by kernel_rfl
  have h0 : DataW.trod enc Try.prog w base spare held m 3 (([c0, c1, c2, c3].drop 0).take (Try.prog.cellsOf 3)) = some y0 := (hf 0 _ rfl).trans e0
  have h1 : DataW.trod enc Try.prog w base spare held m 4 (([c0, c1, c2, c3].drop 1).take (Try.prog.cellsOf 4)) = some y1 := (hf 1 _ rfl).trans e1
  have h2 : DataW.trod enc Try.prog w base spare held m 22 (([c0, c1, c2, c3].drop 2).take (Try.prog.cellsOf 22)) = some y2 := (hf 2 _ rfl).trans e2
  have h3 : DataW.trod enc Try.prog w base spare held m 3 (([c0, c1, c2, c3].drop 3).take (Try.prog.cellsOf 3)) = some y3 := (hf 3 _ rfl).trans e3
  rw [z3] at h0 h3
  rw [z4] at h1
  rw [z22] at h2
  obtain ⟨n0, q0, _, w0⟩ := DataW.trod_int Try.underlying3 h0
  obtain ⟨n1, q1, _⟩ := DataW.trod_bool Try.underlying4 h1
  obtain ⟨n2, q2, _, w2⟩ := DataW.trod_int Try.underlying22 h2
  obtain ⟨n3, q3, _, w3⟩ := DataW.trod_int Try.underlying3 h3
  refine ⟨⟨n0, n1, n2, n3⟩, ?_, wf_u64 w2, wf_i64 w3, wf_i64 w0⟩
  obtain ⟨rfl⟩ : c0 = _ := (List.cons.inj q0).1
  obtain ⟨rfl⟩ : c1 = _ := (List.cons.inj q1).1
  obtain ⟨rfl⟩ : c2 = _ := (List.cons.inj q2).1
  obtain ⟨rfl⟩ : c3 = _ := (List.cons.inj q3).1
  rfl

def Iv.vals (x : Iv) : List Value := .bool x.empty :: (x.lo.vals ++ x.hi.vals)

theorem read_iv {fuel : Nat} {cs : List Value} {x : DataW H × List MemPlace} (h : DataW.trod enc Try.prog w base spare held fuel 50 cs = some x) : ∃ v : Iv, cs = v.vals ∧ v.lo.wf ∧ v.hi.wf := by
  obtain ⟨xs, m, rfl, _, hl, hxs, hf⟩ := DataW.trod_struct Try.underlying50 h
  rw [show Try.prog.cellsOf 50 = 9 by kernel_rfl] at hl
  obtain ⟨c0, c1, c2, c3, c4, c5, c6, c7, c8, rfl⟩ : ∃ a b c d e f g i j, cs = [a, b, c, d, e, f, g, i, j] := by
    rcases cs with _ | ⟨a, _ | ⟨b, _ | ⟨c, _ | ⟨d, _ | ⟨e, _ | ⟨f, _ | ⟨g, _ | ⟨i, _ | ⟨j, _ | ⟨k, r⟩⟩⟩⟩⟩⟩⟩⟩⟩⟩ <;> simp at hl
    exact ⟨a, b, c, d, e, f, g, i, j, rfl⟩
  have get : ∀ i, i < 3 → ∃ y, xs[i]? = some y := fun i hi => ⟨_, List.getElem?_eq_getElem (by rw [hxs]; exact hi)⟩
  obtain ⟨y0, e0⟩ := get 0 (by omega)
  obtain ⟨y1, e1⟩ := get 1 (by omega)
  obtain ⟨y2, e2⟩ := get 2 (by omega)
  have z4 : Try.prog.cellsOf 4 = 1 := by kernel_rfl
  have z24 : Try.prog.cellsOf 24 = 4 := by kernel_rfl
  have h0 : DataW.trod enc Try.prog w base spare held m 4 (([c0, c1, c2, c3, c4, c5, c6, c7, c8].drop 0).take (Try.prog.cellsOf 4)) = some y0 := (hf 0 _ rfl).trans e0
  have h1 : DataW.trod enc Try.prog w base spare held m 24 (([c0, c1, c2, c3, c4, c5, c6, c7, c8].drop 1).take (Try.prog.cellsOf 24)) = some y1 := (hf 1 _ rfl).trans e1
  have h2 : DataW.trod enc Try.prog w base spare held m 24 (([c0, c1, c2, c3, c4, c5, c6, c7, c8].drop 5).take (Try.prog.cellsOf 24)) = some y2 := (hf 2 _ rfl).trans e2
  rw [z4] at h0
  rw [z24] at h1 h2
  obtain ⟨b, q0, _⟩ := DataW.trod_bool Try.underlying4 h0
  obtain ⟨lo, q1, w1⟩ := read_num h1
  obtain ⟨hi, q2, w2⟩ := read_num h2
  refine ⟨⟨b, lo, hi⟩, ?_, w1, w2⟩
  show _ = .bool b :: (lo.vals ++ hi.vals)
  rw [← q1, ← q2, show c0 = .bool b from (List.cons.inj q0).1]
  rfl

theorem ro_num (O : Nat → Prop) (w : World) (n : Num) (ys : Array Value) (h : ys.toList = n.vals) : RoV O w n.av (.agg ys) := by
  obtain ⟨l⟩ := ys
  dsimp only at h
  subst h
  refine .agg _ _ rfl (fun j c hj => ?_)
  match j, hj with
  | 0, hj => simp at hj; subst hj; exact .int _ _ _ rfl
  | 1, hj => simp at hj; subst hj; exact .bool _ _ rfl
  | 2, hj => simp at hj; subst hj; exact .int _ _ _ rfl
  | 3, hj => simp at hj; subst hj; exact .int _ _ _ rfl
  | j + 4, hj => simp at hj

theorem ro_iv (O : Nat → Prop) (w : World) (n : Iv) (ys : Array Value) (h : ys.toList = n.vals) : RoV O w n.av (.agg ys) := by
  obtain ⟨l⟩ := ys
  dsimp only at h
  subst h
  refine .agg _ _ rfl (fun j c hj => ?_)
  match j, hj with
  | 0, hj => simp at hj; subst hj; exact .bool _ _ rfl
  | 1, hj => simp at hj; subst hj; exact .int _ _ _ rfl
  | 2, hj => simp at hj; subst hj; exact .bool _ _ rfl
  | 3, hj => simp at hj; subst hj; exact .int _ _ _ rfl
  | 4, hj => simp at hj; subst hj; exact .int _ _ _ rfl
  | 5, hj => simp at hj; subst hj; exact .int _ _ _ rfl
  | 6, hj => simp at hj; subst hj; exact .bool _ _ rfl
  | 7, hj => simp at hj; subst hj; exact .int _ _ _ rfl
  | 8, hj => simp at hj; subst hj; exact .int _ _ _ rfl
  | j + 9, hj => simp at hj

theorem arg_num {r : Reach} {b0 : Nat} {v : Value} {d : DataW H} {ps : List MemPlace} (hval : Value.okWide Try.prog w r b0 24 v) (hd : DataW.Trod enc Try.prog w base spare held 24 v d ps) :
    ∃ n : Num, n.wf ∧ ∀ O w', RoV O w' n.av v := by
  obtain ⟨cs, rfl, _⟩ := okWide_struct Try.underlying24 hval
  obtain ⟨fuel, hf⟩ := hd
  obtain ⟨n, e, hw⟩ := read_num hf
  exact ⟨n, hw, fun O w' => ro_num O w' n cs e⟩
theorem arg_iv {r : Reach} {b0 : Nat} {v : Value} {d : DataW H} {ps : List MemPlace} (hval : Value.okWide Try.prog w r b0 50 v) (hd : DataW.Trod enc Try.prog w base spare held 50 v d ps) :
    ∃ n : Iv, n.lo.wf ∧ n.hi.wf ∧ ∀ O w', RoV O w' n.av v := by
  obtain ⟨cs, rfl, _⟩ := okWide_struct Try.underlying50 hval
  obtain ⟨fuel, hf⟩ := hd
  obtain ⟨n, e, hw⟩ := read_iv hf
  exact ⟨n, hw.1, hw.2, fun O w' => ro_iv O w' n cs e⟩
end
end Go.Proofs.Ytincnfjihffllaa.Ev
