/- The evaluator's operations that leave the call's own memory alone do what the model's do. -/
import Derived.Test.YtincnfjihffllaaEv2
import Derived.Laws.StructEq
namespace Go.Proofs.Ytincnfjihffllaa.Ev
open Go Go.RowKit
set_option linter.unusedVariables false
set_option linter.unusedSimpArgs false

/-! ### types -/
def isAggD : TypeDesc → Bool
  | .struct _ => true
  | .array _ _ => true
  | _ => false
def fldOf (P : Program) (f : Field) : Nat × Nat × Bool :=
  match P.info? f.type, P.underlying f.type with
  | some i, some d => (f.offset, i.size, isAggD d)
  | _, _ => (f.offset, 0, false)
def tkOf (P : Program) : TypeDesc → TK
  | .int k => .int k
  | .bool => .bool
  | .string => .str
  | .struct fs => .struct (fs.toList.map (fldOf P))
  | .slice e => .slice e
  | .array n e => .array n e
  | .pointer e => .ptr e
  | .func _ _ _ => .one
  | .interface _ => .one
  | .map _ _ => .one
  | _ => .oth
/-- the cells of a type of numbers and bools, one behind the other, if it is such a one. -/
def flatOf (P : Program) : Nat → Nat → Option (List (Option IntKind))
  | 0, _ => none
  | d + 1, t => match P.underlying t with
    | some (.int k) => some [some k]
    | some .bool => some [none]
    | some (.struct fs) => if P.stoodInHeld t then none else fs.toList.foldr (fun f r => fun (off : Nat) =>
        match flatOf P d f.type with
        | some l => if f.offset = off ∧ f.name ≠ "_" ∧ ((P.info? f.type).map (·.size)) = some l.length then (r (off + l.length)).map (l ++ ·) else none
        | none => none) (fun _ => some []) 0
    | _ => none
def tiOf (P : Program) (t : Nat) : TI :=
  match P.info? t, P.underlying t with
  | some i, some d => match i.zero with
    | some z => ⟨tkOf P d, i.size, i.bytes, z.cells.toList.map ofLeaf, flatOf P 5 t⟩
    | none => ⟨.oth, 0, 0, [], none⟩
  | _, _ => ⟨.oth, 0, 0, [], none⟩
structure GOK (P : Program) (G : Nat → TI) : Prop where
  ti : ∀ t, G t = tiOf P t ∨ G t = ⟨.oth, 0, 0, [], none⟩
  depth : 5 ≤ P.depth

structure TOK (P : Program) (t : Nat) (k : TK) (sz bytes : Nat) (zero : List AV) (fl : Option (List (Option IntKind))) (i : TypeInfo) (d : TypeDesc) (z : Value) : Prop where
  info : P.info? t = some i
  und : P.underlying t = some d
  zer : i.zero = some z
  size : i.size = sz
  byt : i.bytes = bytes
  zc : z.cells.toList.map ofLeaf = zero
  kind : tkOf P d = k
  flat : flatOf P 5 t = fl

theorem GOK.tok {P : Program} {G : Nat → TI} (h : GOK P G) {t : Nat} {k : TK} {sz by_ : Nat} {z : List AV} {fl : Option (List (Option IntKind))} (e : G t = ⟨k, sz, by_, z, fl⟩) (hk : k ≠ .oth) : ∃ i d v, TOK P t k sz by_ z fl i d v := by
  rcases h.ti t with h | h
  · rw [e] at h
    unfold tiOf at h
    split at h
    · rename_i i d hi hd
      split at h
      · rename_i v hv
        injection h with h1 h2 h3 h4 h5
        exact ⟨i, d, v, hi, hd, hv, h2.symm, h3.symm, h4.symm, h1.symm, h5.symm⟩
      · injection h with h1; exact absurd h1 hk
    · injection h with h1; exact absurd h1 hk
  · rw [e] at h; injection h with h1; exact absurd h1 hk

theorem tabOK {P : Program} {tab : List (Nat × TI)} (h : tab.map (fun p => tiOf P p.1) = tab.map (·.2)) (hd : Nat.ble 5 P.depth = true) : GOK P (lookG tab) := by
  refine ⟨?_, Nat.le_of_ble_eq_true hd⟩
  intro t
  induction tab with
  | nil => right; rfl
  | cons p r ih =>
    obtain ⟨i, v⟩ := p
    simp only [List.map_cons, List.cons.injEq] at h
    simp only [lookG]
    cases hb : Nat.beq i t with
    | true => left; rw [cond_true, ← h.1, Nat.eq_of_beq_eq_true hb]
    | false => rw [cond_false]; exact ih h.2

/-! ### what a value is, from what it is to the evaluator -/
section inv
variable {x : X}
theorem RelV.int_inv {k : IntKind} {n : SI} {v : Value} (h : RelV x (.int k n) v) : v = .int k n.val := by
  cases (show RoV x.O x.w (.int k n) v from h) with | int _ _ _ h1 => rw [h1]
theorem RelV.bool_inv {b : SB} {v : Value} (h : RelV x (.bool b) v) : v = .bool b.val := by
  cases (show RoV x.O x.w (.bool b) v from h) with | bool _ _ h1 => rw [h1]
theorem RelV.str_inv {s : ByteArray} {v : Value} (h : RelV x (.str s) v) : v = .string s := by
  cases (show RoV x.O x.w (.str s) v from h) with | str _ => rfl
theorem LeafR.int_inv {k : IntKind} {n : SI} {v : Value} (h : LeafR x (.int k n) v) : v = .int k n.val := RelV.int_inv h
theorem LeafR.bool_inv {b : SB} {v : Value} (h : LeafR x (.bool b) v) : v = .bool b.val := RelV.bool_inv h
theorem rel_int (k : IntKind) (n : SI) (v : Int) (h : n.val = v) : RelV x (.int k n) (.int k v) := RoV.int k n v h
theorem rel_bool (b : SB) (v : Bool) (h : b.val = v) : RelV x (.bool b) (.bool v) := RoV.bool b v h
end inv

/-! ### the evaluator's words, in truth -/
def FOK (P : Program) (f : FuncId) : Prop := ∃ fn, P.funcs[f]? = some fn ∧ (fn.name == "runtime.NumGoroutine") = false ∧ fn.body.isNone = false

def newO (O : Nat → Prop) (w w' : World) (n : Nat) : Prop := O n ∨ (w.heap.size ≤ n ∧ n < w'.heap.size)

/-- A CONTRACT: called with values that read as these, the function returns a value that reads as that one, and nothing that was there has turned. -/
def CallsA (P : Program) (f : FuncId) (args : List AV) (r : AV) : Prop :=
  FOK P f ∧ ∀ (O : Nat → Prop) (w : World) (vals : Array Value), (∀ n, O n → n < w.heap.size) → args.length = vals.size →
    (∀ (j : Nat) (c : AV), args[j]? = some c → RoV O w c (vals.getD j undef)) →
    Calls P f vals w fun e w' => ∃ val, e = .returned val ∧ RoV (newO O w w') w' r val ∧ Below w.heap.size w w'

/-- A call, over the call's own memory. -/
def CallsH (P : Program) (f : FuncId) (args : List AV) (h : List Blk) (K : AV → List Blk → Prop) : Prop :=
  FOK P f ∧ ∀ (base : Nat) (O0 : Nat → Prop) (μ : Nat → Nat) (w : World) (vals : Array Value), HR base O0 μ h w → args.length = vals.size →
    (∀ (j : Nat) (c : AV), args[j]? = some c → RelV (mkX base O0 μ h w) c (vals.getD j undef)) →
    Calls P f vals w fun e w' => ∃ val r h' μ', e = .returned val ∧ K r h' ∧ RelV (mkX base O0 μ' h' w') r val ∧ HR base O0 μ' h' w' ∧
      Ext (mkX base O0 μ h w) (mkX base O0 μ' h' w') ∧ Below base w w'

noncomputable def realE (P : Program) : Env where
  bin := intBinR
  cmp := cmpR
  un := unR
  conv := fun k n => k.wrap n
  plus := fun a b => a + b
  minus := fun a b => a - b
  bnot := fun b => !b
  beq := fun a b => a == b
  band := fun a b => a && b
  seq := fun a b => a == b
  len := fun l => l.length
  get := fun l i => l.getD i.toNat 0
  set := fun l i n => l.set i.toNat n
  sub := fun l r n => (l.drop r.toNat).take n.toNat
  rep := fun n => List.replicate n.toNat 0
  app := fun l m => l ++ m
  rget := fun l i d => l.getD i.toNat d
  rset := fun l i v => l.set i.toNat v
  rsub := fun l r n => (l.drop r.toNat).take n.toNat
  rapp := fun l m => l ++ m
  rlen := fun l => l.length
  rrep := fun n v => List.replicate n.toNat v
  rof := fun n f => (List.range n.toNat).map f
  sget := fun f i => f i.toNat
  ssub := fun f r i => f (r.toNat + i)
  rfun := fun l r d i => l.getD (r.toNat + i) d
  ofL := fun l => l.map (fun n => [.int .i64 (.s n)])
  slen := fun s => s.size
  sat := fun s i => (s.data.getD i.toNat 0).toNat
  br := fun b t f => (b = true → t ()) ∧ (b = false → f ())
  nm := fun n K => K n
  row := fun f i K => K (f i.toNat)
  pcall := fun f args K => ∃ r, K r ∧ allB AV.mf args = true ∧ CallsA P f args r
  call := fun f args h _ K => CallsH P f args h K

section real
variable {P : Program}
theorem brB_real {b : SB} {t f : Unit → Prop} (h : brB (realE P) b t f) : (b.val = true ∧ t ()) ∨ (b.val = false ∧ f ()) := by
  cases b with
  | l b => cases b <;> simp_all [brB, SB.val]
  | s b => cases b <;> simp_all [brB, SB.val, realE]
theorem siBin_real (op : BinOp) (k : IntKind) (a b : SI) : (siBin (realE P) op k a b).val = intBinR op k a.val b.val := by
  cases a <;> cases b <;> rfl
theorem siCmp_real (op : BinOp) (a b : SI) : (siCmp (realE P) op a b).val = cmpR op a.val b.val := by
  cases a <;> cases b <;> rfl
theorem sbNot_real (a : SB) : (sbNot (realE P) a).val = !a.val := by cases a <;> rfl
theorem sbAnd_real (a b : SB) : (sbAnd (realE P) a b).val = (a.val && b.val) := by
  cases a with
  | l a => cases a <;> simp [sbAnd, SB.val]
  | s a => cases b with
    | l b => cases b <;> simp [sbAnd, SB.val]
    | s b => rfl
theorem sbEq_real (a b : SB) : (sbEq (realE P) a b).val = (a.val == b.val) := by cases a <;> cases b <;> rfl
theorem siConv_real (k : IntKind) (a : SI) : (siConv (realE P) k a).val = k.wrap a.val := by cases a <;> rfl
theorem siAdd_real (a b : SI) : (siAdd (realE P) a b).val = a.val + b.val := by
  cases a <;> cases b <;> simp only [siAdd] <;> (try split) <;> simp_all [SI.val, realE]
theorem siSub_real (a b : SI) : (siSub (realE P) a b).val = a.val - b.val := by
  cases a <;> cases b <;> simp only [siSub] <;> (try split) <;> simp_all [SI.val, realE]
theorem siLe_real {a b : SI} {K : Unit → Prop} (h : siLe (realE P) a b K) : a.val ≤ b.val ∧ K () := by
  rcases brB_real h with ⟨h1, h2⟩ | ⟨_, h2⟩
  · rw [siCmp_real] at h1; exact ⟨by simpa [cmpR] using h1, h2⟩
  · exact h2.elim
theorem siLt_real {a b : SI} {K : Unit → Prop} (h : siLt (realE P) a b K) : a.val < b.val ∧ K () := by
  rcases brB_real h with ⟨h1, h2⟩ | ⟨_, h2⟩
  · rw [siCmp_real] at h1; exact ⟨by simpa [cmpR] using h1, h2⟩
  · exact h2.elim
theorem ikEq_eq {a b : IntKind} (h : ikEq a b = true) : a = b := by cases a <;> cases b <;> first | rfl | simp [ikEq] at h
end real

section ops
variable {P : Program} {x : X}


/-! ### structs of numbers and bools, compared -/
def fitV : Option IntKind → Value → Prop
  | some k, .int k' _ => k = k'
  | none, .bool _ => True
  | _, _ => False
def eqV : Value → Value → Bool
  | .int _ a, .int _ b => a == b
  | .bool a, .bool b => a == b
  | _, _ => false
/-- of so many cells from a place on: are they equal? -/
def eqFrom (xs ys : Array Value) : Nat → Nat → Bool
  | _, 0 => true
  | off, n + 1 => eqV (xs.getD off undef) (ys.getD off undef) && eqFrom xs ys (off + 1) n
theorem eqFrom_add (xs ys : Array Value) : ∀ (m n off : Nat), eqFrom xs ys off (m + n) = (eqFrom xs ys off m && eqFrom xs ys (off + m) n)
  | 0, n, off => by simp [eqFrom]
  | m + 1, n, off => by
    rw [show m + 1 + n = (m + n) + 1 by omega]
    simp only [eqFrom, eqFrom_add xs ys m n (off + 1), Bool.and_assoc]
    rw [show off + 1 + m = off + (m + 1) by omega]
theorem getD_extract (xs : Array Value) (a b j : Nat) (h : j < b - a) : (xs.extract a b).getD j undef = xs.getD (a + j) undef := by
  simp only [Array.getD_eq_getD_getElem?, Array.getElem?_extract]
  split
  · rfl
  · rename_i h1
    have : xs.size ≤ a + j := by omega
    simp [this]
theorem eqFrom_extract (xs ys : Array Value) (a b : Nat) : ∀ (n off : Nat), off + n ≤ b - a → eqFrom (xs.extract a b) (ys.extract a b) off n = eqFrom xs ys (a + off) n
  | 0, off, _ => by simp [eqFrom]
  | n + 1, off, h => by
    simp only [eqFrom, getD_extract xs a b off (by omega), getD_extract ys a b off (by omega), eqFrom_extract xs ys a b n (off + 1) (by omega)]
    rw [show a + (off + 1) = a + off + 1 by omega]
def FitA (ks : List (Option IntKind)) (xs : Array Value) (off : Nat) : Prop := off + ks.length ≤ xs.size ∧ ∀ (j : Nat) (k : Option IntKind), ks[j]? = some k → fitV k (xs.getD (off + j) undef)
/-- a value of a type of so many cells -/
def FitT (P : Program) (t : Nat) (ks : List (Option IntKind)) (v : Value) : Prop :=
  (∀ d, P.underlying t = some d → isAggD d = true → ∃ xs, v = .agg xs ∧ xs.size = ks.length) ∧
  (∀ d, P.underlying t = some d → isAggD d = false → v.cells = #[v]) ∧ FitA ks v.cells 0

def FoldF (P : Program) (d : Nat) (fs : List Field) : Nat → Option (List (Option IntKind)) :=
  fs.foldr (fun f r => fun (off : Nat) =>
        match flatOf P d f.type with
        | some l => if f.offset = off ∧ f.name ≠ "_" ∧ ((P.info? f.type).map (·.size)) = some l.length then (r (off + l.length)).map (l ++ ·) else none
        | none => none) (fun _ => some [])

theorem und_of_flat {d t : Nat} {ks : List (Option IntKind)} (h : flatOf P d t = some ks) : ∃ u, P.underlying t = some u ∧ (isAggD u = true ∨ (isAggD u = false ∧ ks.length = 1)) := by
  cases d with
  | zero => simp [flatOf] at h
  | succ d =>
    simp only [flatOf] at h
    split at h
    · rename_i k hk; exact ⟨_, hk, .inr ⟨rfl, by injection h with h; rw [← h]; rfl⟩⟩
    · rename_i hk; exact ⟨_, hk, .inr ⟨rfl, by injection h with h; rw [← h]; rfl⟩⟩
    · rename_i fs hk; exact ⟨_, hk, .inl rfl⟩
    · cases h

theorem run_part_flat {d t : Nat} {ks : List (Option IntKind)} (h : flatOf P d t = some ks) (hs : (P.info? t).map (·.size) = some ks.length) (xs : Array Value) (off : Nat)
    (hf : FitA ks xs off) (w : World) : ∃ v, (part t xs off).run P w = .ok v w ∧ FitT P t ks v ∧ v.cells = xs.extract off (off + ks.length) := by
  obtain ⟨u, hu, hk⟩ := und_of_flat h
  obtain ⟨i, hi, hi2⟩ : ∃ i, P.info? t = some i ∧ i.size = ks.length := by
    cases hi : P.info? t with
    | none => simp [hi] at hs
    | some i => simp [hi] at hs; exact ⟨i, rfl, hs⟩
  have hagg : (isAgg t).run P w = .ok (isAggD u) w := by
    simp only [isAgg, Sem.run_bind, underlying, run_program, Result.andThen_ok, hu, Sem.run_pure]
    cases u <;> rfl
  have hsz : (sizeOf t).run P w = .ok ks.length w := by
    simp [sizeOf, typeInfo, hi, hi2]
  have hex : ∀ (j : Nat) (k : Option IntKind), ks[j]? = some k → fitV k ((xs.extract off (off + ks.length)).getD (0 + j) undef) := by
    intro j k hj
    have hjl : j < ks.length := (List.getElem?_eq_some_iff.1 hj).1
    rw [Nat.zero_add, getD_extract xs _ _ j (by omega)]
    exact hf.2 j k hj
  rcases hk with hk | ⟨hk, h1⟩
  · refine ⟨.agg (xs.extract off (off + ks.length)), ?_, ⟨fun d hd _ => ⟨_, rfl, by simp [hf.1]⟩, fun d hd hn => ?_, by simp [Value.cells, hf.1], hex⟩, rfl⟩
    · simp [part, hagg, hk, hsz]
    · rw [hu] at hd; injection hd with hd; subst hd; rw [hk] at hn; cases hn
  · have hlt : off < xs.size := by have := hf.1; omega
    obtain ⟨k, hkk⟩ : ∃ k, ks = [k] := by
      match ks, h1 with
      | [k], _ => exact ⟨k, rfl⟩
    subst hkk
    have hv := hf.2 0 k rfl
    rw [Nat.add_zero, Array.getD_eq_getD_getElem?, Array.getElem?_eq_getElem hlt, Option.getD_some] at hv
    have hc : (xs[off]).cells = #[xs[off]] := by
      cases k <;> cases hx : xs[off] <;> simp_all [fitV, Value.cells]
    have he : xs.extract off (off + 1) = #[xs[off]] := by
      apply Array.ext
      · simp; omega
      · intro i hi1 hi2
        simp at hi2
        subst hi2
        simp
    refine ⟨xs[off], ?_, ⟨fun d hd ha => ?_, fun d hd hn => hc, by rw [hc]; simp, ?_⟩, by rw [hc]; exact he.symm⟩
    · simp [part, hagg, hk, hlt]
    · rw [hu] at hd; injection hd with hd; subst hd; rw [hk] at ha; cases ha
    · rw [hc, ← he]; exact hex

theorem equal_flat : ∀ (d : Nat) (t : Nat) (ks : List (Option IntKind)), flatOf P d t = some ks → ∀ (e : Nat), d ≤ e → ∀ (a b : Value) (w : World), FitT P t ks a → FitT P t ks b →
    (Op.equalIn e t a b).run P w = .ok (eqFrom a.cells b.cells 0 ks.length) w
  | 0, t, ks, h, _, _, _, _, _, _, _ => by simp [flatOf] at h
  | d + 1, t, ks, h, e, he, a, b, w, ha, hb => by
    obtain ⟨e, rfl⟩ : ∃ e', e = e' + 1 := ⟨e - 1, by omega⟩
    simp only [flatOf] at h
    split at h
    · rename_i k hk
      injection h with h; subst h
      have h1 := ha.2.2.2 0 _ rfl
      have h2 := hb.2.2.2 0 _ rfl
      have c1 := ha.2.1 _ hk rfl
      have c2 := hb.2.1 _ hk rfl
      rw [c1] at h1 ⊢; rw [c2] at h2 ⊢
      cases a <;> simp [fitV] at h1
      cases b <;> simp [fitV] at h2
      subst h1; subst h2
      simp [run_equalIn_int w e t _ _ _ _ hk, eqFrom, eqV]
    · rename_i hk
      injection h with h; subst h
      have h1 := ha.2.2.2 0 _ rfl
      have h2 := hb.2.2.2 0 _ rfl
      have c1 := ha.2.1 _ hk rfl
      have c2 := hb.2.1 _ hk rfl
      rw [c1] at h1 ⊢; rw [c2] at h2 ⊢
      cases a <;> simp [fitV] at h1
      cases b <;> simp [fitV] at h2
      simp [run_equalIn_bool' w e t _ _ hk, eqFrom, eqV]
    · rename_i fs hk
      split at h
      · cases h
      · rename_i hst
        obtain ⟨xs, rfl, hx⟩ := ha.1 _ hk rfl
        obtain ⟨ys, rfl, hy⟩ := hb.1 _ hk rfl
        have hfo : P.fieldsOf t = fs := by simp [Program.fieldsOf, hk]
        rw [run_equalIn_struct w e t xs ys (by rw [hfo]; exact hk) (by simpa using hst), hfo]
        have key : ∀ (l : List Field) (off : Nat) (ks : List (Option IntKind)), FoldF P d l off = some ks → FitA ks xs off → FitA ks ys off →
            (Op.eqFields e xs ys l).run P w = .ok (eqFrom xs ys off ks.length) w := by
          intro l
          induction l with
          | nil => intro off ks h1 _ _; simp [FoldF] at h1; subst h1; simp [Op.eqFields, eqFrom]
          | cons f r ih =>
            intro off ks h1 h2 h3
            simp only [FoldF, List.foldr_cons] at h1
            split at h1
            · rename_i l hl
              split at h1
              · rename_i hc
                obtain ⟨hof, hnm, hsz⟩ := hc
                obtain ⟨rest, hr, rfl⟩ := Option.map_eq_some_iff.1 h1
                have fa : ∀ {zs : Array Value}, FitA (l ++ rest) zs off → FitA l zs off ∧ FitA rest zs (off + l.length) := by
                  intro zs hz
                  refine ⟨⟨by have := hz.1; simp at this; omega, fun j k hj => hz.2 j k ?_⟩, ⟨by have := hz.1; simp at this; omega, fun j k hj => ?_⟩⟩
                  · rw [List.getElem?_append_left (List.getElem?_eq_some_iff.1 hj).1]; exact hj
                  · have := hz.2 (l.length + j) k (by rw [List.getElem?_append_right (by omega)]; simpa using hj)
                    rwa [show off + (l.length + j) = off + l.length + j by omega] at this
                obtain ⟨v1, p1, q1, r1⟩ := run_part_flat hl hsz xs off (fa h2).1 w
                obtain ⟨v2, p2, q2, r2⟩ := run_part_flat hl hsz ys off (fa h3).1 w
                have he := equal_flat d f.type l hl e (by omega) v1 v2 w q1 q2
                have ih' := ih (off + l.length) rest hr (fa h2).2 (fa h3).2
                rw [r1, r2, eqFrom_extract xs ys _ _ l.length 0 (by omega), Nat.add_zero] at he
                simp only [Op.eqFields, if_pos hnm, Sem.run_bind, hof, p1, p2, he, Result.andThen_ok]
                rw [List.length_append, eqFrom_add]
                cases eqFrom xs ys off l.length
                · simp
                · simp [ih']
              · cases h1
            · cases h1
        exact key fs.toList 0 ks h (by have := ha.2.2; exact this) (by have := hb.2.2; exact this)
    · cases h

theorem noGuard_flat : ∀ (d : Nat) (t : Nat) (ks : List (Option IntKind)), flatOf P d t = some ks → ∀ e, d ≤ e → P.eqGuardType e t = false
  | 0, t, ks, h, _, _ => by simp [flatOf] at h
  | d + 1, t, ks, h, e, he => by
    obtain ⟨e, rfl⟩ : ∃ e', e = e' + 1 := ⟨e - 1, by omega⟩
    simp only [flatOf] at h
    split at h
    · rename_i k hk; simp [Program.eqGuardType, hk]
    · rename_i hk; simp [Program.eqGuardType, hk]
    · rename_i fs hk
      split at h
      · cases h
      · simp only [Program.eqGuardType, hk]
        rw [← Array.any_toList]
        have key : ∀ (l : List Field) (off : Nat) (ks : List (Option IntKind)), FoldF P d l off = some ks → (l.any fun f => f.name != "_" && P.eqGuardType e f.type) = false := by
          intro l
          induction l with
          | nil => intros; rfl
          | cons f r ih =>
            intro off ks h1
            simp only [FoldF, List.foldr_cons] at h1
            split at h1
            · rename_i l hl
              split at h1
              · obtain ⟨rest, hr, rfl⟩ := Option.map_eq_some_iff.1 h1
                simp [noGuard_flat d f.type l hl e (by omega)]
                have := ih _ _ hr
                simpa using this
              · cases h1
            · cases h1
        exact key _ _ _ h
    · cases h

theorem fits_fit : ∀ (fl : List (Option IntKind)) (cs : List AV), fits fl cs = true → fl.length = cs.length ∧
    ∀ (ys : Array Value) (off : Nat), (∀ (j : Nat) (c : AV), cs[j]? = some c → LeafR x c (ys.getD (off + j) undef)) → ∀ (j : Nat) (k : Option IntKind), fl[j]? = some k → fitV k (ys.getD (off + j) undef)
  | [], [], _ => ⟨rfl, fun _ _ _ j k hj => by simp at hj⟩
  | [], _ :: _, h => by simp [fits] at h
  | some k :: r, [], h => by simp [fits] at h
  | none :: r, [], h => by simp [fits] at h
  | some k :: r, c :: r', h => by
    cases c <;> simp only [fits, Bool.false_eq_true, Bool.and_eq_true] at h
    rename_i k' n
    obtain ⟨h1, h2⟩ := h
    have ih := fits_fit r r' h2
    refine ⟨by simp [ih.1], fun ys off hR j k1 hj => ?_⟩
    cases j with
    | zero =>
      have := (hR 0 _ rfl).int_inv
      rw [this]
      simp at hj; subst hj
      exact ikEq_eq h1
    | succ j => have := ih.2 ys (off + 1) (fun j c hc => by have := hR (j + 1) c (by simpa using hc); rwa [show off + (j + 1) = off + 1 + j by omega] at this) j k1 (by simpa using hj); rwa [show off + (j + 1) = off + 1 + j by omega]
  | none :: r, c :: r', h => by
    cases c <;> simp only [fits, Bool.false_eq_true] at h
    rename_i b
    have ih := fits_fit r r' h
    refine ⟨by simp [ih.1], fun ys off hR j k1 hj => ?_⟩
    cases j with
    | zero =>
      have := (hR 0 _ rfl).bool_inv
      rw [this]
      simp at hj; subst hj
      trivial
    | succ j => have := ih.2 ys (off + 1) (fun j c hc => by have := hR (j + 1) c (by simpa using hc); rwa [show off + (j + 1) = off + 1 + j by omega] at this) j k1 (by simpa using hj); rwa [show off + (j + 1) = off + 1 + j by omega]

theorem eqCells_real : ∀ (as bs : List AV) (q : SB), eqCells (realE P) as bs = some q → ∀ (xs ys : Array Value) (off : Nat),
    (∀ (j : Nat) (c : AV), as[j]? = some c → LeafR x c (xs.getD (off + j) undef)) → (∀ (j : Nat) (c : AV), bs[j]? = some c → LeafR x c (ys.getD (off + j) undef)) →
    q.val = eqFrom xs ys off as.length
  | [], [], q, h, xs, ys, off, _, _ => by simp [eqCells] at h; subst h; rfl
  | [], _ :: _, q, h, _, _, _, _, _ => by simp [eqCells] at h
  | a :: as, [], q, h, _, _, _, _, _ => by cases a <;> simp [eqCells] at h
  | a :: as, b :: bs, q, h, xs, ys, off, h1, h2 => by
    have s1 : ∀ (j : Nat) (c : AV), as[j]? = some c → LeafR x c (xs.getD (off + 1 + j) undef) := fun j c hc => by have := h1 (j + 1) c (by simpa using hc); rwa [show off + (j + 1) = off + 1 + j by omega] at this
    have s2 : ∀ (j : Nat) (c : AV), bs[j]? = some c → LeafR x c (ys.getD (off + 1 + j) undef) := fun j c hc => by have := h2 (j + 1) c (by simpa using hc); rwa [show off + (j + 1) = off + 1 + j by omega] at this
    have f1 := h1 0 a rfl
    have f2 := h2 0 b rfl
    simp only [Nat.add_zero] at f1 f2
    cases a <;> cases b <;> simp only [eqCells, reduceCtorEq] at h
    · split at h
      · rename_i q' hq'
        injection h with h; subst h
        rw [sbAnd_real, siCmp_real, eqCells_real as bs q' hq' xs ys (off + 1) s1 s2]
        simp only [List.length_cons, eqFrom, f1.int_inv, f2.int_inv, eqV, cmpR]
      · cases h
    · split at h
      · rename_i q' hq'
        injection h with h; subst h
        rw [sbAnd_real, sbEq_real, eqCells_real as bs q' hq' xs ys (off + 1) s1 s2]
        simp only [List.length_cons, eqFrom, f1.bool_inv, f2.bool_inv, eqV]
      · cases h

/-- arithmetic and comparing -/
theorem binOp_sound {G : Nat → TI} (hG : GOK P G) {op : BinOp} {t : TypeId} {xo yo : Operand} {a b : AV} {va vb : Value} {K : AV → Prop} (ha : RelV x a va) (hb : RelV x b vb)
    (h : binOp (realE P) (G t) op a b K) : ∃ v, K v ∧ ∃ val, (do eqGuard op t xo yo va vb; Go.binOp op t va vb : Sem Value).run P x.w = .ok val x.w ∧ RelV x v val := by
  unfold binOp at h
  split at h
  · rename_i k a k' b
    have e1 := ha.int_inv
    have e2 := hb.int_inv
    subst e1 e2
    split at h
    · rcases brB_real h with ⟨_, h2⟩ | ⟨h1, h2⟩
      · exact h2.elim
      · rw [siCmp_real] at h1
        have h1' : ¬ (b.val < 0) := by have := of_decide_eq_false h1; simpa [SI.val] using this
        refine ⟨_, h2, .int k (intBinR .shl k a.val b.val), ?_, rel_int _ _ _ (siBin_real _ _ _ _)⟩
        simp [eqGuard, Go.binOp, Op.shift, intBinR, if_neg h1', Result.andThen]
    · rcases brB_real h with ⟨_, h2⟩ | ⟨h1, h2⟩
      · exact h2.elim
      · rw [siCmp_real] at h1
        have h1' : ¬ (b.val < 0) := by have := of_decide_eq_false h1; simpa [SI.val] using this
        refine ⟨_, h2, .int k (intBinR .shr k a.val b.val), ?_, rel_int _ _ _ (siBin_real _ _ _ _)⟩
        simp [eqGuard, Go.binOp, Op.shift, intBinR, if_neg h1', Result.andThen]
    · cases hk : ikEq k k' with
      | false => rw [hk] at h; exact h.elim
      | true =>
        rw [hk] at h
        have := ikEq_eq hk
        subst this
        rw [cond_true] at h
        rcases brB_real h with ⟨_, h2⟩ | ⟨h1, h2⟩
        · exact h2.elim
        · rw [siCmp_real] at h1
          have h1' : ¬ (b.val = 0) := by intro h3; rw [h3] at h1; cases h1
          refine ⟨_, h2, .int k (intBinR .quo k a.val b.val), ?_, rel_int _ _ _ (siBin_real _ _ _ _)⟩
          simp [eqGuard, Go.binOp, Op.intDiv, intBinR, if_neg h1', Result.andThen]
    · cases hk : ikEq k k' with
      | false => rw [hk] at h; exact h.elim
      | true =>
        rw [hk] at h
        have := ikEq_eq hk
        subst this
        rw [cond_true] at h
        rcases brB_real h with ⟨_, h2⟩ | ⟨h1, h2⟩
        · exact h2.elim
        · rw [siCmp_real] at h1
          have h1' : ¬ (b.val = 0) := by intro h3; rw [h3] at h1; cases h1
          refine ⟨_, h2, .int k (intBinR .rem k a.val b.val), ?_, rel_int _ _ _ (siBin_real _ _ _ _)⟩
          simp [eqGuard, Go.binOp, Op.intDiv, intBinR, if_neg h1', Result.andThen]
    all_goals (
      cases hk : ikEq k k' with
      | false => rw [hk] at h; exact h.elim
      | true =>
        rw [hk] at h
        have := ikEq_eq hk
        subst this
        rw [cond_true] at h
        first
          | exact ⟨_, h, _, by simp [eqGuard, Go.binOp, Op.intCmp, Result.andThen]; rfl, rel_bool _ _ (by rw [siCmp_real]; rfl)⟩
          | (refine ⟨_, h, .int k (intBinR op k a.val b.val), ?_, rel_int _ _ _ (siBin_real _ _ _ _)⟩
             cases op <;> simp_all [eqGuard, Go.binOp, Op.intArith, Op.intBits, Op.intCmp, intBinR, Result.andThen]))
  · rename_i a b
    have e1 := ha.bool_inv
    have e2 := hb.bool_inv
    subst e1 e2
    split at h
    · rename_i hk
      obtain ⟨i, d, v, ht⟩ := hG.tok (t := t) (k := .bool) (sz := (G t).sz) (by_ := (G t).bytes) (z := (G t).zero) (fl := (G t).fl) (by rw [← hk]) (by simp)
      have hu : P.underlying t = some .bool := by rw [ht.und]; have := ht.kind; cases d <;> simp_all [tkOf]
      exact ⟨_, h, .bool (a.val == b.val), by simp [eqGuard, Go.binOp, Op.equal, Op.maxDepth, run_equalIn_bool' _ _ _ _ _ hu, Result.andThen], rel_bool _ _ (sbEq_real _ _)⟩
    · rename_i hk
      obtain ⟨i, d, v, ht⟩ := hG.tok (t := t) (k := .bool) (sz := (G t).sz) (by_ := (G t).bytes) (z := (G t).zero) (fl := (G t).fl) (by rw [← hk]) (by simp)
      have hu : P.underlying t = some .bool := by rw [ht.und]; have := ht.kind; cases d <;> simp_all [tkOf]
      exact ⟨_, h, .bool (!(a.val == b.val)), by simp [eqGuard, Go.binOp, Op.equal, Op.maxDepth, run_equalIn_bool' _ _ _ _ _ hu, Result.andThen], rel_bool _ _ (by rw [sbNot_real, sbEq_real])⟩
    · exact h.elim
  · rename_i as bs
    split at h
    · rename_i fs sz by_ z fl hk
      obtain ⟨i, d, v, ht⟩ := hG.tok hk (by simp)
      cases hf : fits fl as && fits fl bs with
      | false => rw [hf] at h; exact h.elim
      | true =>
        rw [hf, cond_true] at h
        simp only [Bool.and_eq_true] at hf
        obtain ⟨xs, rfl, hx, hxr⟩ := ha
        obtain ⟨ys, rfl, hy, hyr⟩ := hb
        obtain ⟨d', hd'⟩ : ∃ fs', d = .struct fs' := by have := ht.kind; cases d <;> simp_all [tkOf]
        subst hd'
        have fx := fits_fit (x := x) fl as hf.1
        have fy := fits_fit (x := x) fl bs hf.2
        have tx : FitT P t fl (.agg xs) := ⟨fun _ _ _ => ⟨xs, rfl, by omega⟩, fun d1 hd1 hn => (by rw [ht.und] at hd1; injection hd1 with hd1; subst hd1; cases hn),
          ⟨by simp [Value.cells]; omega, fun j k hj => fx.2 xs 0 (fun j c hc => by rw [Nat.zero_add]; exact hxr j c hc) j k hj⟩⟩
        have ty : FitT P t fl (.agg ys) := ⟨fun _ _ _ => ⟨ys, rfl, by omega⟩, fun d1 hd1 hn => (by rw [ht.und] at hd1; injection hd1 with hd1; subst hd1; cases hn),
          ⟨by simp [Value.cells]; omega, fun j k hj => fy.2 ys 0 (fun j c hc => by rw [Nat.zero_add]; exact hyr j c hc) j k hj⟩⟩
        have he := equal_flat 5 t fl ht.flat Op.maxDepth (by simp [Op.maxDepth]) (.agg xs) (.agg ys) x.w tx ty
        have hg := noGuard_flat 5 t fl ht.flat P.depth hG.depth
        split at h
        · rename_i q hq
          have := eqCells_real (x := x) as bs q hq xs ys 0 (fun j c hc => by rw [Nat.zero_add]; exact hxr j c hc) (fun j c hc => by rw [Nat.zero_add]; exact hyr j c hc)
          refine ⟨_, h, .bool q.val, ?_, rel_bool _ _ rfl⟩
          rw [this, ← fx.1]
          simp only [Value.cells] at he
          simp [eqGuard, Go.binOp, Op.equal, he, hg, Result.andThen]
        · rename_i q hq
          have := eqCells_real (x := x) as bs q hq xs ys 0 (fun j c hc => by rw [Nat.zero_add]; exact hxr j c hc) (fun j c hc => by rw [Nat.zero_add]; exact hyr j c hc)
          refine ⟨_, h, .bool (!q.val), ?_, rel_bool _ _ (sbNot_real _)⟩
          rw [this, ← fx.1]
          simp only [Value.cells] at he
          simp [eqGuard, Go.binOp, Op.equal, he, hg, Result.andThen]
        · exact h.elim
    · exact h.elim
  · rename_i a b
    have e1 := ha.str_inv
    have e2 := hb.str_inv
    subst e1 e2
    split at h
    · exact ⟨_, h, .bool (a == b), by simp [eqGuard, Go.binOp, Op.stringOp, Result.andThen, beq_toListBytes], rel_bool _ _ rfl⟩
    · exact ⟨_, h, .bool (!(a == b)), by simp [eqGuard, Go.binOp, Op.stringOp, Result.andThen, beq_toListBytes], rel_bool _ _ rfl⟩
    · exact h.elim
  · exact h.elim

theorem unOp_sound {op : UnOp} {a : AV} {va : Value} {K : AV → Prop} (ha : RelV x a va) (h : unOp (realE P) op a K) :
    ∃ v, K v ∧ ∃ val, (Op.unary op va).run P x.w = .ok val x.w ∧ RelV x v val := by
  unfold unOp at h
  split at h
  · rename_i b
    have := ha.bool_inv; subst this
    exact ⟨_, h, .bool (!b.val), by simp [Op.unary], rel_bool _ _ (sbNot_real _)⟩
  · rename_i k n
    have := ha.int_inv; subst this
    exact ⟨_, h, .int k (intBinR .sub k 0 n.val), by simp [Op.unary, Op.intArith, intBinR], rel_int _ _ _ (siBin_real _ _ _ _)⟩
  · rename_i k n
    have := ha.int_inv; subst this
    exact ⟨_, h, .int k (unR .xor k n.val), by simp [Op.unary, Op.intBits, unR], rel_int _ _ _ rfl⟩
  · exact h.elim
end ops
end Go.Proofs.Ytincnfjihffllaa.Ev
