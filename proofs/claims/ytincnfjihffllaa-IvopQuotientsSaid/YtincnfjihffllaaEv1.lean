/- A symbolic evaluator over the model's code: what it computes on. The definitions alone; nothing is proved here. -/
import Derived.Below
import Derived.Tactics
import Derived.StillTail
namespace Go.Proofs.Ytincnfjihffllaa.Ev
open Go

/-- a whole number: known in full, or told by a term. -/
inductive SI where
  | l (n : Int)
  | s (n : Int)
def SI.val : SI → Int
  | .l n => n
  | .s n => n
inductive SB where
  | l (b : Bool)
  | s (b : Bool)
def SB.val : SB → Bool
  | .l b => b
  | .s b => b

/-- Values as the evaluator sees them. 'sli', 'slc', 'rp': memory that is only read; 'ms', 'ptr': a place in a block of the call's own. -/
inductive AV where
  | un
  | lit (x : Value)
  | int (k : IntKind) (n : SI)
  | bool (b : SB)
  | str (s : ByteArray)
  | agg (cs : List AV)
  | tup (vs : List AV)
  | sli (k : IntKind) (l : List Int)
  | slc (sz : Nat) (n : SI) (f : Nat → List AV)
  | s0
  | ms (b sz : Nat) (row len : SI)
  | ptr (b sz : Nat) (row : SI) (col : Nat)
  | rp (cs : List AV)
  | fn (f : FuncId) (caps : List AV)

/-- A block of the call's own; 'w': it may be written. -/
inductive Blk where
  | dead
  | ints (w : Bool) (k : IntKind) (l : List Int)
  | rows (w : Bool) (sz : Nat) (d : List AV) (l : List (List AV))

structure St where
  t : List (Nat × AV)
  h : List Blk

inductive TK where
  | int (k : IntKind) | bool | str | struct (fs : List (Nat × Nat × Bool)) | slice (e : Nat) | array (n e : Nat) | ptr (e : Nat) | one | oth

structure TI where
  k : TK
  sz : Nat
  bytes : Nat
  zero : List AV
  fl : Option (List (Option IntKind))

def TK.agg : TK → Bool
  | .struct _ => true
  | .array _ _ => true
  | _ => false

/-- What is carried out on terms, and what is left to the proof. -/
structure Env where
  bin : BinOp → IntKind → Int → Int → Int
  cmp : BinOp → Int → Int → Bool
  un : UnOp → IntKind → Int → Int
  conv : IntKind → Int → Int
  plus : Int → Int → Int
  minus : Int → Int → Int
  bnot : Bool → Bool
  beq : Bool → Bool → Bool
  band : Bool → Bool → Bool
  seq : ByteArray → ByteArray → Bool
  len : List Int → Int
  get : List Int → Int → Int
  set : List Int → Int → Int → List Int
  sub : List Int → Int → Int → List Int
  rep : Int → List Int
  app : List Int → List Int → List Int
  rget : List (List AV) → Int → List AV → List AV
  rset : List (List AV) → Int → List AV → List (List AV)
  rsub : List (List AV) → Int → Int → List (List AV)
  rapp : List (List AV) → List (List AV) → List (List AV)
  rlen : List (List AV) → Int
  rrep : Int → List AV → List (List AV)
  rof : Int → (Nat → List AV) → List (List AV)
  sget : (Nat → List AV) → Int → List AV
  ssub : (Nat → List AV) → Int → Nat → List AV
  rfun : List (List AV) → Int → List AV → Nat → List AV
  ofL : List Int → List (List AV)
  slen : ByteArray → Int
  sat : ByteArray → Int → Int
  br : Bool → (Unit → Prop) → (Unit → Prop) → Prop
  nm : Int → (Int → Prop) → Prop
  row : (Nat → List AV) → Int → (List AV → Prop) → Prop
  pcall : FuncId → List AV → (AV → Prop) → Prop
  call : FuncId → List AV → List Blk → Option (List AV × List Blk) → (AV → List Blk → Prop) → Prop

def lookT : List (Nat × AV) → Nat → AV
  | [], _ => .un
  | (i, v) :: r, j => bif Nat.beq i j then v else lookT r j

def lookG : List (Nat × TI) → Nat → TI
  | [], _ => ⟨.oth, 0, 0, [], none⟩
  | (i, v) :: r, j => bif Nat.beq i j then v else lookG r j

def ofLeaf : Value → AV
  | .int k n => .int k (.l n)
  | .bool b => .bool (.l b)
  | .string s => .str s
  | .slice none 0 0 => .s0
  | v => .lit v

def ofConst : Value → AV
  | .agg ys => .agg (ys.toList.map ofLeaf)
  | v => ofLeaf v

def opd (t : List (Nat × AV)) : Operand → AV
  | .tmp i => lookT t i
  | .const v => ofConst v
  | .func f => .fn f []
  | .global _ => .un

def brB (E : Env) (b : SB) (t f : Unit → Prop) : Prop :=
  match b with
  | .l true => t ()
  | .l false => f ()
  | .s b => E.br b t f

def brAV (E : Env) (c : AV) (t f : Unit → Prop) : Prop :=
  match c with
  | .bool b => brB E b t f
  | _ => False

def intBinR (op : BinOp) (k : IntKind) (a b : Int) : Int :=
  match op with
  | .add => k.wrap (a + b)
  | .sub => k.wrap (a - b)
  | .mul => k.wrap (a * b)
  | .quo => k.wrap (a.tdiv b)
  | .rem => a.tmod b
  | .and => k.wrap (BitVec.ofInt k.bits a &&& BitVec.ofInt k.bits b).toNat
  | .or => k.wrap (BitVec.ofInt k.bits a ||| BitVec.ofInt k.bits b).toNat
  | .xor => k.wrap (BitVec.ofInt k.bits a ^^^ BitVec.ofInt k.bits b).toNat
  | .andNot => k.wrap (BitVec.ofInt k.bits a &&& ~~~BitVec.ofInt k.bits b).toNat
  | .shl => k.wrap (a * 2 ^ (min b.toNat k.bits))
  | .shr => a.fdiv (2 ^ (min b.toNat k.bits))
  | _ => 0

def cmpR (op : BinOp) (a b : Int) : Bool :=
  match op with
  | .eql => a == b
  | .neq => a != b
  | .lss => decide (a < b)
  | .leq => decide (a ≤ b)
  | .gtr => decide (a > b)
  | .geq => decide (a ≥ b)
  | _ => false

def unR (op : UnOp) (k : IntKind) (n : Int) : Int :=
  match op with
  | .xor => k.wrap (BitVec.ofInt k.bits (if k.signed then -1 else k.max) ^^^ BitVec.ofInt k.bits n).toNat
  | _ => 0

def siBin (E : Env) (op : BinOp) (k : IntKind) : SI → SI → SI
  | .l a, .l b => .l (intBinR op k a b)
  | .l a, .s b => .s (E.bin op k a b)
  | .s a, .l b => .s (E.bin op k a b)
  | .s a, .s b => .s (E.bin op k a b)

def siCmp (E : Env) (op : BinOp) : SI → SI → SB
  | .l a, .l b => .l (cmpR op a b)
  | .l a, .s b => .s (E.cmp op a b)
  | .s a, .l b => .s (E.cmp op a b)
  | .s a, .s b => .s (E.cmp op a b)

def isCmp : BinOp → Bool
  | .eql | .neq | .lss | .leq | .gtr | .geq => true
  | _ => false

def sbNot (E : Env) : SB → SB
  | .l b => .l (!b)
  | .s b => .s (E.bnot b)

def sbAnd (E : Env) : SB → SB → SB
  | .l true, y => y
  | .l false, _ => .l false
  | .s x, .l true => .s x
  | .s _, .l false => .l false
  | .s x, .s y => .s (E.band x y)

def sbEq (E : Env) : SB → SB → SB
  | .l a, .l b => .l (a == b)
  | .l a, .s b => .s (E.beq a b)
  | .s a, .l b => .s (E.beq a b)
  | .s a, .s b => .s (E.beq a b)

/-- equality of cells that are numbers and bools -/
def eqCells (E : Env) : List AV → List AV → Option SB
  | [], [] => some (.l true)
  | .int _ a :: r, .int _ b :: r' => match eqCells E r r' with
    | some q => some (sbAnd E (siCmp E .eql a b) q)
    | none => none
  | .bool a :: r, .bool b :: r' => match eqCells E r r' with
    | some q => some (sbAnd E (sbEq E a b) q)
    | none => none
  | _, _ => none

def ikEq : IntKind → IntKind → Bool
  | .i8, .i8 | .i16, .i16 | .i32, .i32 | .i64, .i64 | .u8, .u8 | .u16, .u16 | .u32, .u32 | .u64, .u64 => true
  | _, _ => false

/-- cells of these kinds -/
def fits : List (Option IntKind) → List AV → Bool
  | [], [] => true
  | some k :: r, .int k' _ :: r' => ikEq k k' && fits r r'
  | none :: r, .bool _ :: r' => fits r r'
  | _, _ => false

def binOp (E : Env) (ti : TI) (op : BinOp) (x y : AV) (K : AV → Prop) : Prop :=
  match x, y with
  | .int k a, .int k' b =>
    match op with
    | .shl | .shr => brB E (siCmp E .lss b (.l 0)) (fun _ => False) (fun _ => K (.int k (siBin E op k a b)))
    | .quo | .rem => bif ikEq k k' then brB E (siCmp E .eql b (.l 0)) (fun _ => False) (fun _ => K (.int k (siBin E op k a b))) else False
    | .eql | .neq | .lss | .leq | .gtr | .geq => bif ikEq k k' then K (.bool (siCmp E op a b)) else False
    | _ => bif ikEq k k' then K (.int k (siBin E op k a b)) else False
  | .bool a, .bool b => match op, ti.k with
    | .eql, .bool => K (.bool (sbEq E a b))
    | .neq, .bool => K (.bool (sbNot E (sbEq E a b)))
    | _, _ => False
  | .agg a, .agg b => match ti with
    | ⟨.struct _, _, _, _, some fl⟩ => bif fits fl a && fits fl b then
      match op, eqCells E a b with
      | .eql, some q => K (.bool q)
      | .neq, some q => K (.bool (sbNot E q))
      | _, _ => False
      else False
    | _ => False
  | .str a, .str b => match op with
    | .eql => K (.bool (.s (E.seq a b)))
    | .neq => K (.bool (.s (E.bnot (E.seq a b))))
    | _ => False
  | _, _ => False

def unOp (E : Env) (op : UnOp) (x : AV) (K : AV → Prop) : Prop :=
  match op, x with
  | .not, .bool b => K (.bool (sbNot E b))
  | .neg, .int k n => K (.int k (siBin E .sub k (.l 0) n))
  | .xor, .int k n => K (.int k (.s (E.un .xor k n.val)))
  | _, _ => False

def siConv (E : Env) (k : IntKind) : SI → SI
  | .l a => .l (k.wrap a)
  | .s a => .s (E.conv k a)

def AV.cells : AV → List AV
  | .agg cs => cs
  | x => [x]

/-- is nothing in it of the call's own memory? -/
def AV.mf1 : AV → Bool
  | .ms _ _ _ _ | .ptr _ _ _ _ | .agg _ | .tup _ | .fn _ _ | .un => false
  | _ => true

def allB {α : Type} (p : α → Bool) : List α → Bool
  | [] => true
  | x :: r => bif p x then allB p r else false

/-- may it lie in one cell? -/
def AV.leaf : AV → Bool
  | .un | .agg _ | .tup _ => false
  | .lit x => x.oneCell'
  | .fn _ cs => allB AV.mf1 cs
  | _ => true

def AV.mf : AV → Bool
  | .agg cs => allB AV.mf1 cs
  | .fn _ cs => allB AV.mf1 cs
  | x => AV.mf1 x

def lenC : List AV → Nat
  | [] => 0
  | _ :: r => lenC r + 1

def splice : List AV → Nat → List AV → List AV
  | [], _, _ => []
  | l, _, [] => l
  | _ :: l, 0, v :: vs => v :: splice l 0 vs
  | c :: l, n + 1, vs => c :: splice l n vs

def setBlk : List Blk → Nat → Blk → List Blk
  | [], _, _ => []
  | _ :: r, 0, b => b :: r
  | c :: r, n + 1, b => c :: setBlk r n b

def getBlk : List Blk → Nat → Blk
  | [], _ => .dead
  | c :: _, 0 => c
  | _ :: r, n + 1 => getBlk r n

def lenB : List Blk → Nat
  | [] => 0
  | _ :: r => lenB r + 1

def appB : List Blk → Blk → List Blk
  | [], b => [b]
  | c :: r, b => c :: appB r b

def getRow : List (List AV) → Int → List AV
  | [], _ => []
  | c :: r, n => bif n == 0 then c else getRow r (n - 1)

def setRow : List (List AV) → Int → List AV → List (List AV)
  | [], _, _ => []
  | c :: r, n, v => bif n == 0 then v :: r else c :: setRow r (n - 1) v

def takeC : Nat → List AV → List AV
  | 0, _ => []
  | _, [] => []
  | n + 1, c :: r => c :: takeC n r

def dropC : Nat → List AV → List AV
  | 0, l => l
  | _, [] => []
  | n + 1, _ :: r => dropC n r

/-- a row of rows, by a number that is known, or not. -/
def rowAt (E : Env) (l : List (List AV)) (d : List AV) : SI → List AV
  | .l i => getRow l i
  | .s i => E.rget l i d

def rowPut (E : Env) (l : List (List AV)) (v : List AV) : SI → List (List AV)
  | .l i => setRow l i v
  | .s i => E.rset l i v

/-- so many cells, as a value: where they are all there. -/
def asVal (agg : Bool) (n : Nat) (cs : List AV) (K : AV → Prop) : Prop :=
  bif Nat.beq (lenC cs) n then (bif agg then K (.agg cs) else match cs with
    | [c] => K c
    | _ => False) else False

def loadAs (E : Env) (h : List Blk) (agg : Bool) (sz : Nat) (p : AV) (K : AV → Prop) : Prop :=
  match p with
  | .rp cs => asVal agg sz (takeC sz cs) K
  | .ptr b _ row col => match getBlk h b with
    | .ints _ k' l => bif Nat.beq sz 1 && Nat.beq col 0 && !agg then K (.int k' (.s (E.get l row.val))) else False
    | .rows _ _ d l => asVal agg sz (takeC sz (dropC col (rowAt E l d row))) K
    | .dead => False
  | _ => False

def load (E : Env) (G : Nat → TI) (h : List Blk) (t : Nat) (p : AV) (K : AV → Prop) : Prop :=
  match G t with
  | ⟨.oth, _, _, _, _⟩ => False
  | ⟨k, sz, _, _, _⟩ => loadAs E h k.agg sz p K

def storeAs (E : Env) (h : List Blk) (tsz : Nat) (p v : AV) (K : List Blk → Prop) : Prop :=
  match p with
  | .ptr b _ row col => match getBlk h b with
    | .ints true k l => match v with
      | .int k' n => bif Nat.beq tsz 1 && Nat.beq col 0 && ikEq k k' then K (setBlk h b (.ints true k (E.set l row.val n.val))) else False
      | _ => False
    | .rows true sz d l =>
      bif Nat.beq (lenC v.cells) tsz && Nat.ble (col + lenC v.cells) (lenC (rowAt E l d row)) && Nat.beq (lenC (rowAt E l d row)) sz && allB AV.leaf v.cells
      then K (setBlk h b (.rows true sz d (rowPut E l (splice (rowAt E l d row) col v.cells) row))) else False
    | _ => False
  | _ => False

def store (E : Env) (G : Nat → TI) (h : List Blk) (t : Nat) (p v : AV) (K : List Blk → Prop) : Prop :=
  match G t with
  | ⟨.oth, _, _, _, _⟩ => False
  | ⟨_, tsz, _, _, _⟩ => storeAs E h tsz p v K

def nthF : List (Nat × Nat × Bool) → Nat → Option (Nat × Nat × Bool)
  | [], _ => none
  | c :: _, 0 => some c
  | _ :: r, n + 1 => nthF r n

def nthA : List AV → Nat → Option AV
  | [], _ => none
  | c :: _, 0 => some c
  | _ :: r, n + 1 => nthA r n

/-- a struct's parts laid into its noughts. -/
def fill (fs : List (Nat × Nat × Bool)) (ρ : Operand → AV) : List (Nat × Operand) → List AV → Option (List AV)
  | [], cs => some cs
  | (i, x) :: r, cs => match nthF fs i with
    | some (off, sz, _) => bif Nat.beq (lenC (ρ x).cells) sz && Nat.ble (off + sz) (lenC cs) && allB AV.leaf (ρ x).cells then fill fs ρ r (splice cs off (ρ x).cells) else none
    | none => none

/-- a slice literal's rows: part after part, each in its place. -/
def partsOK (sz : Nat) (ρ : Operand → AV) : Nat → List (Nat × Operand) → Option (List (List AV))
  | _, [] => some []
  | n, (i, x) :: r => bif Nat.beq i n && Nat.beq (lenC (ρ x).cells) sz && allB AV.leaf (ρ x).cells then match partsOK sz ρ (n + 1) r with
    | some l => some ((ρ x).cells :: l)
    | none => none else none

def intsOK (k : IntKind) : List (List AV) → Option (List Int)
  | [] => some []
  | [.int k' n] :: r => bif ikEq k k' then match intsOK k r with
    | some l => some (n.val :: l)
    | none => none else none
  | _ => none

def lenR : List (List AV) → Nat
  | [] => 0
  | _ :: r => lenR r + 1

/-- the length of what may be ranged over or measured -/
def lenOf (E : Env) : AV → Option SI
  | .sli _ l => some (.s (E.len l))
  | .slc _ n _ => some n
  | .s0 => some (.l 0)
  | .ms _ _ _ n => some n
  | .str s => some (.s (E.slen s))
  | _ => none

def siLe (E : Env) (a b : SI) (K : Unit → Prop) : Prop := brB E (siCmp E .leq a b) K (fun _ => False)
def siLt (E : Env) (a b : SI) (K : Unit → Prop) : Prop := brB E (siCmp E .lss a b) K (fun _ => False)

/-- a number less another one, where it is not less: with no wrapping. -/
def siSub (E : Env) : SI → SI → SI
  | .l a, .l b => .l (a - b)
  | .s a, .l 0 => .s a
  | x, y => .s (E.minus x.val y.val)
def siAdd (E : Env) : SI → SI → SI
  | .l a, .l b => .l (a + b)
  | .s a, .l 0 => .s a
  | .l 0, .s a => .s a
  | x, y => .s (E.plus x.val y.val)

def i64Of : AV → Option SI
  | .int _ n => some n
  | _ => none

def loOf (ρ : Operand → AV) : Option Operand → Option SI
  | none => some (.l 0)
  | some x => i64Of (ρ x)

def hiOf (ρ : Operand → AV) (n : SI) : Option Operand → Option SI
  | none => some n
  | some x => i64Of (ρ x)

def cutTo (E : Env) (x : AV) (lo hi : SI) (K : AV → Prop) : Prop :=
  match x with
  | .sli k l => K (.sli k (E.sub l lo.val (siSub E hi lo).val))
  | .slc sz _ f => match lo with
    | .l 0 => K (.slc sz hi f)
    | lo => K (.slc sz (siSub E hi lo) (E.ssub f lo.val))
  | .ms b sz row _ => K (.ms b sz (siAdd E row lo) (siSub E hi lo))
  | _ => False

/-- has a slice's type elements of so many cells? -/
def elemOK (G : Nat → TI) (t : Nat) (x : AV) : Bool :=
  match G t with
  | ⟨.slice e, _, _, _, _⟩ => match G e with
    | ⟨.oth, _, _, _, _⟩ => false
    | ⟨_, sz, _, _, _⟩ => match x with
      | .sli _ _ => Nat.beq sz 1
      | .slc sz' _ _ => Nat.beq sz sz'
      | .ms _ sz' _ _ => Nat.beq sz sz'
      | .s0 => true
      | _ => false
  | ⟨.str, _, _, _, _⟩ => match x with
    | .str _ => true
    | _ => false
  | _ => false

def evSlice (E : Env) (G : Nat → TI) (t : Nat) (x : AV) (ρ : Operand → AV) (lo hi mx : Option Operand) (K : AV → Prop) : Prop :=
  bif elemOK G t x then
  match lenOf E x with
  | none => False
  | some n => match loOf ρ lo, hiOf ρ n hi with
    | some l, some h => match mx with
      | none => siLe E (.l 0) l (fun _ => siLe E l h (fun _ => siLe E h n (fun _ => cutTo E x l h K)))
      | some m => match ρ m, l, h, hi with
        | .int _ (.l 0), .l 0, .l 0, some _ => match x with
          | .str _ => False
          | _ => K .s0
        | _, _, _, _ => False
    | _, _ => False
  else False

def idxSl (E : Env) (G : Nat → TI) (t : Nat) (n : SI) (x : AV) (K : AV → Prop) : Prop :=
  bif elemOK G t x then match x with
  | .sli k l => siLe E (.l 0) n (fun _ => siLt E n (.s (E.len l)) (fun _ => K (.rp [.int k (.s (E.get l n.val))])))
  | .slc _ m f => siLe E (.l 0) n (fun _ => siLt E n m (fun _ => match n with
      | .l i => K (.rp (f i.toNat))
      | .s i => E.row f i (fun cs => K (.rp cs))))
  | .ms b sz row m => siLe E (.l 0) n (fun _ => siLt E n m (fun _ => K (.ptr b sz (siAdd E row n) 0)))
  | _ => False
  else False

def evIndexAddr (E : Env) (G : Nat → TI) (h : List Blk) (t : Nat) (x i : AV) (K : AV → Prop) : Prop :=
  match i with
  | .int _ n => match x with
    | .ptr b sz row col => match G t with
      | ⟨.array c e, _, _, _, _⟩ => match G e with
        | ⟨.oth, _, _, _, _⟩ => False
        | ⟨_, esz, _, _, _⟩ => match row, n with
          | .l r, .l i => bif decide (0 ≤ i) && decide (i < c) then (bif Nat.beq esz sz && Nat.beq col 0 then (match getBlk h b with
              | .rows _ _ _ l => bif decide (0 ≤ r + i) && decide (r + i < lenR l) then K (.ptr b sz (.l (r + i)) 0) else False
              | _ => False) else
              K (.ptr b sz (.l r) (col + i.toNat * esz))) else False
          | _, _ => False
      | _ => False
    | x => idxSl E G t n x K
  | _ => False

def maxI (E : Env) : SI → SI → (SI → Prop) → Prop
  | a, b, K => brB E (siCmp E .gtr b a) (fun _ => K b) (fun _ => K a)
def minI (E : Env) : SI → SI → (SI → Prop) → Prop
  | a, b, K => brB E (siCmp E .lss b a) (fun _ => K b) (fun _ => K a)

def evBuiltin (E : Env) (G : Nat → TI) (b : Builtin) (xs : List AV) (ts : List Nat) (K : AV → Prop) : Prop :=
  match b, xs with
  | .len, [x] => match ts, lenOf E x with
    | t :: _, some n => bif elemOK G t x then K (.int .i64 n) else False
    | _, _ => False
  | .max, [.int k a, .int k' b] => bif ikEq k k' then maxI E a b (fun n => K (.int k n)) else False
  | .min, [.int k a, .int k' b] => bif ikEq k k' then minI E a b (fun n => K (.int k n)) else False
  | _, _ => False

/-- what a closure may hold -/
def capOK : AV → Bool
  | .ms _ _ _ _ => true
  | .ptr _ _ _ _ => true
  | c => c.mf

def evFieldAddr (ti : TI) (f : Nat) (a : AV) (K : AV → Prop) : Prop :=
  match ti, a with
  | ⟨.struct fs, _, _, _, _⟩, .ptr b sz row col => match nthF fs f with
    | some (off, fz, _) => bif Nat.ble 1 fz then K (.ptr b sz row (col + off)) else False
    | none => False
  | ⟨.struct fs, _, _, _, _⟩, .rp cs => match nthF fs f with
    | some (off, fz, _) => bif Nat.ble 1 fz then K (.rp (dropC off cs)) else False
    | none => False
  | _, _ => False

def evField (ti : TI) (f : Nat) (a : AV) (K : AV → Prop) : Prop :=
  match ti, a with
  | ⟨.struct fs, _, _, _, _⟩, .agg cs => match nthF fs f with
    | some (off, sz, a) => bif Nat.ble 1 sz then asVal a sz (takeC sz (dropC off cs)) K else False
    | none => False
  | _, _ => False

/-- What leaves the call's own memory alone. -/
def evPure (E : Env) (G : Nat → TI) (h : List Blk) (ρ : Operand → AV) (op : Op) (K : AV → Prop) : Prop :=
  match op with
  | .move x => K (ρ x)
  | .assign x => match ρ x with
    | .int k (.s n) => E.nm n (fun v => K (.int k (.s v)))
    | v => K v
  | .pick c a b => brAV E (ρ c) (fun _ => K (ρ a)) (fun _ => K (ρ b))
  | .build t parts => match G t with
    | ⟨.struct fs, _, _, z, _⟩ => bif allB (fun f => Nat.ble 1 f.2.1) fs then match fill fs ρ parts.toList z with
      | some cs => K (.agg cs)
      | none => False
      else False
    | _ => False
  | .buildSlice t n parts => match G t with
    | ⟨.slice e, _, _, _, _⟩ => match G e with
      | ⟨k, sz, _, _, _⟩ => match partsOK sz ρ 0 parts.toList with
        | some l => bif Nat.beq (lenR l) n && Nat.ble (n * sz) 1000 then
          match k with
          | .int k => match intsOK k l with
            | some l => K (.sli k l)
            | none => False
          | .oth => False
          | _ => bif allB (allB AV.mf1) l then K (.slc sz (.l n) (fun i => getRow l (Int.ofNat i))) else False
          else False
        | none => False
    | _ => False
  | .load t a => load E G h t (ρ a) K
  | .binOp op t x y _ => binOp E (G t) op (ρ x) (ρ y) K
  | .unOp op _ x => unOp E op (ρ x) K
  | .convert src dst x => match G src, G dst, ρ x with
    | ⟨.int _, _, _, _, _⟩, ⟨.int k, _, _, _, _⟩, .int _ n => K (.int k (siConv E k n))
    | _, _, _ => False
  | .fieldAddr t x f => evFieldAddr (G t) f (ρ x) K
  | .field t x f => evField (G t) f (ρ x) K
  | .indexAddr t x i => evIndexAddr E G h t (ρ x) (ρ i) K
  | .index t x i => match (G t).k, ρ x, ρ i with
    | .str, .str s, .int _ n => siLe E (.l 0) n (fun _ => siLt E n (.s (E.slen s)) (fun _ => K (.int .u8 (.s (E.sat s n.val)))))
    | _, _, _ => False
  | .slice t x lo hi mx => evSlice E G t (ρ x) ρ lo hi mx K
  | .extract x i => match ρ x with
    | .tup vs => match nthA vs i with
      | some v => K v
      | none => False
    | _ => False
  | .nilCheck x => match ρ x with
    | .ptr b sz r c => K (.ptr b sz r c)
    | .rp cs => K (.rp cs)
    | _ => False
  | .makeFunc fn first caps => match fn, first.toList with
    | .func f, [] => bif allB capOK (caps.toList.map ρ) then K (.fn f (caps.toList.map ρ)) else False
    | _, _ => False
  | .call ⟨.value f, args, _⟩ => match ρ f with
    | .fn g caps => E.pcall g ((args.toList.map ρ) ++ caps) K
    | _ => False
  | .call ⟨.builtin b, args, ts⟩ => evBuiltin E G b (args.toList.map ρ) ts.toList K
  | _ => False

/-- One value as a callee may read it; its block is written no more. -/
def frz1 (E : Env) (h : List Blk) : AV → Option (AV × List Blk)
  | .ms b _ row len => match getBlk h b with
    | .ints _ k l => some (.sli k (match row, len with
        | .l 0, _ => E.sub l 0 len.val
        | r, n => E.sub l r.val n.val), setBlk h b (.ints false k l))
    | .rows _ sz d l => some (.slc sz len (E.rfun l row.val d), setBlk h b (.rows false sz d l))
    | .dead => none
  | .ptr _ _ _ _ => none
  | .un => none
  | .tup _ => none
  | .agg _ => none
  | x => some (x, h)

def frzL (E : Env) : List Blk → List AV → Option (List AV × List Blk)
  | h, [] => some ([], h)
  | h, x :: r => match frz1 E h x with
    | some (y, h) => match frzL E h r with
      | some (ys, h) => some (y :: ys, h)
      | none => none
    | none => none

def frz (E : Env) (h : List Blk) : AV → Option (AV × List Blk)
  | .agg cs => match frzL E h cs with
    | some (ys, h) => some (.agg ys, h)
    | none => none
  | .fn f cs => match frzL E h cs with
    | some (ys, h) => some (.fn f ys, h)
    | none => none
  | x => frz1 E h x

def frzA (E : Env) : List Blk → List AV → Option (List AV × List Blk)
  | h, [] => some ([], h)
  | h, x :: r => match frz E h x with
    | some (y, h) => match frzA E h r with
      | some (ys, h) => some (y :: ys, h)
      | none => none
    | none => none

/-- the greatest length that is made or appended to. -/
def most : Int := 17179869184

/-- the first so many rows -/
def rowsTo (E : Env) (l : List (List AV)) : SI → List (List AV)
  | .l n => bif decide (Int.ofNat (lenR l) = n) then l else E.rsub l 0 n
  | .s n => E.rsub l 0 n

def sameB : Option Nat → Nat → Bool
  | some b, c => Nat.beq b c
  | none, _ => false

/-- what is appended, where it is a row of numbers: how long it is, and the numbers -/
def srcInts (E : Env) (h : List Blk) (b : Option Nat) (k : IntKind) : AV → Option (SI × List Int)
  | .ms c _ row len => bif sameB b c then none else match getBlk h c with
    | .ints _ k' l => bif ikEq k k' then some (len, E.sub l row.val len.val) else none
    | _ => none
  | .sli k' l => bif ikEq k k' then some (.s (E.len l), l) else none
  | _ => none

/-- what is appended, where it is a row of structs -/
def srcRows (E : Env) (h : List Blk) (b : Option Nat) (sz : Nat) : AV → Option (SI × List (List AV))
  | .ms c sz' row len => bif sameB b c then none else match getBlk h c with
    | .rows _ sz'' _ l => bif Nat.beq sz sz' && Nat.beq sz sz'' then some (len, match row, len with
        | .l 0, .l n => bif decide (Int.ofNat (lenR l) = n) then l else E.rsub l 0 n
        | r, n => E.rsub l r.val n.val) else none
    | _ => none
  | .slc sz' n f => bif Nat.beq sz sz' then some (n, E.rof n.val f) else none
  | _ => none

def evAppend (E : Env) (G : Nat → TI) (h : List Blk) (t t2 : Nat) (x y : AV) (K : AV → List Blk → Prop) : Prop :=
  match G t, G t2 with
  | ⟨.slice e, _, _, _, _⟩, ⟨.slice _, _, _, _, _⟩ => match G e with
    | ⟨.oth, _, _, _, _⟩ => False
    | ⟨.int k, sz, bytes, z, _⟩ =>
      bif Nat.ble bytes 128 && Nat.beq sz 1 && Nat.beq (lenC z) 1 then
      match x with
      | .ms b _ (.l 0) n => match getBlk h b with
        | .ints true k' l => bif ikEq k k' then match srcInts E h (some b) k y with
          | some (m, ys) => siLe E (siAdd E n m) (.l most) (fun _ =>
              K (.ms (lenB h) 1 (.l 0) (siAdd E n m)) (appB (setBlk h b .dead) (.ints true k (E.app (E.sub l 0 n.val) ys))))
          | none => False
          else False
        | _ => False
      | .s0 => match y with
        | .s0 => K .s0 h
        | y => match srcInts E h none k y with
          | some (m, ys) => brB E (siCmp E .eql m (.l 0)) (fun _ => K .s0 h) (fun _ =>
              siLe E m (.l most) (fun _ => K (.ms (lenB h) 1 (.l 0) m) (appB h (.ints true k ys))))
          | none => False
      | _ => False
      else False
    | ⟨_, sz, bytes, z, _⟩ =>
      bif Nat.ble bytes 128 && Nat.beq (lenC z) sz then
      match x with
      | .ms b _ (.l 0) n => match getBlk h b with
        | .rows true sz' d l => bif Nat.beq sz sz' then match srcRows E h (some b) sz y with
          | some (m, ys) => bif allB (allB AV.leaf) ys then siLe E (siAdd E n m) (.l most) (fun _ =>
              K (.ms (lenB h) sz (.l 0) (siAdd E n m)) (appB (setBlk h b .dead) (.rows true sz d (E.rapp (rowsTo E l n) ys)))) else False
          | none => False
          else False
        | _ => False
      | .s0 => match y with
        | .s0 => K .s0 h
        | y => match srcRows E h none sz y with
          | some (m, ys) => brB E (siCmp E .eql m (.l 0)) (fun _ => K .s0 h) (fun _ =>
              siLe E m (.l most) (fun _ => K (.ms (lenB h) sz (.l 0) m) (appB h (.rows true sz z ys))))
          | none => False
      | _ => False
      else False
  | _, _ => False

/-- nought, of a kind of numbers -/
def zInt (k : IntKind) : List AV → Bool
  | [.int k' (.l 0)] => ikEq k k'
  | _ => false

/-- cells, cut into rows -/
def chunks : Nat → Nat → List AV → List (List AV)
  | 0, _, _ => []
  | n + 1, sz, l => takeC sz l :: chunks n sz (dropC sz l)

/-- One operation. -/
def evOp (E : Env) (G : Nat → TI) (s : St) (op : Op) (K : AV → List Blk → Prop) : Prop :=
  match op with
  | .alloc t => match G t with
    | ⟨.oth, _, _, _, _⟩ => False
    | ⟨.array n e, _, _, z, _⟩ => match G e with
      | ⟨.oth, _, _, _, _⟩ => False
      | ⟨_, sz, _, z', _⟩ => bif Nat.beq (lenC z) (n * sz) && Nat.beq (lenC z') sz && Nat.ble 1 n then K (.ptr (lenB s.h) sz (.l 0) 0) (appB s.h (.rows true sz z' (chunks n sz z))) else False
    | ⟨_, sz, _, z, _⟩ => bif Nat.beq (lenC z) sz && allB AV.leaf z then K (.ptr (lenB s.h) sz (.l 0) 0) (appB s.h (.rows true sz z [z])) else False
  | .box t x => match G t with
    | ⟨.oth, _, _, _, _⟩ => False
    | ⟨.array _ _, _, _, _, _⟩ => False
    | ⟨_, sz, _, z, _⟩ => bif Nat.beq (lenC (opd s.t x).cells) sz && Nat.beq (lenC z) sz && allB AV.leaf (opd s.t x).cells then K (.ptr (lenB s.h) sz (.l 0) 0) (appB s.h (.rows true sz z [(opd s.t x).cells])) else False
  | .buildSlice t n parts => match G t with
    | ⟨.slice e, _, _, _, _⟩ => match G e with
      | ⟨k, sz, _, z, _⟩ => match partsOK sz (opd s.t) 0 parts.toList with
        | some l => bif Nat.beq (lenR l) n && Nat.ble (n * sz) 1000 && Nat.beq (lenC z) sz then
          match k with
          | .int k => match intsOK k l with
            | some l => K (.ms (lenB s.h) 1 (.l 0) (.l n)) (appB s.h (.ints true k l))
            | none => False
          | .oth => False
          | _ => K (.ms (lenB s.h) sz (.l 0) (.l n)) (appB s.h (.rows true sz z l))
          else False
        | none => False
    | _ => False
  | .makeSlice t n c => match G t, opd s.t n, opd s.t c with
    | ⟨.slice e, _, _, _, _⟩, .int kn n, .int kc c => match G e with
      | ⟨.int k, sz, bytes, z, _⟩ => bif ikEq kn .i64 && ikEq kc .i64 && Nat.ble bytes 16 && Nat.beq sz 1 && zInt k z then
          siLe E (.l 0) n (fun _ => siLe E n c (fun _ => siLe E c (.l most) (fun _ =>
            K (.ms (lenB s.h) 1 (.l 0) n) (appB s.h (.ints true k (E.rep n.val)))))) else False
      | _ => False
    | _, _, _ => False
  | .store t a x => store E G s.h t (opd s.t a) (opd s.t x) (fun h => K .un h)
  | .call ⟨.value f, args, _⟩ => match opd s.t f with
    | .fn g caps => E.call g ((args.toList.map (opd s.t)) ++ caps) s.h (frzA E s.h ((args.toList.map (opd s.t)) ++ caps)) K
    | _ => False
  | .call ⟨.builtin .append, args, ts⟩ => match args.toList, ts.toList with
    | [x, y], t :: t2 :: _ => evAppend E G s.h t t2 (opd s.t x) (opd s.t y) K
    | _, _ => False
  | op => evPure E G s.h (opd s.t) op (fun v => K v s.h)

inductive Ex where
  | normal | exit (id : Nat) | goto (l : Nat) | ret

def putT (t : List (Nat × AV)) (d : Option Nat) (v : AV) : List (Nat × AV) :=
  match d with
  | some d => (d, v) :: t
  | none => t

def nthO : List Oper → Nat → Option Nat
  | [], _ => none
  | o :: _, 0 => o.dst
  | _ :: r, n + 1 => nthO r n

/-- One operation of a region: 'go' where it is carried out. -/
def guarded (E : Env) (all : List Oper) (o : Oper) (s : St) (go skip : St → Prop) : Prop :=
  match o.guard with
  | none => go s
  | some (j, want) =>
    match nthO all j with
    | none => False
    | some d => match lookT s.t d with
      | .bool (.l b) => match b == want with
        | true => go s
        | false => skip s
      | .bool (.s b) => E.br b
          (fun _ => match want with
            | true => go ⟨putT s.t (some d) (.bool (.l true)), s.h⟩
            | false => skip ⟨putT s.t (some d) (.bool (.l true)), s.h⟩)
          (fun _ => match want with
            | true => skip ⟨putT s.t (some d) (.bool (.l false)), s.h⟩
            | false => go ⟨putT s.t (some d) (.bool (.l false)), s.h⟩)
      | .tup _ => skip s
      | _ => False

def evOps (E : Env) (G : Nat → TI) (all : List Oper) : List Oper → (St → Prop) → St → Prop
  | [], K, s => K s
  | o :: r, K, s => guarded E all o s
      (fun s => evOp E G s o.op (fun v h => evOps E G all r K ⟨putT s.t o.dst v, h⟩))
      (fun s => evOps E G all r K ⟨putT s.t o.dst (.tup []), s.h⟩)

/-- Operations of which the tape picks the order: they leave the call's own memory alone. -/
def evHead (E : Env) (G : Nat → TI) (all : List Oper) : List Oper → (St → Prop) → St → Prop
  | [], K, s => K s
  | o :: r, K, s => guarded E all o s
      (fun s => evPure E G s.h (opd s.t) o.op (fun v => evHead E G all r K ⟨putT s.t o.dst v, s.h⟩))
      (fun s => evHead E G all r K ⟨putT s.t o.dst (.tup []), s.h⟩)

def isTail : Oper → Bool
  | ⟨_, .assign _, _, _, _, _⟩ => true
  | ⟨_, .store _ _ _, _, _, _, _⟩ => true
  | _ => false

/-- how many stand ahead of the stores at the end. -/
def headLen : List Oper → Nat
  | [] => 0
  | o :: r => bif allB isTail (o :: r) then 0 else headLen r + 1

/-- does one of them wait, in one way of reading the text, for one behind it? -/
def lateB : Nat → List Oper → Bool
  | _, [] => false
  | i, o :: r => bif allB (fun e => Nat.blt e.on i) o.after.toList then lateB (i + 1) r else true

def lenO : List Oper → Nat
  | [] => 0
  | _ :: r => lenO r + 1

/-- how many are carried out apart, in whatever order. -/
def headN (l : List Oper) : Nat := bif lateB 0 l then lenO l else headLen l

def takeO : Nat → List Oper → List Oper
  | 0, _ => []
  | _, [] => []
  | n + 1, c :: r => c :: takeO n r

def dropO : Nat → List Oper → List Oper
  | 0, l => l
  | _, [] => []
  | n + 1, _ :: r => dropO n r

def evDraw0 (E : Env) (G : Nat → TI) (l : List Oper) (K : St → Prop) (s : St) : Prop :=
  evHead E G l (takeO (headN l) l) (fun s => evOps E G l (dropO (headN l) l) K s) s

/-! ### regions with new variables, and with stores that may come early -/
def isAl : Oper → Bool
  | ⟨_, .alloc _, _, _, _, _⟩ => true
  | _ => false
def isSt : Oper → Bool
  | ⟨_, .store _ _ _, _, _, _, _⟩ => true
  | _ => false
def anyB {α : Type} (p : α → Bool) : List α → Bool
  | [] => false
  | x :: r => bif p x then true else anyB p r
def noGuards (l : List Oper) : Bool := allB (fun o => match o.guard with
  | none => true
  | some _ => false) l
/-- a read of a variable -/
def readsT (d : Nat) (o : Oper) : Bool := match o.op with
  | .move (.tmp u) => Nat.beq u d
  | _ => false
def clash (hd : List Oper) (o : Oper) : Bool := match o.dst with
  | some d => anyB (readsT d) hd
  | none => false
/-- is it told by 'evLate'? -/
def lateUse (l : List Oper) : Bool :=
  bif noGuards l then bif anyB isAl (takeO (headLen l) l) then true else
    bif lateB 0 l then bif anyB isSt (dropO (headLen l) l) then true else anyB (clash (takeO (headLen l) l)) (dropO (headLen l) l) else false
  else false

def AV.old1 (n : Nat) : AV → Bool
  | .ms b _ _ _ => Nat.blt b n
  | .ptr b _ _ _ => Nat.blt b n
  | _ => true
def AV.oldA (n : Nat) : AV → Bool
  | .agg cs => allB (AV.old1 n) cs
  | .fn _ cs => allB (AV.old1 n) cs
  | c => AV.old1 n c
def AV.old (n : Nat) : AV → Bool
  | .tup cs => allB (AV.oldA n) cs
  | c => AV.oldA n c

/-- a new variable: of how many cells, and its block -/
def evAlloc (G : Nat → TI) (t : Nat) : Option (Nat × Blk) := match G t with
  | ⟨.oth, _, _, _, _⟩ => none
  | ⟨.array _ _, _, _, _, _⟩ => none
  | ⟨_, sz, _, z, _⟩ => bif Nat.beq (lenC z) sz && allB AV.leaf z && allB (AV.old1 0) z then some (sz, .rows true sz z [z]) else none

def killAll : List Blk → List Nat → List Blk
  | h, [] => h
  | h, b :: r => killAll (setBlk h b .dead) r
/-- the blocks that are written at the end -/
def tailBlks (t : List (Nat × AV)) : List Oper → List Nat
  | [] => []
  | o :: r => match o.op with
    | .store _ a _ => match opd t a with
      | .ptr b _ _ _ => b :: tailBlks t r
      | _ => tailBlks t r
    | _ => tailBlks t r

def evLHead (E : Env) (G : Nat → TI) (n0 : Nat) (hd : List Blk) : List Oper → List (Nat × AV) → List Blk → (List (Nat × AV) → List Blk → Prop) → Prop
  | [], t, h, K => K t h
  | o :: r, t, h, K => match o.op with
    | .alloc ty => match o.dst with
      | none => False
      | some d => match evAlloc G ty with
        | none => False
        | some (sz, x) => evLHead E G n0 hd r ((d, .ptr (lenB h) sz (.l 0) 0) :: t) (appB h x) K
    | op => evPure E G hd (opd t) op (fun v => bif AV.old n0 v then evLHead E G n0 hd r (putT t o.dst v) h K else False)

def evLTail (E : Env) (G : Nat → TI) (n0 : Nat) (ds : List Nat) : List Oper → St → (St → Prop) → Prop
  | [], s, K => K s
  | o :: r, s, K => match o.op with
    | .assign y => match o.dst with
      | none => False
      | some d => evPure E G s.h (opd s.t) (.assign y) (fun v => evLTail E G n0 ds r ⟨(d, v) :: s.t, s.h⟩ K)
    | .store ty a x => match o.dst with
      | some _ => False
      | none => match opd s.t a with
        | .ptr b sz row col => bif Nat.ble n0 b || anyB (Nat.beq b) ds then store E G s.h ty (.ptr b sz row col) (opd s.t x) (fun h => evLTail E G n0 ds r ⟨s.t, h⟩ K) else False
        | _ => False
    | _ => False

def evLate (E : Env) (G : Nat → TI) (l : List Oper) (K : St → Prop) (s : St) : Prop :=
  evLHead E G (lenB s.h) (killAll s.h (tailBlks s.t (dropO (headLen l) l))) (takeO (headLen l) l) s.t s.h
    (fun t h => evLTail E G (lenB s.h) (tailBlks s.t (dropO (headLen l) l)) (dropO (headLen l) l) ⟨t, h⟩ K)

def evDraw (E : Env) (G : Nat → TI) (l : List Oper) (K : St → Prop) (s : St) : Prop :=
  match lateUse l with
  | true => evLate E G l K s
  | false => evDraw0 E G l K s

def ev (E : Env) (G : Nat → TI) (lp : Code → St → (Ex → St → Prop) → Prop) : Code → St → (Ex → St → Prop) → Prop
  | .skip, s, K => K .normal s
  | .label _, s, K => K .normal s
  | .ret, s, K => K .ret s
  | .exit i, s, K => K (.exit i) s
  | .goto i, s, K => K (.goto i) s
  | .region _ ops draw, s, K => match draw with
    | true => evDraw E G ops.toList (K .normal) s
    | false => evOps E G ops.toList ops.toList (K .normal) s
  | .seq a b, s, K => ev E G lp a s (fun e s => match e with
    | .normal => ev E G lp b s K
    | .ret => K .ret s
    | .exit i => K (.exit i) s
    | .goto l => K (.goto l) s)
  | .cond c a b, s, K => brAV E (opd s.t c) (fun _ => ev E G lp a s K) (fun _ => ev E G lp b s K)
  | .block i b, s, K => ev E G lp b s (fun e s => match e with
    | .exit j => bif Nat.beq i j then K .normal s else K (.exit j) s
    | .normal => K .normal s
    | .ret => K .ret s
    | .goto l => K (.goto l) s)
  | .loop b, s, K => lp b s K
  | _, _, _ => False

def evRes (E : Env) (G : Nat → TI) (s : St) : List ResultVar → (List AV → Prop) → Prop
  | [], K => K []
  | .tmp t :: r, K => evRes E G s r (fun vs => K (lookT s.t t :: vs))
  | .cell a t :: r, K => load E G s.h t (lookT s.t a) (fun v => evRes E G s r (fun vs => K (v :: vs)))

def AV.noTup : AV → Bool
  | .tup _ => false
  | _ => true

def retOf (K : AV → List Blk → Prop) (h : List Blk) : List AV → Prop
  | [v] => K v h
  | vs => bif allB AV.noTup vs then K (.tup vs) h else False

def params : Nat → List AV → List (Nat × AV)
  | _, [] => []
  | n, a :: r => (n, a) :: params (n + 1) r

/-- A call, over memory of its own. -/
def evF (E : Env) (G : Nat → TI) (lp : Code → St → (Ex → St → Prop) → Prop) (f : Func) (args : List AV) (h : List Blk) (K : AV → List Blk → Prop) : Prop :=
  match f.body with
  | some c => ev E G lp c ⟨params 0 args, h⟩ (fun e s => match e with
      | .ret => evRes E G s f.results.toList (retOf K s.h)
      | .normal => evRes E G s f.results.toList (retOf K s.h)
      | _ => False)
  | none => False
end Go.Proofs.Ytincnfjihffllaa.Ev
