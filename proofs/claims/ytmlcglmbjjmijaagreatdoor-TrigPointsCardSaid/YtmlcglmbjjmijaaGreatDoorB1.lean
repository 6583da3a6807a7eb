/- Texts of the proof, joined and shortened. -/
import Derived.Below
import Derived.Tactics
import Derived.StillTail
import Derived.Laws.StructEq
import Derived.Laws.Cells
set_option linter.unusedVariables false
set_option linter.unusedSimpArgs false
namespace Go.Proofs.YtmlcglmbjjmijaaGreatDoor.Ev
theorem Aa : type_of% @decide_eq_false_iff_not := @decide_eq_false_iff_not
theorem Ab : type_of% @decide_eq_true_eq := @decide_eq_true_eq
theorem Ac : type_of% @Int.ofNat_eq_natCast := @Int.ofNat_eq_natCast
theorem Ad : type_of% @Nat.eq_of_beq_eq_true := @Nat.eq_of_beq_eq_true
theorem Ae : type_of% @Nat.le_trans := @Nat.le_trans
theorem Af : type_of% @Int.mul_le_mul_of_nonneg_right := @Int.mul_le_mul_of_nonneg_right
theorem Ag : type_of% @Nat.pow_le_pow_right := @Nat.pow_le_pow_right
theorem Ah : type_of% @Nat.lt_of_le_of_lt := @Nat.lt_of_le_of_lt
theorem Ai : type_of% @Nat.mul_le_mul_right := @Nat.mul_le_mul_right
theorem Aj : type_of% @Bool.and_eq_true := @Bool.and_eq_true
theorem Ak : type_of% @Int.toNat_natCast := @Int.toNat_natCast
theorem Al : type_of% @Int.eq_ofNat_of_zero_le := @Int.eq_ofNat_of_zero_le
theorem Am : type_of% @Int.le_of_lt := @Int.le_of_lt
theorem An : type_of% @Nat.le_of_ble_eq_true := @Nat.le_of_ble_eq_true
theorem Ao : type_of% @Nat.eq_zero_or_pos := @Nat.eq_zero_or_pos
theorem Ap : type_of% @Nat.pow_add := @Nat.pow_add
theorem Aq : type_of% @Nat.pow_succ := @Nat.pow_succ
theorem Ar : type_of% @Nat.lt_or_ge := @Nat.lt_or_ge
theorem As : type_of% @Nat.mul_le_mul_left := @Nat.mul_le_mul_left
theorem At : type_of% @Int.mul_comm := @Int.mul_comm
theorem Au : type_of% @decide_eq_true := @decide_eq_true
theorem Av : type_of% @Nat.lt_of_lt_of_le := @Nat.lt_of_lt_of_le
theorem Aw : type_of% @Nat.mul_assoc := @Nat.mul_assoc
theorem Ax : type_of% @Nat.mul_comm := @Nat.mul_comm
theorem Ay : type_of% @Bool.and_assoc := @Bool.and_assoc
theorem Az : type_of% @decide_eq_false := @decide_eq_false
theorem Ba : type_of% @Nat.le_refl := @Nat.le_refl
theorem Bb : type_of% @Int.mul_lt_mul_of_pos_right := @Int.mul_lt_mul_of_pos_right
theorem Bc : type_of% @Int.le_refl := @Int.le_refl
theorem Bd : type_of% @Nat.add_mul := @Nat.add_mul
theorem Be : type_of% @Nat.zero_add := @Nat.zero_add
theorem Bf : type_of% @Nat.two_pow_pos := @Nat.two_pow_pos
theorem Bg : type_of% @Nat.pow_pos := @Nat.pow_pos
theorem Bh : type_of% @Int.mul_assoc := @Int.mul_assoc
theorem Bi : type_of% @Int.emod_eq_of_lt := @Int.emod_eq_of_lt
theorem Bj : type_of% @Int.mul_nonneg := @Int.mul_nonneg
theorem Bk : type_of% @decide_eq_decide := @decide_eq_decide
theorem Bl : type_of% @List.mem_range := @List.mem_range
theorem Bm : type_of% @Int.lt_or_le := @Int.lt_or_le
theorem Bn : type_of% @Nat.add_zero := @Nat.add_zero
theorem Bo : type_of% @Nat.div_le_self := @Nat.div_le_self
theorem Bp : type_of% @Int.natCast_mul := @Int.natCast_mul
theorem Bq : type_of% @Int.emod_nonneg := @Int.emod_nonneg
theorem Br : type_of% @Bool.false_eq_true := @Bool.false_eq_true
theorem Bs : type_of% @Iff.rfl := @Iff.rfl
theorem Bt : type_of% @of_decide_eq_true := @of_decide_eq_true
theorem Bu : type_of% @Nat.succ_le_of_lt := @Nat.succ_le_of_lt
theorem Bv : type_of% @Nat.div_lt_iff_lt_mul := @Nat.div_lt_iff_lt_mul
theorem Bw : type_of% @Int.mul_ediv_add_emod := @Int.mul_ediv_add_emod
theorem Bx : type_of% @Int.tmod_eq_emod_of_nonneg := @Int.tmod_eq_emod_of_nonneg
theorem By : type_of% @Nat.mul_one := @Nat.mul_one
theorem Bz : type_of% @Nat.mul_add := @Nat.mul_add
theorem Ca : type_of% @Nat.div_eq_of_lt := @Nat.div_eq_of_lt
theorem Cb : type_of% @Int.mul_le_mul_of_nonneg_left := @Int.mul_le_mul_of_nonneg_left
theorem Cc : type_of% @Int.ediv_nonneg := @Int.ediv_nonneg
theorem Cd : type_of% @Int.neg_mul := @Int.neg_mul
theorem Ce : type_of% @of_decide_eq_false := @of_decide_eq_false
theorem Cf : type_of% @Int.emod_lt_of_pos := @Int.emod_lt_of_pos
theorem Cg : type_of% @Nat.mul_lt_mul_of_pos_right := @Nat.mul_lt_mul_of_pos_right
theorem Ch : type_of% @Nat.div_add_mod := @Nat.div_add_mod
theorem Ci : type_of% @Nat.mod_two_eq_zero_or_one := @Nat.mod_two_eq_zero_or_one
theorem Cj : type_of% @Nat.pow_mul := @Nat.pow_mul
theorem Ck : type_of% @Int.natAbs_natCast := @Int.natAbs_natCast
theorem Cl : type_of% @Nat.div_div_eq_div_mul := @Nat.div_div_eq_div_mul
theorem Cm : type_of% @Int.le_ediv_iff_mul_le := @Int.le_ediv_iff_mul_le
theorem Co : type_of% @Nat.succ_mul := @Nat.succ_mul
theorem Cp : type_of% @Nat.mul_zero := @Nat.mul_zero
theorem Cq : type_of% @Int.lt_of_mul_lt_mul_right := @Int.lt_of_mul_lt_mul_right
theorem Cr : type_of% @Int.le_of_mul_le_mul_right := @Int.le_of_mul_le_mul_right
theorem Cs : type_of% @Nat.add_assoc := @Nat.add_assoc
theorem Ct : type_of% @Nat.pow_zero := @Nat.pow_zero
theorem Cu : type_of% @Nat.le_div_iff_mul_le := @Nat.le_div_iff_mul_le
theorem Cv : type_of% @Int.natCast_nonneg := @Int.natCast_nonneg
theorem Cw : type_of% @Int.pow_add := @Int.pow_add
theorem Cx : type_of% @Nat.zero_mul := @Nat.zero_mul
theorem Cy : type_of% @Int.toNat_zero := @Int.toNat_zero
theorem Cz : type_of% @Nat.mod_lt := @Nat.mod_lt
theorem Da : type_of% @Int.natCast_pow := @Int.natCast_pow
theorem Db : type_of% @Bool.or_eq_true := @Bool.or_eq_true
theorem Dc : type_of% @Int.tdiv_eq_ediv_of_nonneg := @Int.tdiv_eq_ediv_of_nonneg
theorem Dd : type_of% @Nat.mul_left_comm := @Nat.mul_left_comm
theorem De : type_of% @Int.le_trans := @Int.le_trans
theorem Df : type_of% @Int.mul_pos := @Int.mul_pos
theorem Dg : type_of% @Int.mul_ediv_cancel := @Int.mul_ediv_cancel
theorem Dh : type_of% @Nat.mod_eq_of_lt := @Nat.mod_eq_of_lt
theorem Di : type_of% @Nat.mul_le_mul := @Nat.mul_le_mul
theorem Dj : type_of% @Int.mul_le_mul := @Int.mul_le_mul
theorem Dk : type_of% @Int.lt_of_le_of_lt := @Int.lt_of_le_of_lt
theorem Dl : type_of% @Bool.not_eq_true' := @Bool.not_eq_true'
theorem Dm : type_of% @Bool.and_true := @Bool.and_true
theorem Dn : type_of% @Int.fdiv_eq_ediv_of_nonneg := @Int.fdiv_eq_ediv_of_nonneg
theorem Dp : type_of% @Int.natCast_ediv := @Int.natCast_ediv
theorem Dq : type_of% @Int.pow_pos := @Int.pow_pos
theorem Dr : type_of% @Nat.add_comm := @Nat.add_comm
theorem Ds : type_of% @Int.mul_ediv_mul_of_pos := @Int.mul_ediv_mul_of_pos
theorem Dt : type_of% @BitVec.toNat_or := @BitVec.toNat_or
theorem Du : type_of% @Int.ediv_eq_zero_of_lt := @Int.ediv_eq_zero_of_lt
theorem Dv : type_of% @Nat.one_mul := @Nat.one_mul
theorem Dw : type_of% @Nat.mul_pos := @Nat.mul_pos
theorem Dx : type_of% @Int.mul_add := @Int.mul_add
theorem Dz : type_of% @Nat.le_of_lt := @Nat.le_of_lt
theorem Ea : type_of% @Int.lt_trans := @Int.lt_trans
theorem Eb : type_of% @Int.ediv_lt_of_lt_mul := @Int.ediv_lt_of_lt_mul
theorem Ec : type_of% @BitVec.toNat_and := @BitVec.toNat_and
theorem Ed : type_of% @Nat.add_mul_div_left := @Nat.add_mul_div_left
theorem Ee : type_of% @Nat.div_mul_le_self := @Nat.div_mul_le_self
theorem Ef : type_of% @Int.toNat_of_nonneg := @Int.toNat_of_nonneg
theorem Eg : type_of% @BitVec.toNat_ofInt := @BitVec.toNat_ofInt
section
open Go
inductive SI where
 | l (n : Int)
 | s (n : Int)
def SI.val : SI → Int
 | .l n => n
 | .s n => n
inductive SB where
 | l (b : Bool)
 | s (b : Bool)
def SB.val : SB → Bool
 | .l b => b
 | .s b => b
inductive AV where
 | un
 | lit (x : Value)
 | int (k : IntKind) (n : SI)
 | bool (b : SB)
 | str (s : ByteArray)
 | agg (cs : List AV)
 | tup (vs : List AV)
 | sli (k : IntKind) (l : List Int)
 | slc (sz : Nat) (n : SI) (f : Nat → List AV)
 | s0
 | ms (b sz : Nat) (row len : SI)
 | ptr (b sz : Nat) (row : SI) (col : Nat)
 | rp (cs : List AV)
 | fn (f : FuncId) (caps : List AV)
 | bnd (f : FuncId) (bs : List AV)
 | slx (sz : Nat) (l : List (List AV))
def tZ : AV → Option (FuncId × List AV × List AV)
 | .fn g caps => some (g, [], caps)
 | .bnd g bs => some (g, bs, [])
 | _ => none
inductive Blk where
 | dead
 | ints (w : Bool) (k : IntKind) (l : List Int)
 | rows (w : Bool) (sz : Nat) (d : List AV) (l : List (List AV))
structure St where
 t : List (Nat × AV)
 h : List Blk
def globs : List (Nat × IntKind × List Int) := [(2, .u8, [0, 1, 28, 2, 29, 14, 24, 3, 30, 22, 20, 15, 25, 17, 4, 8, 31, 27, 13, 23, 21, 19, 16, 7, 26, 12, 18, 6, 11, 5, 10, 9])]
def aRH : List Nat := [5]
def aTD : List (Nat × List Nat) := []
def aOQ : List Nat := [86]
def inTs (a : Nat) : List Nat → Bool
 | [] => false
 | b :: r => bif Nat.beq a b then true else inTs a r
def aEZ : List (Nat × Operand) → Bool
 | [] => false
 | [(_, .tmp a)] => inTs a aOQ
 | _ :: r => aEZ r
def cntA : List AV → Nat
 | [] => 0
 | _ :: r => cntA r + 1
def cntI : List Int → Nat
 | [] => 0
 | _ :: r => cntI r + 1
def memN (n : Nat) : List Nat → Bool
 | [] => false
 | m :: r => bif Nat.beq n m then true else memN n r
def aQT : List (Nat × List Nat) → Nat → Option (List Nat)
 | [], _ => none
 | (i, v) :: r, j => bif Nat.beq i j then some v else aQT r j
def cW (d : List AV) : Option (List Nat) := match aTD with
 | [] => none
 | l => match d with
  | .lit (.pointer none) :: .s0 :: r => aQT l (cntA r)
  | _ => none
def iS (k : IntKind) : Option (List Nat) := match k with
 | .u8 => some aRH
 | _ => none
def cB (o : Option (List Nat)) (e : Nat) : Bool := match o with
 | none => true
 | some ts => memN e ts
def Blk.need : Blk → Option (List Nat)
 | .ints _ k _ => iS k
 | .rows _ _ d _ => cW d
 | .dead => none
def mI : List (Nat × IntKind × List Int) → Nat → AV
 | [], _ => .un
 | (i, k, l) :: r, g => bif Nat.beq i g then .rp (l.map (fun n => .int k (.l n))) else mI r g
inductive TK where
 | int (k : IntKind) | bool | str | struct (fs : List (Nat × Nat × Bool)) | slice (e : Nat) | array (n e : Nat) | ptr (e : Nat) | one | oth
structure TI where
 k : TK
 sz : Nat
 bytes : Nat
 zero : List AV
 fl : Option (List (Option IntKind))
def TK.agg : TK → Bool
 | .struct _ => true
 | .array _ _ => true
 | _ => false
structure Env where
 bin : BinOp → IntKind → Int → Int → Int
 cmp : BinOp → Int → Int → Bool
 un : UnOp → IntKind → Int → Int
 conv : IntKind → Int → Int
 plus : Int → Int → Int
 minus : Int → Int → Int
 bnot : Bool → Bool
 beq : Bool → Bool → Bool
 band : Bool → Bool → Bool
 seq : ByteArray → ByteArray → Bool
 len : List Int → Int
 get : List Int → Int → Int
 set : List Int → Int → Int → List Int
 sub : List Int → Int → Int → List Int
 rep : Int → List Int
 app : List Int → List Int → List Int
 rget : List (List AV) → Int → List AV → List AV
 rset : List (List AV) → Int → List AV → List (List AV)
 rsub : List (List AV) → Int → Int → List (List AV)
 rapp : List (List AV) → List (List AV) → List (List AV)
 rlen : List (List AV) → Int
 rrep : Int → List AV → List (List AV)
 rof : Int → (Nat → List AV) → List (List AV)
 sget : (Nat → List AV) → Int → List AV
 ssub : (Nat → List AV) → Int → Nat → List AV
 rfun : List (List AV) → Int → List AV → Nat → List AV
 ofL : List Int → List (List AV)
 slen : ByteArray → Int
 sat : ByteArray → Int → Int
 br : Bool → (Unit → Prop) → (Unit → Prop) → Prop
 nm : Int → (Int → Prop) → Prop
 row : (Nat → List AV) → Int → (List AV → Prop) → Prop
 nilS : Int → (Bool → Prop) → Prop
 pcall : FuncId → List AV → (AV → Prop) → Prop
 call : FuncId → List AV → List Blk → Option (List AV × List Blk) → (AV → List Blk → Prop) → Prop
def lookT : List (Nat × AV) → Nat → AV
 | [], _ => .un
 | (i, v) :: r, j => bif Nat.beq i j then v else lookT r j
def aIU : List (Nat × TI) → Nat → TI
 | [], _ => ⟨.oth, 0, 0, [], none⟩
 | (i, v) :: r, j => bif Nat.beq i j then v else aIU r j
def oR : Value → AV
 | .int k n => .int k (.l n)
 | .bool b => .bool (.l b)
 | .string s => .str s
 | .slice none 0 0 => .s0
 | v => .lit v
def ofConst : Value → AV
 | .agg ys => .agg (ys.toList.map oR)
 | v => oR v
def opd (t : List (Nat × AV)) : Operand → AV
 | .tmp i => lookT t i
 | .const v => ofConst v
 | .func f => .fn f []
 | .global g => mI globs g
def brB (E : Env) (b : SB) (t f : Unit → Prop) : Prop :=
 match b with
 | .l true => t ()
 | .l false => f ()
 | .s b => E.br b t f
def brAV (E : Env) (c : AV) (t f : Unit → Prop) : Prop :=
 match c with
 | .bool b => brB E b t f
 | _ => False
def aA (op : BinOp) (k : IntKind) (a b : Int) : Int :=
 match op with
 | .add => k.wrap (a + b)
 | .sub => k.wrap (a - b)
 | .mul => k.wrap (a * b)
 | .quo => k.wrap (a.tdiv b)
 | .rem => a.tmod b
 | .and => k.wrap (BitVec.ofInt k.bits a &&& BitVec.ofInt k.bits b).toNat
 | .or => k.wrap (BitVec.ofInt k.bits a ||| BitVec.ofInt k.bits b).toNat
 | .xor => k.wrap (BitVec.ofInt k.bits a ^^^ BitVec.ofInt k.bits b).toNat
 | .andNot => k.wrap (BitVec.ofInt k.bits a &&& ~~~BitVec.ofInt k.bits b).toNat
 | .shl => k.wrap (a * 2 ^ (min b.toNat k.bits))
 | .shr => a.fdiv (2 ^ (min b.toNat k.bits))
 | _ => 0
def cmpR (op : BinOp) (a b : Int) : Bool :=
 match op with
 | .eql => a == b
 | .neq => a != b
 | .lss => decide (a < b)
 | .leq => decide (a ≤ b)
 | .gtr => decide (a > b)
 | .geq => decide (a ≥ b)
 | _ => false
def unR (op : UnOp) (k : IntKind) (n : Int) : Int :=
 match op with
 | .xor => k.wrap (BitVec.ofInt k.bits (if k.signed then -1 else k.max) ^^^ BitVec.ofInt k.bits n).toNat
 | _ => 0
def aEC (E : Env) (op : BinOp) (k : IntKind) : SI → SI → SI
 | .l a, .l b => .l (aA op k a b)
 | .l a, .s b => .s (E.bin op k a b)
 | .s a, .l b => .s (E.bin op k a b)
 | .s a, .s b => .s (E.bin op k a b)
def mQ (E : Env) (op : BinOp) : SI → SI → SB
 | .l a, .l b => .l (cmpR op a b)
 | .l a, .s b => .s (E.cmp op a b)
 | .s a, .l b => .s (E.cmp op a b)
 | .s a, .s b => .s (E.cmp op a b)
def aHZ (E : Env) : SB → SB
 | .l b => .l (!b)
 | .s b => .s (E.bnot b)
def aDM (E : Env) : SB → SB → SB
 | .l true, y => y
 | .l false, _ => .l false
 | .s x, .l true => .s x
 | .s _, .l false => .l false
 | .s x, .s y => .s (E.band x y)
def sbEq (E : Env) : SB → SB → SB
 | .l a, .l b => .l (a == b)
 | .l a, .s b => .s (E.beq a b)
 | .s a, .l b => .s (E.beq a b)
 | .s a, .s b => .s (E.beq a b)
def jU (E : Env) : List AV → List AV → Option SB
 | [], [] => some (.l true)
 | .int _ a :: r, .int _ b :: r' => match jU E r r' with
  | some q => some (aDM E (mQ E .eql a b) q)
  | none => none
 | .bool a :: r, .bool b :: r' => match jU E r r' with
  | some q => some (aDM E (sbEq E a b) q)
  | none => none
 | _, _ => none
def ikEq : IntKind → IntKind → Bool
 | .i8, .i8 | .i16, .i16 | .i32, .i32 | .i64, .i64 | .u8, .u8 | .u16, .u16 | .u32, .u32 | .u64, .u64 => true
 | _, _ => false
def fits : List (Option IntKind) → List AV → Bool
 | [], [] => true
 | some k :: r, .int k' _ :: r' => ikEq k k' && fits r r'
 | none :: r, .bool _ :: r' => fits r r'
 | _, _ => false
def vY (E : Env) (ti : TI) (op : BinOp) (n : Int) (K : AV → Prop) : Prop :=
 match ti.k, op with
 | .slice _, .eql => E.nilS n (fun b => K (.bool (.s b)))
 | .slice _, .neq => E.nilS n (fun b => K (.bool (.s (E.bnot b))))
 | _, _ => False
def aGF (E : Env) (ti : TI) (op : BinOp) (x y : AV) (K : AV → Prop) (other : Unit → Prop) : Prop :=
 match x, y with
 | .sli _ l, .s0 => vY E ti op (E.len l) K
 | .slc _ n _, .s0 => vY E ti op n.val K
 | .ms _ _ _ n, .s0 => vY E ti op n.val K
 | .s0, .s0 => match ti.k, op with
  | .slice _, .eql => K (.bool (.l true))
  | .slice _, .neq => K (.bool (.l false))
  | _, _ => False
 | _, _ => other ()
def binOp (E : Env) (ti : TI) (op : BinOp) (x y : AV) (K : AV → Prop) : Prop :=
 match x, y with
 | .int k a, .int k' b =>
  match op with
  | .shl | .shr => brB E (mQ E .lss b (.l 0)) (fun _ => False) (fun _ => K (.int k (aEC E op k a b)))
  | .quo | .rem => bif ikEq k k' then brB E (mQ E .eql b (.l 0)) (fun _ => False) (fun _ => K (.int k (aEC E op k a b))) else False
  | .eql | .neq | .lss | .leq | .gtr | .geq => bif ikEq k k' then K (.bool (mQ E op a b)) else False
  | _ => bif ikEq k k' then K (.int k (aEC E op k a b)) else False
 | .bool a, .bool b => match op, ti.k with
  | .eql, .bool => K (.bool (sbEq E a b))
  | .neq, .bool => K (.bool (aHZ E (sbEq E a b)))
  | _, _ => False
 | .agg a, .agg b => match ti with
  | ⟨.struct _, _, _, _, some fl⟩ => bif fits fl a && fits fl b then
   match op, jU E a b with
   | .eql, some q => K (.bool q)
   | .neq, some q => K (.bool (aHZ E q))
   | _, _ => False
   else False
  | _ => False
 | .str a, .str b => match op with
  | .eql => K (.bool (.s (E.seq a b)))
  | .neq => K (.bool (.s (E.bnot (E.seq a b))))
  | _ => False
 | _, _ => False
def unOp (E : Env) (op : UnOp) (x : AV) (K : AV → Prop) : Prop :=
 match op, x with
 | .not, .bool b => K (.bool (aHZ E b))
 | .neg, .int k n => K (.int k (aEC E .sub k (.l 0) n))
 | .xor, .int k n => K (.int k (.s (E.un .xor k n.val)))
 | _, _ => False
def aLY (E : Env) (k : IntKind) : SI → SI
 | .l a => .l (k.wrap a)
 | .s a => .s (E.conv k a)
def AV.cells : AV → List AV
 | .agg cs => cs
 | x => [x]
def AV.mf1 : AV → Bool
 | .ms _ _ _ _ | .ptr _ _ _ _ | .agg _ | .tup _ | .fn _ _ | .un => false
 | _ => true
def allB {α : Type} (p : α → Bool) : List α → Bool
 | [] => true
 | x :: r => bif p x then allB p r else false
def AV.leaf : AV → Bool
 | .un | .agg _ | .tup _ => false
 | .lit x => x.oneCell'
 | .fn _ cs => allB AV.mf1 cs
 | _ => true
def AV.mf : AV → Bool
 | .agg cs => allB AV.mf1 cs
 | .fn _ cs => allB AV.mf1 cs
 | x => AV.mf1 x
def lenC : List AV → Nat
 | [] => 0
 | _ :: r => lenC r + 1
def splice : List AV → Nat → List AV → List AV
 | [], _, _ => []
 | l, _, [] => l
 | _ :: l, 0, v :: vs => v :: splice l 0 vs
 | c :: l, n + 1, vs => c :: splice l n vs
def setBlk : List Blk → Nat → Blk → List Blk
 | [], _, _ => []
 | _ :: r, 0, b => b :: r
 | c :: r, n + 1, b => c :: setBlk r n b
def bS : List Blk → Nat → Blk
 | [], _ => .dead
 | c :: _, 0 => c
 | _ :: r, n + 1 => bS r n
def lenB : List Blk → Nat
 | [] => 0
 | _ :: r => lenB r + 1
def appB : List Blk → Blk → List Blk
 | [], b => [b]
 | c :: r, b => c :: appB r b
def iM : List (List AV) → Int → List AV
 | [], _ => []
 | c :: r, n => bif n == 0 then c else iM r (n - 1)
def setRow : List (List AV) → Int → List AV → List (List AV)
 | [], _, _ => []
 | c :: r, n, v => bif n == 0 then v :: r else c :: setRow r (n - 1) v
def pS : Nat → List AV → List AV
 | 0, _ => []
 | _, [] => []
 | n + 1, c :: r => c :: pS n r
def pK : Nat → List AV → List AV
 | 0, l => l
 | _, [] => []
 | n + 1, _ :: r => pK n r
def rowAt (E : Env) (l : List (List AV)) (d : List AV) : SI → List AV
 | .l i => iM l i
 | .s i => E.rget l i d
def aEW (E : Env) (l : List (List AV)) (v : List AV) : SI → List (List AV)
 | .l i => setRow l i v
 | .s i => E.rset l i v
def sJ (agg : Bool) (n : Nat) (cs : List AV) (K : AV → Prop) : Prop :=
 bif Nat.beq (lenC cs) n then (bif agg then K (.agg cs) else match cs with
   | [c] => K c
   | _ => False) else False
def aBA (E : Env) (h : List Blk) (agg : Bool) (sz : Nat) (p : AV) (K : AV → Prop) : Prop :=
 match p with
 | .rp cs => sJ agg sz (pS sz cs) K
 | .ptr b _ row col => match bS h b with
  | .ints _ k' l => bif Nat.beq sz 1 && Nat.beq col 0 && !agg then K (.int k' (.s (E.get l row.val))) else False
  | .rows _ _ d l => sJ agg sz (pS sz (pK col (rowAt E l d row))) K
  | .dead => False
 | _ => False
def load (E : Env) (G : Nat → TI) (h : List Blk) (t : Nat) (p : AV) (K : AV → Prop) : Prop :=
 match G t with
 | ⟨.oth, _, _, _, _⟩ => False
 | ⟨k, sz, _, _, _⟩ => aBA E h k.agg sz p K
def qG (E : Env) (h : List Blk) (tsz : Nat) (p v : AV) (K : List Blk → Prop) : Prop :=
 match p with
 | .ptr b _ row col => match bS h b with
  | .ints true k l => match v with
   | .int k' n => bif Nat.beq tsz 1 && Nat.beq col 0 && ikEq k k' then K (setBlk h b (.ints true k (E.set l row.val n.val))) else False
   | _ => False
  | .rows true sz d l =>
   bif Nat.beq (lenC v.cells) tsz && Nat.ble (col + lenC v.cells) (lenC (rowAt E l d row)) && Nat.beq (lenC (rowAt E l d row)) sz && allB AV.leaf v.cells
   then K (setBlk h b (.rows true sz d (aEW E l (splice (rowAt E l d row) col v.cells) row))) else False
  | _ => False
 | _ => False
def store (E : Env) (G : Nat → TI) (h : List Blk) (t : Nat) (p v : AV) (K : List Blk → Prop) : Prop :=
 match G t with
 | ⟨.oth, _, _, _, _⟩ => False
 | ⟨_, tsz, _, _, _⟩ => qG E h tsz p v K
def nthF : List (Nat × Nat × Bool) → Nat → Option (Nat × Nat × Bool)
 | [], _ => none
 | c :: _, 0 => some c
 | _ :: r, n + 1 => nthF r n
def nthA : List AV → Nat → Option AV
 | [], _ => none
 | c :: _, 0 => some c
 | _ :: r, n + 1 => nthA r n
def fill (fs : List (Nat × Nat × Bool)) (ρ : Operand → AV) : List (Nat × Operand) → List AV → Option (List AV)
 | [], cs => some cs
 | (i, x) :: r, cs => match nthF fs i with
  | some (off, sz, _) => bif Nat.beq (lenC (ρ x).cells) sz && Nat.ble (off + sz) (lenC cs) && allB AV.leaf (ρ x).cells then fill fs ρ r (splice cs off (ρ x).cells) else none
  | none => none
def lB (sz : Nat) (ρ : Operand → AV) : Nat → List (Nat × Operand) → Option (List (List AV))
 | _, [] => some []
 | n, (i, x) :: r => bif Nat.beq i n && Nat.beq (lenC (ρ x).cells) sz && allB AV.leaf (ρ x).cells then match lB sz ρ (n + 1) r with
  | some l => some ((ρ x).cells :: l)
  | none => none else none
def oX (k : IntKind) : List (List AV) → Option (List Int)
 | [] => some []
 | [.int k' n] :: r => bif ikEq k k' then match oX k r with
  | some l => some (n.val :: l)
  | none => none else none
 | _ => none
def lenR : List (List AV) → Nat
 | [] => 0
 | _ :: r => lenR r + 1
def lenOf (E : Env) : AV → Option SI
 | .sli _ l => some (.s (E.len l))
 | .slc _ n _ => some n
 | .s0 => some (.l 0)
 | .ms _ _ _ n => some n
 | .str s => some (.s (E.slen s))
 | _ => none
def siLe (E : Env) (a b : SI) (K : Unit → Prop) : Prop := brB E (mQ E .leq a b) K (fun _ => False)
def siLt (E : Env) (a b : SI) (K : Unit → Prop) : Prop := brB E (mQ E .lss a b) K (fun _ => False)
def xW (E : Env) : SI → SI → SI
 | .l a, .l b => .l (a - b)
 | .s a, .l 0 => .s a
 | x, y => .s (E.minus x.val y.val)
def lP (E : Env) : SI → SI → SI
 | .l a, .l b => .l (a + b)
 | .s a, .l 0 => .s a
 | .l 0, .s a => .s a
 | x, y => .s (E.plus x.val y.val)
def aGP : AV → Option SI
 | .int _ n => some n
 | _ => none
def loOf (ρ : Operand → AV) : Option Operand → Option SI
 | none => some (.l 0)
 | some x => aGP (ρ x)
def hiOf (ρ : Operand → AV) (n : SI) : Option Operand → Option SI
 | none => some n
 | some x => aGP (ρ x)
def aHM (E : Env) (x : AV) (lo hi : SI) (K : AV → Prop) : Prop :=
 match x with
 | .sli k l => K (.sli k (E.sub l lo.val (xW E hi lo).val))
 | .slc sz _ f => match lo with
  | .l 0 => K (.slc sz hi f)
  | lo => K (.slc sz (xW E hi lo) (E.ssub f lo.val))
 | .ms b sz row _ => K (.ms b sz (lP E row lo) (xW E hi lo))
 | _ => False
def mT (G : Nat → TI) (t : Nat) (x : AV) : Bool :=
 match G t with
 | ⟨.slice e, _, _, _, _⟩ => match G e with
  | ⟨.oth, _, _, _, _⟩ => false
  | ⟨_, sz, _, _, _⟩ => match x with
   | .sli _ _ => Nat.beq sz 1
   | .slc sz' _ _ => Nat.beq sz sz'
   | .ms _ sz' _ _ => Nat.beq sz sz'
   | .s0 => true
   | _ => false
 | ⟨.str, _, _, _, _⟩ => match x with
  | .str _ => true
  | _ => false
 | _ => false
def qV (E : Env) (G : Nat → TI) (t : Nat) (x : AV) (ρ : Operand → AV) (lo hi mx : Option Operand) (K : AV → Prop) : Prop :=
 bif mT G t x then
 match lenOf E x with
 | none => False
 | some n => match loOf ρ lo, hiOf ρ n hi with
  | some l, some h => match mx with
   | none => siLe E (.l 0) l (fun _ => siLe E l h (fun _ => siLe E h n (fun _ => aHM E x l h K)))
   | some m => match ρ m, l, h, hi with
    | .int _ (.l 0), .l 0, .l 0, some _ => match x with
     | .s0 => K .s0
     | _ => False
    | _, _, _, _ => False
  | _, _ => False
 else False
def aBK (E : Env) (G : Nat → TI) (t : Nat) (n : SI) (x : AV) (K : AV → Prop) : Prop :=
 bif mT G t x then match x with
 | .sli k l => siLe E (.l 0) n (fun _ => siLt E n (.s (E.len l)) (fun _ => K (.rp [.int k (.s (E.get l n.val))])))
 | .slc _ m f => siLe E (.l 0) n (fun _ => siLt E n m (fun _ => match n with
   | .l i => K (.rp (f i.toNat))
   | .s i => E.row f i (fun cs => K (.rp cs))))
 | .ms b sz row m => siLe E (.l 0) n (fun _ => siLt E n m (fun _ => K (.ptr b sz (lP E row n) 0)))
 | _ => False
 else False
def wQ (k : IntKind) : List AV → Option (List Int)
 | [] => some []
 | .int k' n :: r => bif ikEq k k' then match wQ k r with
  | some l => some (n.val :: l)
  | none => none else none
 | _ => none
def fF (E : Env) (G : Nat → TI) (h : List Blk) (t : Nat) (x i : AV) (K : AV → Prop) : Prop :=
 match i with
 | .int _ n => match x with
  | .ptr b sz row col => match G t with
   | ⟨.array c e, _, _, _, _⟩ => match G e with
    | ⟨.oth, _, _, _, _⟩ => False
    | ⟨_, esz, _, _, _⟩ => match row, n with
     | .l r, .l i => bif decide (0 ≤ i) && decide (i < c) then (bif Nat.beq esz sz && Nat.beq col 0 then (match bS h b with
       | .rows _ _ _ l => bif decide (0 ≤ r + i) && decide (r + i < lenR l) then K (.ptr b sz (.l (r + i)) 0) else False
       | _ => False) else
       K (.ptr b sz (.l r) (col + i.toNat * esz))) else False
     | _, _ => False
   | _ => False
  | .rp cs => match G t with
   | ⟨.array c e, _, _, _, _⟩ => match G e with
    | ⟨.int k, sz, _, _, _⟩ => match wQ k cs with
     | some l => bif Nat.beq sz 1 && Nat.beq (cntI l) c then siLe E (.l 0) n (fun _ => siLt E n (.l c) (fun _ => K (.rp [.int k (.s (E.get l n.val))]))) else False
     | none => False
    | _ => False
   | _ => False
  | x => aBK E G t n x K
 | _ => False
def maxI (E : Env) : SI → SI → (SI → Prop) → Prop
 | a, b, K => brB E (mQ E .gtr b a) (fun _ => K b) (fun _ => K a)
def minI (E : Env) : SI → SI → (SI → Prop) → Prop
 | a, b, K => brB E (mQ E .lss b a) (fun _ => K b) (fun _ => K a)
def kM (E : Env) (G : Nat → TI) (b : Builtin) (xs : List AV) (ts : List Nat) (K : AV → Prop) : Prop :=
 match b, xs with
 | .len, [x] => match ts, lenOf E x with
  | t :: _, some n => bif mT G t x then K (.int .i64 n) else False
  | _, _ => False
 | .max, [.int k a, .int k' b] => bif ikEq k k' then maxI E a b (fun n => K (.int k n)) else False
 | .min, [.int k a, .int k' b] => bif ikEq k k' then minI E a b (fun n => K (.int k n)) else False
 | _, _ => False
def aLQ : AV → Bool
 | .ms _ _ _ _ => true
 | .ptr _ _ _ _ => true
 | c => c.mf
def iI (ti : TI) (f : Nat) (a : AV) (K : AV → Prop) : Prop :=
 match ti, a with
 | ⟨.struct fs, _, _, _, _⟩, .ptr b sz row col => match nthF fs f with
  | some (off, fz, _) => bif Nat.ble 1 fz then K (.ptr b sz row (col + off)) else False
  | none => False
 | ⟨.struct fs, _, _, _, _⟩, .rp cs => match nthF fs f with
  | some (off, fz, _) => bif Nat.ble 1 fz then K (.rp (pK off cs)) else False
  | none => False
 | _, _ => False
def qA (ti : TI) (f : Nat) (a : AV) (K : AV → Prop) : Prop :=
 match ti, a with
 | ⟨.struct fs, _, _, _, _⟩, .agg cs => match nthF fs f with
  | some (off, sz, a) => bif Nat.ble 1 sz then sJ a sz (pS sz (pK off cs)) K else False
  | none => False
 | _, _ => False
def bO (E : Env) (G : Nat → TI) (h : List Blk) (ρ : Operand → AV) (op : Op) (K : AV → Prop) : Prop :=
 match op with
 | .move x => K (ρ x)
 | .assign x => match ρ x with
  | .int k (.s n) => E.nm n (fun v => K (.int k (.s v)))
  | v => K v
 | .pick c a b => brAV E (ρ c) (fun _ => K (ρ a)) (fun _ => K (ρ b))
 | .build t parts => match G t with
  | ⟨.struct fs, _, _, z, _⟩ => bif allB (fun f => Nat.ble 1 f.2.1) fs then match fill fs ρ parts.toList z with
   | some cs => K (.agg cs)
   | none => False
   else False
  | _ => False
 | .buildSlice t n parts => match G t with
  | ⟨.slice e, _, _, _, _⟩ => match G e with
   | ⟨k, sz, _, _, _⟩ => match lB sz ρ 0 parts.toList with
    | some l => bif Nat.beq (lenR l) n && Nat.ble (n * sz) 1000 then
     match k with
     | .int k => match oX k l with
      | some l => K (.sli k l)
      | none => False
     | .oth => False
     | _ => bif allB (allB AV.mf1) l then bif aEZ parts.toList then K (.slx sz l) else K (.slc sz (.l n) (fun i => iM l (Int.ofNat i))) else False
     else False
    | none => False
  | _ => False
 | .load t a => load E G h t (ρ a) K
 | .binOp op t x y _ => binOp E (G t) op (ρ x) (ρ y) K
 | .unOp op _ x => unOp E op (ρ x) K
 | .convert src dst x => match G src, G dst, ρ x with
  | ⟨.int _, _, _, _, _⟩, ⟨.int k, _, _, _, _⟩, .int _ n => K (.int k (aLY E k n))
  | _, _, _ => False
 | .fieldAddr t x f => iI (G t) f (ρ x) K
 | .field t x f => qA (G t) f (ρ x) K
 | .indexAddr t x i => fF E G h t (ρ x) (ρ i) K
 | .index t x i => match (G t).k, ρ x, ρ i with
  | .str, .str s, .int _ n => siLe E (.l 0) n (fun _ => siLt E n (.s (E.slen s)) (fun _ => K (.int .u8 (.s (E.sat s n.val)))))
  | _, _, _ => False
 | .slice t x lo hi mx => qV E G t (ρ x) ρ lo hi mx K
 | .extract x i => match ρ x with
  | .tup vs => match nthA vs i with
   | some v => K v
   | none => False
  | _ => False
 | .nilCheck x => match ρ x with
  | .ptr b sz r c => K (.ptr b sz r c)
  | .rp cs => K (.rp cs)
  | _ => False
 | .makeFunc fn first caps => match fn, first.toList with
  | .func f, [] => bif allB aLQ (caps.toList.map ρ) then K (.fn f (caps.toList.map ρ)) else False
  | .func f, [x] => match caps.toList with
   | [] => bif AV.mf (ρ x) then K (.bnd f [ρ x]) else False
   | _ => False
  | _, _ => False
 | .call ⟨.value f, args, _⟩ => match tZ (ρ f) with
  | some (g, bs, caps) => E.pcall g (bs ++ ((args.toList.map ρ) ++ caps)) K
  | none => False
 | .call ⟨.builtin b, args, ts⟩ => kM E G b (args.toList.map ρ) ts.toList K
 | _ => False
def frz1 (E : Env) (h : List Blk) : AV → Option (AV × List Blk)
 | .ms b _ row len => match bS h b with
  | .ints _ k l => some (.sli k (match row, len with
    | .l 0, _ => E.sub l 0 len.val
    | r, n => E.sub l r.val n.val), setBlk h b (.ints false k l))
  | .rows _ sz d l => some (.slc sz len (E.rfun l row.val d), setBlk h b (.rows false sz d l))
  | .dead => none
 | .ptr _ _ _ _ => none
 | .un => none
 | .tup _ => none
 | .agg _ => none
 | x => some (x, h)
def frzL (E : Env) : List Blk → List AV → Option (List AV × List Blk)
 | h, [] => some ([], h)
 | h, x :: r => match frz1 E h x with
  | some (y, h) => match frzL E h r with
   | some (ys, h) => some (y :: ys, h)
   | none => none
  | none => none
def frz (E : Env) (h : List Blk) : AV → Option (AV × List Blk)
 | .agg cs => match frzL E h cs with
  | some (ys, h) => some (.agg ys, h)
  | none => none
 | .fn f cs => match frzL E h cs with
  | some (ys, h) => some (.fn f ys, h)
  | none => none
 | x => frz1 E h x
def frzA (E : Env) : List Blk → List AV → Option (List AV × List Blk)
 | h, [] => some ([], h)
 | h, x :: r => match frz E h x with
  | some (y, h) => match frzA E h r with
   | some (ys, h) => some (y :: ys, h)
   | none => none
  | none => none
def most : Int := 17179869184
def aAY (E : Env) (l : List (List AV)) : SI → List (List AV)
 | .l n => bif decide (Int.ofNat (lenR l) = n) then l else E.rsub l 0 n
 | .s n => E.rsub l 0 n
def aHQ : Option Nat → Nat → Bool
 | some b, c => Nat.beq b c
 | none, _ => false
def tW (E : Env) (h : List Blk) (b : Option Nat) (k : IntKind) : AV → Option (SI × List Int)
 | .ms c _ row len => bif aHQ b c then none else match bS h c with
  | .ints _ k' l => bif ikEq k k' then some (len, E.sub l row.val len.val) else none
  | _ => none
 | .sli k' l => bif ikEq k k' then some (.s (E.len l), l) else none
 | _ => none
def rofN : Nat → (Nat → List AV) → Nat → List (List AV)
 | 0, _, _ => []
 | n + 1, f, i => f i :: rofN n f (i + 1)
def aFD (m : SI) (ys : List (List AV)) (K : Unit → Prop) : Prop :=
 match m with
 | .l _ => bif allB (allB AV.leaf) ys then K () else False
 | .s _ => allB (allB AV.leaf) ys = true ∧ K ()
def pG (E : Env) (h : List Blk) (b : Option Nat) (sz : Nat) : AV → Option (SI × List (List AV))
 | .ms c sz' row len => bif aHQ b c then none else match bS h c with
  | .rows _ sz'' _ l => bif Nat.beq sz sz' && Nat.beq sz sz'' then some (len, match row, len with
    | .l 0, .l n => bif decide (Int.ofNat (lenR l) = n) then l else E.rsub l 0 n
    | r, n => E.rsub l r.val n.val) else none
  | _ => none
 | .slc sz' n f => bif Nat.beq sz sz' then some (n, match n with
   | .l k => bif decide (0 ≤ k) then rofN k.toNat f 0 else E.rof k f
   | .s k => E.rof k f) else none
 | _ => none
def aNF : SI → Bool
 | .l (.ofNat 1) => true
 | _ => false
def uU (E : Env) (G : Nat → TI) (h : List Blk) (t t2 : Nat) (x y : AV) (K : AV → List Blk → Prop) : Prop :=
 match G t, G t2 with
 | ⟨.slice e, _, _, _, _⟩, ⟨.slice _, _, _, _, _⟩ => match G e with
  | ⟨.oth, _, _, _, _⟩ => False
  | ⟨.int k, sz, bytes, z, _⟩ =>
   bif Nat.ble bytes 128 && Nat.beq sz 1 && Nat.beq (lenC z) 1 && cB (iS k) e then
   match x with
   | .ms b _ (.l 0) n => match bS h b with
    | .ints true k' l => bif ikEq k k' then match tW E h (some b) k y with
     | some (m, ys) => siLe E (lP E n m) (.l most) (fun _ =>
       K (.ms (lenB h) 1 (.l 0) (lP E n m)) (appB (setBlk h b .dead) (.ints true k (E.app (E.sub l 0 n.val) ys))))
     | none => False
     else False
    | _ => False
   | .s0 => match y with
    | .s0 => K .s0 h
    | y => match tW E h none k y with
     | some (m, ys) => brB E (mQ E .eql m (.l 0)) (fun _ => K .s0 h) (fun _ =>
       siLe E m (.l most) (fun _ => K (.ms (lenB h) 1 (.l 0) m) (appB h (.ints true k ys))))
     | none => False
   | _ => False
   else False
  | ⟨_, sz, bytes, z, _⟩ =>
   bif Nat.ble bytes 128 && Nat.beq (lenC z) sz && cB (cW z) e then
   match x with
   | .ms b _ (.l 0) n => match bS h b with
    | .rows true sz' d l => bif Nat.beq sz sz' && cB (cW d) e then match pG E h (some b) sz y with
     | some (m, ys) => aFD m ys (fun _ => siLe E (lP E n m) (.l most) (fun _ =>
       K (.ms (lenB h) sz (.l 0) (lP E n m)) (appB (setBlk h b .dead) (.rows true sz d (E.rapp (aAY E l n) ys)))))
     | none => False
     else False
    | _ => False
   | .s0 => match y with
    | .s0 => K .s0 h
    | y => match pG E h none sz y with
     | some (m, ys) => brB E (mQ E .eql m (.l 0)) (fun _ => K .s0 h) (fun _ =>
       siLe E m (.l most) (fun _ => K (.ms (lenB h) sz (.l 0) m) (appB h (.rows true sz z ys))))
     | none => False
   | .slx sz' l => bif Nat.beq sz sz' then match pG E h none sz y with
    | some (m, ys) => bif aNF m && Nat.ble (lenR l) 1000 then K (.ms (lenB h) sz (.l 0) (.l (Int.ofNat (lenR l + 1)))) (appB h (.rows true sz z (l ++ ys))) else False
    | none => False
    else False
   | _ => False
   else False
 | _, _ => False
def zInt (k : IntKind) : List AV → Bool
 | [.int k' (.l 0)] => ikEq k k'
 | _ => false
def chunks : Nat → Nat → List AV → List (List AV)
 | 0, _, _ => []
 | n + 1, sz, l => pS sz l :: chunks n sz (pK sz l)
def evOp (E : Env) (G : Nat → TI) (s : St) (op : Op) (K : AV → List Blk → Prop) : Prop :=
 match op with
 | .alloc t => match G t with
  | ⟨.oth, _, _, _, _⟩ => False
  | ⟨.array n e, _, _, z, _⟩ => match G e with
   | ⟨.oth, _, _, _, _⟩ => False
   | ⟨_, sz, _, z', _⟩ => bif Nat.beq (lenC z) (n * sz) && Nat.beq (lenC z') sz && Nat.ble 1 n && cB (cW z') t then K (.ptr (lenB s.h) sz (.l 0) 0) (appB s.h (.rows true sz z' (chunks n sz z))) else False
  | ⟨_, sz, _, z, _⟩ => bif Nat.beq (lenC z) sz && allB AV.leaf z && cB (cW z) t then K (.ptr (lenB s.h) sz (.l 0) 0) (appB s.h (.rows true sz z [z])) else False
 | .box t x => match G t with
  | ⟨.oth, _, _, _, _⟩ => False
  | ⟨.array _ _, _, _, _, _⟩ => False
  | ⟨_, sz, _, z, _⟩ => bif Nat.beq (lenC (opd s.t x).cells) sz && Nat.beq (lenC z) sz && allB AV.leaf (opd s.t x).cells && cB (cW z) t then K (.ptr (lenB s.h) sz (.l 0) 0) (appB s.h (.rows true sz z [(opd s.t x).cells])) else False
 | .buildSlice t n parts => match G t with
  | ⟨.slice e, _, _, _, _⟩ => match G e with
   | ⟨k, sz, _, z, _⟩ => match lB sz (opd s.t) 0 parts.toList with
    | some l => bif Nat.beq (lenR l) n && Nat.ble (n * sz) 1000 && Nat.beq (lenC z) sz then
     match k with
     | .int k => match oX k l with
      | some l => bif cB (iS k) e then K (.ms (lenB s.h) 1 (.l 0) (.l n)) (appB s.h (.ints true k l)) else False
      | none => False
     | .oth => False
     | _ => bif cB (cW z) e then K (.ms (lenB s.h) sz (.l 0) (.l n)) (appB s.h (.rows true sz z l)) else False
     else False
    | none => False
  | _ => False
 | .makeSlice t n c => match G t, opd s.t n, opd s.t c with
  | ⟨.slice e, _, _, _, _⟩, .int kn n, .int kc c => match G e with
   | ⟨.int k, sz, bytes, z, _⟩ => bif ikEq kn .i64 && ikEq kc .i64 && Nat.ble bytes 16 && Nat.beq sz 1 && zInt k z && cB (iS k) e then
    siLe E (.l 0) n (fun _ => siLe E n c (fun _ => siLe E c (.l most) (fun _ =>
      K (.ms (lenB s.h) 1 (.l 0) n) (appB s.h (.ints true k (E.rep n.val)))))) else False
   | _ => False
  | _, _, _ => False
 | .store t a x => store E G s.h t (opd s.t a) (opd s.t x) (fun h => K .un h)
 | .binOp o t x y yt => aGF E (G t) o (opd s.t x) (opd s.t y) (fun v => K v s.h) (fun _ => bO E G s.h (opd s.t) (.binOp o t x y yt) (fun v => K v s.h))
 | .call ⟨.value f, args, _⟩ => match tZ (opd s.t f) with
  | some (g, bs, caps) => E.call g (bs ++ ((args.toList.map (opd s.t)) ++ caps)) s.h (frzA E s.h (bs ++ ((args.toList.map (opd s.t)) ++ caps))) K
  | none => False
 | .call ⟨.builtin .append, args, ts⟩ => match args.toList, ts.toList with
  | [x, y], t :: t2 :: _ => uU E G s.h t t2 (opd s.t x) (opd s.t y) K
  | _, _ => False
 | op => bO E G s.h (opd s.t) op (fun v => K v s.h)
inductive Ex where
 | normal | exit (id : Nat) | goto (l : Nat) | ret
def putT (t : List (Nat × AV)) (d : Option Nat) (v : AV) : List (Nat × AV) :=
 match d with
 | some d => (d, v) :: t
 | none => t
def nthO : List Oper → Nat → Option Nat
 | [], _ => none
 | o :: _, 0 => o.dst
 | _ :: r, n + 1 => nthO r n
def guarded (E : Env) (all : List Oper) (o : Oper) (s : St) (go skip : St → Prop) : Prop :=
 match o.guard with
 | none => go s
 | some (j, want) =>
  match nthO all j with
  | none => False
  | some d => match lookT s.t d with
   | .bool (.l b) => match b == want with
    | true => go s
    | false => skip s
   | .bool (.s b) => E.br b
    (fun _ => match want with
      | true => go ⟨putT s.t (some d) (.bool (.l true)), s.h⟩
      | false => skip ⟨putT s.t (some d) (.bool (.l true)), s.h⟩)
    (fun _ => match want with
      | true => skip ⟨putT s.t (some d) (.bool (.l false)), s.h⟩
      | false => go ⟨putT s.t (some d) (.bool (.l false)), s.h⟩)
   | .tup _ => skip s
   | _ => False
def yP (E : Env) (G : Nat → TI) (all : List Oper) : List Oper → (St → Prop) → St → Prop
 | [], K, s => K s
 | o :: r, K, s => guarded E all o s
     (fun s => evOp E G s o.op (fun v h => yP E G all r K ⟨putT s.t o.dst v, h⟩))
     (fun s => yP E G all r K ⟨putT s.t o.dst (.tup []), s.h⟩)
def oF (E : Env) (G : Nat → TI) (all : List Oper) : List Oper → (St → Prop) → St → Prop
 | [], K, s => K s
 | o :: r, K, s => guarded E all o s
     (fun s => bO E G s.h (opd s.t) o.op (fun v => oF E G all r K ⟨putT s.t o.dst v, s.h⟩))
     (fun s => oF E G all r K ⟨putT s.t o.dst (.tup []), s.h⟩)
def aSR : Oper → Bool
 | ⟨_, .assign _, _, _, _, _⟩ => true
 | ⟨_, .store _ _ _, _, _, _, _⟩ => true
 | _ => false
def headLen : List Oper → Nat
 | [] => 0
 | o :: r => bif allB aSR (o :: r) then 0 else headLen r + 1
def aNR : Nat → List Oper → Bool
 | _, [] => false
 | i, o :: r => bif allB (fun e => Nat.blt e.on i) o.after.toList then aNR (i + 1) r else true
def lenO : List Oper → Nat
 | [] => 0
 | _ :: r => lenO r + 1
def headN (l : List Oper) : Nat := bif aNR 0 l then lenO l else headLen l
def pN : Nat → List Oper → List Oper
 | 0, _ => []
 | _, [] => []
 | n + 1, c :: r => c :: pN n r
def lV : Nat → List Oper → List Oper
 | 0, l => l
 | _, [] => []
 | n + 1, _ :: r => lV n r
def zU (E : Env) (G : Nat → TI) (l : List Oper) (K : St → Prop) (s : St) : Prop :=
 oF E G l (pN (headN l) l) (yP E G l (lV (headN l) l) K) s
def isAl : Oper → Bool
 | ⟨_, .alloc _, _, _, _, _⟩ => true
 | _ => false
def isSt : Oper → Bool
 | ⟨_, .store _ _ _, _, _, _, _⟩ => true
 | _ => false
def anyB {α : Type} (p : α → Bool) : List α → Bool
 | [] => false
 | x :: r => bif p x then true else anyB p r
def aCP (l : List Oper) : Bool := allB (fun o => match o.guard with
  | none => true
  | some _ => false) l
def aSO (d : Nat) (o : Oper) : Bool := match o.op with
 | .move (.tmp u) => Nat.beq u d
 | _ => false
def clash (hd : List Oper) (o : Oper) : Bool := match o.dst with
 | some d => anyB (aSO d) hd
 | none => false
def aAL (l : List Oper) : Bool :=
 bif aCP l then bif anyB isAl (pN (headLen l) l) then true else
  bif aNR 0 l then bif anyB isSt (lV (headLen l) l) then true else anyB (clash (pN (headLen l) l)) (lV (headLen l) l) else false
 else false
def AV.old1 (n : Nat) : AV → Bool
 | .ms b _ _ _ => Nat.blt b n
 | .ptr b _ _ _ => Nat.blt b n
 | _ => true
def AV.oldA (n : Nat) : AV → Bool
 | .agg cs => allB (AV.old1 n) cs
 | .fn _ cs => allB (AV.old1 n) cs
 | c => AV.old1 n c
def AV.old (n : Nat) : AV → Bool
 | .tup cs => allB (AV.oldA n) cs
 | c => AV.oldA n c
def pJ (G : Nat → TI) (t : Nat) : Option (Nat × Blk) := match G t with
 | ⟨.oth, _, _, _, _⟩ => none
 | ⟨.array _ _, _, _, _, _⟩ => none
 | ⟨_, sz, _, z, _⟩ => bif Nat.beq (lenC z) sz && allB AV.leaf z && allB (AV.old1 0) z && cB (cW z) t then some (sz, .rows true sz z [z]) else none
def fZ : List Blk → List Nat → List Blk
 | h, [] => h
 | h, b :: r => fZ (setBlk h b .dead) r
def tailBlks (t : List (Nat × AV)) : List Oper → List Nat
 | [] => []
 | o :: r => match o.op with
  | .store _ a _ => match opd t a with
   | .ptr b _ _ _ => b :: tailBlks t r
   | _ => tailBlks t r
  | _ => tailBlks t r
def pF (E : Env) (G : Nat → TI) (n0 : Nat) (hd : List Blk) : List Oper → List (Nat × AV) → List Blk → (List (Nat × AV) → List Blk → Prop) → Prop
 | [], t, h, K => K t h
 | o :: r, t, h, K => match o.op with
  | .alloc ty => match o.dst with
   | none => False
   | some d => match pJ G ty with
    | none => False
    | some (sz, x) => pF E G n0 hd r ((d, .ptr (lenB h) sz (.l 0) 0) :: t) (appB h x) K
  | op => bO E G hd (opd t) op (fun v => bif AV.old n0 v then pF E G n0 hd r (putT t o.dst v) h K else False)
def pW (E : Env) (G : Nat → TI) (n0 : Nat) (ds : List Nat) : List Oper → St → (St → Prop) → Prop
 | [], s, K => K s
 | o :: r, s, K => match o.op with
  | .assign y => match o.dst with
   | none => False
   | some d => bO E G s.h (opd s.t) (.assign y) (fun v => pW E G n0 ds r ⟨(d, v) :: s.t, s.h⟩ K)
  | .store ty a x => match o.dst with
   | some _ => False
   | none => match opd s.t a with
    | .ptr b sz row col => bif Nat.ble n0 b || anyB (Nat.beq b) ds then store E G s.h ty (.ptr b sz row col) (opd s.t x) (fun h => pW E G n0 ds r ⟨s.t, h⟩ K) else False
    | _ => False
  | _ => False
def aFQ (E : Env) (G : Nat → TI) (l : List Oper) (K : St → Prop) (s : St) : Prop :=
 pF E G (lenB s.h) (fZ s.h (tailBlks s.t (lV (headLen l) l))) (pN (headLen l) l) s.t s.h
  (fun t h => pW E G (lenB s.h) (tailBlks s.t (lV (headLen l) l)) (lV (headLen l) l) ⟨t, h⟩ K)
def isAp (o : Oper) : Bool := match o.op with
 | .call ⟨.builtin .append, _, _⟩ => true
 | _ => false
def isCh (o : Oper) : Bool := match o.op with
 | .assign _ => true
 | .store _ _ _ => true
 | .call ⟨.builtin .append, _, _⟩ => true
 | _ => false
def aFC (l : List Oper) : Bool := bif aCP l then anyB isAp l else false
def thru : List Oper → Operand → Operand
 | [], x => x
 | o :: r, x => match o.op, x with
  | .move (.tmp u), .tmp d => match o.dst with
   | some d' => bif Nat.beq d d' then .tmp u else thru r x
   | none => thru r x
  | _, x => thru r x
def vM (all : List Oper) (t : List (Nat × AV)) : List Oper → List Nat
 | [] => []
 | o :: r => match o.op with
  | .call ⟨.builtin .append, args, _⟩ => match args.toList with
   | x :: _ => match opd t (thru all x) with
    | .ms b _ _ _ => b :: vM all t r
    | _ => vM all t r
   | _ => vM all t r
  | _ => vM all t r
def evFl (E : Env) (G : Nat → TI) (hd : List Blk) : List Oper → List (Nat × AV) → (List (Nat × AV) → Prop) → Prop
 | [], t, K => K t
 | o :: r, t, K => match isCh o with
  | true => evFl E G hd r t K
  | false => bO E G hd (opd t) o.op (fun v => evFl E G hd r (putT t o.dst v) K)
def oV : List Blk → List Blk → Prop
 | [], _ => True
 | .dead :: r, _ :: r' => oV r r'
 | x :: r, y :: r' => y = x ∧ oV r r'
 | _ :: _, [] => False
def evCh (E : Env) (G : Nat → TI) (hd : List Blk) : List Oper → St → (St → Prop) → Prop
 | [], s, K => K s
 | o :: r, s, K => match isCh o with
  | false => evCh E G hd r s K
  | true => evOp E G s o.op (fun v h => oV hd h ∧ evCh E G hd r ⟨putT s.t o.dst v, h⟩ K)
def mixHd (l : List Oper) (s : St) : List Blk := fZ (fZ s.h (vM l s.t l)) (tailBlks s.t l)
def aNW (E : Env) (G : Nat → TI) (l : List Oper) (K : St → Prop) (s : St) : Prop :=
 evFl E G (mixHd l s) l s.t (fun t => oV (mixHd l s) s.h ∧ evCh E G (mixHd l s) l ⟨t, s.h⟩ K)
def aFJ (E : Env) (G : Nat → TI) (l : List Oper) (K : St → Prop) (s : St) : Prop :=
 match aFC l with
 | true => aNW E G l K s
 | false => match aAL l with
  | true => aFQ E G l K s
  | false => zU E G l K s
def ev (E : Env) (G : Nat → TI) (lp : Code → St → (Ex → St → Prop) → Prop) : Code → St → (Ex → St → Prop) → Prop
 | .skip, s, K => K .normal s
 | .label _, s, K => K .normal s
 | .ret, s, K => K .ret s
 | .exit i, s, K => K (.exit i) s
 | .goto i, s, K => K (.goto i) s
 | .region _ ops draw, s, K => match draw with
  | true => aFJ E G ops.toList (K .normal) s
  | false => yP E G ops.toList ops.toList (K .normal) s
 | .seq a b, s, K => ev E G lp a s (fun e s => match e with
   | .normal => ev E G lp b s K
   | .ret => K .ret s
   | .exit i => K (.exit i) s
   | .goto l => K (.goto l) s)
 | .cond c a b, s, K => brAV E (opd s.t c) (fun _ => ev E G lp a s K) (fun _ => ev E G lp b s K)
 | .block i b, s, K => ev E G lp b s (fun e s => match e with
   | .exit j => bif Nat.beq i j then K .normal s else K (.exit j) s
   | .normal => K .normal s
   | .ret => K .ret s
   | .goto l => K (.goto l) s)
 | .loop b, s, K => lp (.loop b) s K
 | .scope b, s, K => lp (.scope b) s K
 | _, _, _ => False
def wO (E : Env) (G : Nat → TI) (s : St) : List ResultVar → (List AV → Prop) → Prop
 | [], K => K []
 | .tmp t :: r, K => wO E G s r (fun vs => K (lookT s.t t :: vs))
 | .cell a t :: r, K => load E G s.h t (lookT s.t a) (fun v => wO E G s r (fun vs => K (v :: vs)))
def AV.aIB : AV → Bool
 | .tup _ => false
 | _ => true
def aHU (K : AV → List Blk → Prop) (h : List Blk) : List AV → Prop
 | [v] => K v h
 | vs => bif allB AV.aIB vs then K (.tup vs) h else False
def params : Nat → List AV → List (Nat × AV)
 | _, [] => []
 | n, a :: r => (n, a) :: params (n + 1) r
def evF (E : Env) (G : Nat → TI) (lp : Code → St → (Ex → St → Prop) → Prop) (f : Func) (args : List AV) (h : List Blk) (K : AV → List Blk → Prop) : Prop :=
 match f.body with
 | some c => ev E G lp c ⟨params 0 args, h⟩ (fun e s => match e with
   | .ret => wO E G s f.results.toList (aHU K s.h)
   | .normal => wO E G s f.results.toList (aHU K s.h)
   | _ => False)
 | none => False
end
section
open Go Go.RowKit
theorem eJ (h : List Blk) : lenB h = h.length := by induction h <;> simp_all [lenB]
theorem dX : ∀ (h : List Blk) (b : Nat), bS h b = (h[b]?).getD .dead
 | [], _ => by simp [bS]
 | c :: r, 0 => by simp [bS]
 | c :: r, n + 1 => by simp [bS, dX r n]
theorem setBlk_eq : ∀ (h : List Blk) (b : Nat) (x : Blk), setBlk h b x = h.set b x
 | [], _, _ => by simp [setBlk]
 | c :: r, 0, _ => by simp [setBlk]
 | c :: r, n + 1, x => by simp [setBlk, setBlk_eq r n x]
theorem gW (h : List Blk) (x : Blk) : appB h x = h ++ [x] := by induction h <;> simp_all [appB]
theorem gA (l : List AV) : lenC l = l.length := by induction l <;> simp_all [lenC]
theorem lT : ∀ (n : Nat) (l : List AV), pS n l = l.take n
 | 0, l => by simp [pS]
 | n + 1, [] => by simp [pS]
 | n + 1, c :: r => by simp [pS, lT n r]
theorem mH : ∀ (n : Nat) (l : List AV), pK n l = l.drop n
 | 0, l => by cases l <;> simp [pK]
 | n + 1, [] => by simp [pK]
 | n + 1, c :: r => by simp [pK, mH n r]
theorem vF : ∀ (n : Nat) (l : List Oper), pN n l = l.take n
 | 0, l => by simp [pN]
 | n + 1, [] => by simp [pN]
 | n + 1, c :: r => by simp [pN, vF n r]
theorem uZ : ∀ (n : Nat) (l : List Oper), lV n l = l.drop n
 | 0, l => by cases l <;> simp [lV]
 | n + 1, [] => by simp [lV]
 | n + 1, c :: r => by simp [lV, uZ n r]
theorem nthO_eq : ∀ (l : List Oper) (n : Nat), nthO l n = (l[n]?).bind (·.dst)
 | [], _ => by simp [nthO]
 | c :: r, 0 => by simp [nthO]
 | c :: r, n + 1 => by simp [nthO, nthO_eq r n]
theorem nthA_eq : ∀ (l : List AV) (n : Nat), nthA l n = l[n]?
 | [], _ => by simp [nthA]
 | c :: r, 0 => by simp [nthA]
 | c :: r, n + 1 => by simp [nthA, nthA_eq r n]
theorem aAK : ∀ (l : List (Nat × Nat × Bool)) (n : Nat), nthF l n = l[n]?
 | [], _ => by simp [nthF]
 | c :: r, 0 => by simp [nthF]
 | c :: r, n + 1 => by simp [nthF, aAK r n]
theorem allB_eq {α : Type} (p : α → Bool) (l : List α) : allB p l = l.all p := by
 induction l with
 | nil => rfl
 | cons x r ih => simp only [allB, ih, List.all_cons]; cases p x <;> rfl
theorem lH (l : List (List AV)) : lenR l = l.length := by induction l <;> simp_all [lenR]
theorem nJ : ∀ (l : List (List AV)) (n : Int), 0 ≤ n → iM l n = l.getD n.toNat []
 | [], _, _ => by simp [iM]
 | c :: r, n, h => by
  simp only [iM];by_cases h0 : n = 0
  · subst h0; simp
  · have : (n == 0) = false := by simpa using h0
    rw [this, cond_false, nJ r (n - 1) (by omega)];obtain ⟨m, hm⟩ : ∃ m : Nat, n.toNat = m + 1 := ⟨n.toNat - 1, by omega⟩
    rw [hm, show (n - 1).toNat = m by omega];rfl
theorem yG : ∀ (l : List (List AV)) (n : Int) (v : List AV), 0 ≤ n → setRow l n v = l.set n.toNat v
 | [], _, _, _ => by simp [setRow]
 | c :: r, n, v, h => by
  simp only [setRow];by_cases h0 : n = 0
  · subst h0; simp
  · have : (n == 0) = false := by simpa using h0
    rw [this, cond_false, yG r (n - 1) v (by omega)];obtain ⟨m, hm⟩ : ∃ m : Nat, n.toNat = m + 1 := ⟨n.toNat - 1, by omega⟩
    rw [hm, show (n - 1).toNat = m by omega];rfl
theorem splice_length : ∀ (l : List AV) (n : Nat) (vs : List AV), (splice l n vs).length = l.length
 | [], _, _ => by simp [splice]
 | c :: l, n, [] => by cases n <;> simp [splice]
 | c :: l, 0, v :: vs => by simp [splice, splice_length l 0 vs]
 | c :: l, n + 1, v :: vs => by simp [splice, splice_length l n (v :: vs)]
theorem iY : ∀ (l : List AV) (n : Nat) (vs : List AV) (j : Nat), n + vs.length ≤ l.length →
 (splice l n vs)[j]? = if n ≤ j ∧ j < n + vs.length then vs[j - n]? else l[j]?
 | [], n, vs, j, h => by
  have : vs = [] := by cases vs <;> simp_all
  subst this;simp [splice]
 | c :: l, n, [], j, h => by
  have : ¬ (n ≤ j ∧ j < n + ([] : List AV).length) := by simp
  rw [if_neg this];cases n <;> simp [splice]
 | c :: l, 0, v :: vs, j, h => by
  simp only [List.length_cons] at h;cases j with
  | zero => simp [splice]
  | succ j =>
   have ih := iY l 0 vs j (by omega);simp only [splice, List.getElem?_cons_succ, ih, List.length_cons];by_cases hj : j < vs.length
   · rw [if_pos (by omega), if_pos (by omega)]; simp
   · rw [if_neg (by omega), if_neg (by omega)]
 | c :: l, n + 1, v :: vs, j, h => by
  simp only [List.length_cons] at h;cases j with
  | zero => simp [splice]
  | succ j =>
   have ih := iY l n (v :: vs) j (by simp; omega);simp only [splice, List.getElem?_cons_succ, ih, List.length_cons];by_cases hj : n ≤ j ∧ j < n + (vs.length + 1)
   · rw [if_pos hj, if_pos (by omega), show j + 1 - (n + 1) = j - n by omega]
   · rw [if_neg hj, if_neg (by omega)]
inductive RoV (O : Nat → Prop) (w : World) : AV → Value → Prop
 | un (v : Value) : RoV O w .un v
 | lit (x : Value) : RoV O w (.lit x) x
 | int (k : IntKind) (n : SI) (v : Int) (h : n.val = v) : RoV O w (.int k n) (.int k v)
 | bool (b : SB) (v : Bool) (h : b.val = v) : RoV O w (.bool b) (.bool v)
 | str (s : ByteArray) : RoV O w (.str s) (.string s)
 | agg (cs : List AV) (ys : Array Value) (hl : cs.length = ys.size) (h : ∀ (j : Nat) (c : AV), cs[j]? = some c → RoV O w c (ys.getD j undef)) : RoV O w (.agg cs) (.agg ys)
 | tup (cs : List AV) (ys : Array Value) (hl : cs.length = ys.size) (h : ∀ (j : Nat) (c : AV), cs[j]? = some c → RoV O w c (ys.getD j undef)) : RoV O w (.tup cs) (.tuple ys)
 | fn (f : FuncId) (cs : List AV) (ys : Array Value) (hl : cs.length = ys.size) (h : ∀ (j : Nat) (c : AV), cs[j]? = some c → RoV O w c (ys.getD j undef)) : RoV O w (.fn f cs) (.func (.func f) #[] ys)
 | bnd (f : FuncId) (bs : List AV) (ys : Array Value) (hl : bs.length = ys.size) (h : ∀ (j : Nat) (c : AV), bs[j]? = some c → RoV O w c (ys.getD j undef)) : RoV O w (.bnd f bs) (.func (.func f) ys #[])
 | sli (k : IntKind) (l : List Int) (a : Addr) (cap : Nat) (hs : a.spot = none) (ho : O a.block) (hcap : l.length ≤ cap)
  (h : ∀ (i : Nat) (n : Int), l[i]? = some n → w.cell? ⟨a.block, a.off + i, none⟩ = some (.int k n)) : RoV O w (.sli k l) (.slice (some a) l.length cap)
 | sliN (k : IntKind) (A : Option Addr) (cap : Nat) : RoV O w (.sli k []) (.slice A 0 cap)
 | slc (sz : Nat) (n : SI) (f : Nat → List AV) (a : Addr) (cap : Nat) (Y : Nat → Nat → Value) (hs : a.spot = none) (ho : O a.block) (h0 : 0 ≤ n.val) (hcap : n.val.toNat ≤ cap)
  (hl : ∀ i, i < n.val.toNat → (f i).length = sz)
  (hc : ∀ (i j : Nat) (c : AV), i < n.val.toNat → (f i)[j]? = some c → w.cell? ⟨a.block, a.off + (i * sz + j), none⟩ = some (Y i j))
  (h : ∀ (i j : Nat) (c : AV), i < n.val.toNat → (f i)[j]? = some c → RoV O w c (Y i j)) : RoV O w (.slc sz n f) (.slice (some a) n.val.toNat cap)
 | slcN (sz : Nat) (n : SI) (f : Nat → List AV) (A : Option Addr) (cap : Nat) (h : n.val = 0) : RoV O w (.slc sz n f) (.slice A 0 cap)
 | slx (sz : Nat) (l : List (List AV)) (a : Addr) (Y : Nat → Nat → Value) (hs : a.spot = none) (ho : O a.block) (hl : ∀ (i : Nat) (r : List AV), l[i]? = some r → r.length = sz)
  (hc : ∀ (i j : Nat) (r : List AV) (c : AV), l[i]? = some r → r[j]? = some c → w.cell? ⟨a.block, a.off + (i * sz + j), none⟩ = some (Y i j))
  (h : ∀ (i j : Nat) (r : List AV) (c : AV), l[i]? = some r → r[j]? = some c → RoV O w c (Y i j)) : RoV O w (.slx sz l) (.slice (some a) l.length l.length)
 | s0 : RoV O w .s0 (.slice none 0 0)
 | rp (cs : List AV) (a : Addr) (Y : Nat → Value) (hs : a.spot = none) (ho : O a.block)
  (hc : ∀ (j : Nat) (c : AV), cs[j]? = some c → w.cell? ⟨a.block, a.off + j, none⟩ = some (Y j))
  (h : ∀ (j : Nat) (c : AV), cs[j]? = some c → RoV O w c (Y j)) : RoV O w (.rp cs) (.pointer (some a))
theorem RoV.mono {O O' : Nat → Prop} {w w' : World} (hO : ∀ n, O n → O' n) (hc : ∀ a v, O a.block → w.cell? a = some v → w'.cell? a = some v)
 {x : AV} {v : Value} (h : RoV O w x v) : RoV O' w' x v := by
 induction h with
 | un v => exact .un v
 | lit x => exact .lit x
 | int k n v h => exact .int k n v h
 | bool b v h => exact .bool b v h
 | str s => exact .str s
 | agg cs ys hl h ih => exact .agg cs ys hl ih
 | tup cs ys hl h ih => exact .tup cs ys hl ih
 | fn f cs ys hl h ih => exact .fn f cs ys hl ih
 | bnd f bs ys hl h ih => exact .bnd f bs ys hl ih
 | slx sz l a Y hs ho hl hc' h ih => exact .slx sz l a Y hs (hO _ ho) hl (fun i j r c hi hj => hc _ _ ho (hc' i j r c hi hj)) ih
 | sli k l a cap hs ho hp h => exact .sli k l a cap hs (hO _ ho) hp (fun i n hi => hc _ _ ho (h i n hi))
 | sliN k A cap => exact .sliN k A cap
 | slc sz n f a cap Y hs ho h0 hp hl hc' h ih => exact .slc sz n f a cap Y hs (hO _ ho) h0 hp hl (fun i j c hi hj => hc _ _ ho (hc' i j c hi hj)) ih
 | slcN sz n f A cap h => exact .slcN sz n f A cap h
 | s0 => exact .s0
 | rp cs a Y hs ho hc' h ih => exact .rp cs a Y hs (hO _ ho) (fun j c hj => hc _ _ ho (hc' j c hj)) ih
structure X where
 O : Nat → Prop
 μ : Nat → Nat
 h : List Blk
 w : World
def Blk.dim : Blk → Option (Nat × Nat)
 | .dead => none
 | .ints _ _ l => some (l.length, 1)
 | .rows _ sz _ l => some (l.length, sz)
def Blk.wr : Blk → Bool
 | .dead => false
 | .ints w _ _ => w
 | .rows w _ _ _ => w
def dimB (h : List Blk) (b : Nat) : Option (Nat × Nat) := ((h[b]?).getD .dead).dim
def wrB (h : List Blk) (b : Nat) : Bool := ((h[b]?).getD .dead).wr
def LeafR (x : X) (c : AV) (v : Value) : Prop :=
 match c with
 | .ms b sz row len => b < x.h.length ∧ 0 ≤ row.val ∧ 0 ≤ len.val ∧ ∃ A cap, v = .slice A len.val.toNat cap ∧ len.val.toNat ≤ cap ∧ (0 < cap → A = some ⟨x.μ b, row.val.toNat * sz, none⟩) ∧
  (∀ n s, dimB x.h b = some (n, s) → row.val.toNat + len.val.toNat ≤ n ∧ s = sz ∧ ∃ e m, x.w.shape? (x.μ b) = some (e, m) ∧ (row.val.toNat + cap) * sz ≤ m)
 | .ptr b sz row col => b < x.h.length ∧ 0 ≤ row.val ∧ v = .pointer (some ⟨x.μ b, row.val.toNat * sz + col, none⟩) ∧
  (∀ n s, dimB x.h b = some (n, s) → row.val.toNat < n ∧ s = sz)
 | c => RoV x.O x.w c v
def AggR (x : X) (c : AV) (v : Value) : Prop :=
 match c with
 | .agg cs => ∃ ys : Array Value, v = .agg ys ∧ cs.length = ys.size ∧ ∀ (j : Nat) (c : AV), cs[j]? = some c → LeafR x c (ys.getD j undef)
 | .fn f cs => ∃ ys : Array Value, v = .func (.func f) #[] ys ∧ cs.length = ys.size ∧ ∀ (j : Nat) (c : AV), cs[j]? = some c → LeafR x c (ys.getD j undef)
 | c => LeafR x c v
def RelV (x : X) (c : AV) (v : Value) : Prop :=
 match c with
 | .tup cs => ∃ ys : Array Value, v = .tuple ys ∧ cs.length = ys.size ∧ ∀ (j : Nat) (c : AV), cs[j]? = some c → AggR x c (ys.getD j undef)
 | c => AggR x c v
structure Ext (x x' : X) : Prop where
 o : ∀ n, x.O n → x'.O n
 mu : ∀ b, b < x.h.length → x'.μ b = x.μ b
 len : x.h.length ≤ x'.h.length
 dim : ∀ b, b < x.h.length → ∀ n, dimB x'.h b = some n → dimB x.h b = some n
 cell : ∀ a v, x.O a.block → x.w.cell? a = some v → x'.w.cell? a = some v
 shape : ∀ r s, x.w.shape? r = some s → x'.w.shape? r = some s
theorem Ext.refl (x : X) : Ext x x := ⟨fun _ h => h, fun _ _ => rfl, Ba _, fun _ _ _ h => h, fun _ _ _ h => h, fun _ _ h => h⟩
theorem Ext.trans {x y z : X} (h : Ext x y) (k : Ext y z) : Ext x z :=
 ⟨
   fun n hn => k.o n (h.o n hn), fun b hb => (k.mu b (Av hb h.len)).trans (h.mu b hb), Ae h.len k.len,
   fun b hb n hn => h.dim b hb n (k.dim b (Av hb h.len) n hn), fun a v ho hc => k.cell a v (h.o _ ho) (h.cell a v ho hc), fun r s hs => k.shape r s (h.shape r s hs)⟩
theorem LeafR.mono {x x' : X} (e : Ext x x') {c : AV} {v : Value} (h : LeafR x c v) : LeafR x' c v := by
 unfold LeafR at *
 split
 · obtain ⟨hb, h0, h1, A, cap, rfl, hle, hA, hd⟩ := h;refine ⟨Av hb e.len, h0, h1, A, cap, rfl, hle, by rw [e.mu _ hb]; exact hA, fun n s hn => ?_⟩;obtain ⟨a1, a2, e1, m, a3, a4⟩ := hd n s (e.dim _ hb _ hn);exact ⟨a1, a2, e1, m, by rw [e.mu _ hb]; exact e.shape _ _ a3, a4⟩
 · obtain ⟨hb, h0, rfl, hd⟩ := h;exact ⟨Av hb e.len, h0, by rw [e.mu _ hb], fun n s hn => hd n s (e.dim _ hb _ hn)⟩
 · rename_i c h1 h2;exact RoV.mono e.o e.cell (by split at h <;> first | exact h | (exfalso; first | exact h1 _ _ _ _ rfl | exact h2 _ _ _ _ rfl))
theorem AggR.mono {x x' : X} (e : Ext x x') {c : AV} {v : Value} (h : AggR x c v) : AggR x' c v := by
 unfold AggR at *
 split
 · obtain ⟨ys, rfl, hl, h⟩ := h;exact ⟨ys, rfl, hl, fun j c hj => (h j c hj).mono e⟩
 · obtain ⟨ys, rfl, hl, h⟩ := h;exact ⟨ys, rfl, hl, fun j c hj => (h j c hj).mono e⟩
 · rename_i h1 h2;exact LeafR.mono e (by split at h <;> first | exact h | (exfalso; first | exact h1 _ rfl | exact h2 _ _ rfl))
theorem RelV.mono {x x' : X} (e : Ext x x') {c : AV} {v : Value} (h : RelV x c v) : RelV x' c v := by
 unfold RelV at *
 split
 · obtain ⟨ys, rfl, hl, h⟩ := h;exact ⟨ys, rfl, hl, fun j c hj => (h j c hj).mono e⟩
 · rename_i h1;exact AggR.mono e (by split at h <;> first | exact h | (exfalso; first | exact h1 _ rfl))
theorem aR {x : X} {c : AV} {v : Value} (h : RoV x.O x.w c v) : LeafR x c v := by
 unfold LeafR;cases h <;> first | exact RoV.un _ | exact RoV.lit _ | exact RoV.int _ _ _ ‹_› | exact RoV.bool _ _ ‹_› | exact RoV.str _ | exact RoV.agg _ _ ‹_› ‹_› | exact RoV.tup _ _ ‹_› ‹_› | exact RoV.fn _ _ _ ‹_› ‹_› | exact RoV.bnd _ _ _ ‹_› ‹_› | exact RoV.slx _ _ _ _ ‹_› ‹_› ‹_› ‹_› ‹_› | exact RoV.sli _ _ _ _ ‹_› ‹_› ‹_› ‹_› | exact RoV.sliN _ _ _ | exact RoV.slc _ _ _ _ _ _ ‹_› ‹_› ‹_› ‹_› ‹_› ‹_› ‹_› | exact RoV.slcN _ _ _ _ _ ‹_› | exact RoV.s0 | exact RoV.rp _ _ _ ‹_› ‹_› ‹_› ‹_›
theorem oC {x : X} {c : AV} {v : Value} (h : RoV x.O x.w c v) : AggR x c v := by
 cases h with
 | agg cs ys hl h => exact ⟨ys, rfl, hl, fun j c hj => aR (h j c hj)⟩
 | fn f cs ys hl h => exact ⟨ys, rfl, hl, fun j c hj => aR (h j c hj)⟩
 | un v => exact aR (.un v)
 | lit v => exact aR (.lit v)
 | int k n v h => exact aR (.int k n v h)
 | bool b v h => exact aR (.bool b v h)
 | str s => exact aR (.str s)
 | tup cs ys hl h => exact aR (.tup cs ys hl h)
 | sli k l a cap hs ho hp h => exact aR (.sli k l a cap hs ho hp h)
 | sliN k A cap => exact aR (.sliN k A cap)
 | slc sz n f a cap Y hs ho h0 hp hl hc h => exact aR (.slc sz n f a cap Y hs ho h0 hp hl hc h)
 | slcN sz n f A cap h => exact aR (.slcN sz n f A cap h)
 | s0 => exact aR .s0
 | rp cs a Y hs ho hc h => exact aR (.rp cs a Y hs ho hc h)
 | bnd f bs ys hl h => exact aR (.bnd f bs ys hl h)
 | slx sz l a Y hs ho hl hc h => exact aR (.slx sz l a Y hs ho hl hc h)
theorem dK {x : X} {c : AV} {v : Value} (h : RoV x.O x.w c v) : RelV x c v := by
 cases h with
 | tup cs ys hl h => exact ⟨ys, rfl, hl, fun j c hj => oC (h j c hj)⟩
 | agg cs ys hl h => exact oC (.agg cs ys hl h)
 | fn f cs ys hl h => exact oC (.fn f cs ys hl h)
 | un v => exact aR (.un v)
 | lit v => exact aR (.lit v)
 | int k n v h => exact aR (.int k n v h)
 | bool b v h => exact aR (.bool b v h)
 | str s => exact aR (.str s)
 | sli k l a cap hs ho hp h => exact aR (.sli k l a cap hs ho hp h)
 | sliN k A cap => exact aR (.sliN k A cap)
 | slc sz n f a cap Y hs ho h0 hp hl hc h => exact aR (.slc sz n f a cap Y hs ho h0 hp hl hc h)
 | slcN sz n f A cap h => exact aR (.slcN sz n f A cap h)
 | s0 => exact aR .s0
 | rp cs a Y hs ho hc h => exact aR (.rp cs a Y hs ho hc h)
 | bnd f bs ys hl h => exact aR (.bnd f bs ys hl h)
 | slx sz l a Y hs ho hl hc h => exact aR (.slx sz l a Y hs ho hl hc h)
theorem bM {x : X} {c : AV} {v : Value} (h : LeafR x c v) (hm : c.mf1 = true) : RoV x.O x.w c v := by
 unfold LeafR at h;split at h
 · simp [AV.mf1] at hm
 · simp [AV.mf1] at hm
 · exact h
theorem nA {x : X} {c : AV} {v : Value} (h : RelV x c v) (hm : c.mf = true) : RoV x.O x.w c v := by
 cases c with
 | agg cs =>
  obtain ⟨ys, rfl, hl, h⟩ := h;simp only [AV.mf, allB_eq, List.all_eq_true] at hm;exact .agg cs ys hl (fun j c hj => bM (h j c hj) (hm c (List.mem_of_getElem? hj)))
 | fn f cs =>
  obtain ⟨ys, rfl, hl, h⟩ := h;simp only [AV.mf, allB_eq, List.all_eq_true] at hm;exact .fn f cs ys hl (fun j c hj => bM (h j c hj) (hm c (List.mem_of_getElem? hj)))
 | tup cs => simp [AV.mf, AV.mf1] at hm
 | un => exact bM h hm
 | lit v => exact bM h hm
 | int k n => exact bM h hm
 | bool b => exact bM h hm
 | str s => exact bM h hm
 | sli k l => exact bM h hm
 | slc sz n f => exact bM h hm
 | s0 => exact bM h hm
 | ms b sz row len => exact bM h hm
 | ptr b sz row col => exact bM h hm
 | rp cs => exact bM h hm
 | bnd f bs => exact bM h hm
 | slx sz l => exact bM h hm
def okO (base : Nat) (O0 : Nat → Prop) (μ : Nat → Nat) (h : List Blk) (w : World) (n : Nat) : Prop :=
 (n < base ∧ O0 n) ∨ (base ≤ n ∧ n < w.heap.size ∧ ∀ b, wrB h b = true → μ b ≠ n)
def mkX (base : Nat) (O0 : Nat → Prop) (μ : Nat → Nat) (h : List Blk) (w : World) : X := ⟨okO base O0 μ h w, μ, h, w⟩
def BlkR (x : X) (g : Nat) (b : Blk) : Prop :=
 match b with
 | .dead => True
 | .ints _ k l => ∃ c e, x.w.heap[g]? = some (.cells c e (0, 0)) ∧ ∀ (i : Nat) (n : Int), l[i]? = some n → c[i]? = some (.int k n)
 | .rows _ sz d l => d.length = sz ∧ ∃ c e, x.w.heap[g]? = some (.cells c e (0, 0)) ∧ ∀ (i : Nat) (r : List AV), l[i]? = some r → r.length = sz ∧ ∀ (j : Nat) (a : AV), r[j]? = some a → ∃ y, c[i * sz + j]? = some y ∧ LeafR x a y
def nW (O : Nat → Prop) (w : World) : Prop := ∀ p ∈ globs, O p.1 ∧ ∀ (i : Nat) (n : Int), p.2.2[i]? = some n → w.cell? ⟨p.1, i, none⟩ = some (.int p.2.1 n)
theorem nW.mono {O O' : Nat → Prop} {w w' : World} (hO : ∀ n, O n → O' n) (hc : ∀ a v, O a.block → w.cell? a = some v → w'.cell? a = some v) (h : nW O w) : nW O' w' :=
 fun p hp => ⟨hO _ (h p hp).1, fun i n hi => hc _ _ (h p hp).1 ((h p hp).2 i n hi)⟩
theorem glob_rel {O : Nat → Prop} {w : World} (h : nW O w) (g : Nat) : RoV O w (mI globs g) (.pointer (some ⟨g, 0, none⟩)) ∨ mI globs g = .un := by
 suffices H : ∀ l : List (Nat × IntKind × List Int), (∀ p ∈ l, O p.1 ∧ ∀ (i : Nat) (n : Int), p.2.2[i]? = some n → w.cell? ⟨p.1, i, none⟩ = some (.int p.2.1 n)) →
  RoV O w (mI l g) (.pointer (some ⟨g, 0, none⟩)) ∨ mI l g = .un from H globs h
 intro l;induction l with
 | nil => intro _; exact .inr rfl
 | cons p r ih =>
  intro hp;obtain ⟨i, k, l⟩ := p;simp only [mI];cases hb : Nat.beq i g with
  | false => rw [cond_false]; exact ih (fun q hq => hp q (List.mem_cons_of_mem _ hq))
  | true =>
   rw [cond_true];have := Ad hb;subst this;obtain ⟨h1, h2⟩ := hp (i, k, l) (List.mem_cons_self ..);refine .inl (.rp _ _ (fun j => .int k (l.getD j 0)) rfl h1 (fun j c hj => ?_) (fun j c hj => ?_))
   · rw [List.getElem?_map, Option.map_eq_some_iff] at hj;obtain ⟨n, hn, rfl⟩ := hj;have := h2 j n hn;simp only [Be];rw [this];simp [List.getD, hn]
   · rw [List.getElem?_map, Option.map_eq_some_iff] at hj;obtain ⟨n, hn, rfl⟩ := hj;exact .int _ _ _ (by simp [SI.val, List.getD, hn])
def TyR (w : World) (g : Nat) (x : Blk) : Prop := ∀ ts, x.need = some ts → ∃ e m, w.shape? g = some (e, m) ∧ memN e ts = true
theorem TyR.mono {w w' : World} {g : Nat} {x : Blk} (hs : ∀ s, w.shape? g = some s → w'.shape? g = some s) (h : TyR w g x) : TyR w' g x := by
 intro ts ht;obtain ⟨e, m, h1, h2⟩ := h ts ht;exact ⟨e, m, hs _ h1, h2⟩
theorem TyR.less {w : World} {g : Nat} {x y : Blk} (hn : x.need = none ∨ x.need = y.need) (h : TyR w g y) : TyR w g x := by
 intro ts ht;rcases hn with hn | hn
 · rw [hn] at ht; cases ht
 · rw [hn] at ht; exact h ts ht
theorem TyR.new {w : World} {g e : Nat} {c : Array Value} {fr : Nat × Nat} {x : Blk} (hc : w.heap[g]? = some (.cells c e fr)) (hn : cB x.need e = true) : TyR w g x := by
 intro ts ht;rw [ht] at hn;exact ⟨e, c.size, by simp only [World.shape?, hc], hn⟩
structure HR (base : Nat) (O0 : Nat → Prop) (μ : Nat → Nat) (h : List Blk) (w : World) : Prop where
 all : base ≤ w.heap.size
 blk : ∀ b x, h[b]? = some x → BlkR (mkX base O0 μ h w) (μ b) x
 low : ∀ b, dimB h b ≠ none → base ≤ μ b
 inj : ∀ b b', wrB h b = true → dimB h b' ≠ none → μ b = μ b' → b = b'
 ty : ∀ b x, h[b]? = some x → TyR w (μ b) x
 gl : nW (fun n => n < base ∧ O0 n) w
theorem HR.glob {base : Nat} {O0 : Nat → Prop} {μ : Nat → Nat} {h : List Blk} {w : World} (H : HR base O0 μ h w) : nW (okO base O0 μ h w) w := H.gl.mono (fun _ h => .inl h) (fun _ _ _ h => h)
end
section
open Go Go.RowKit
def jG : TypeDesc → Bool
 | .struct _ => true
 | .array _ _ => true
 | _ => false
def gR (P : Program) (f : Field) : Nat × Nat × Bool :=
 match P.info? f.type, P.underlying f.type with
 | some i, some d => (f.offset, i.size, jG d)
 | _, _ => (f.offset, 0, false)
def tkOf (P : Program) : TypeDesc → TK
 | .int k => .int k
 | .bool => .bool
 | .string => .str
 | .struct fs => .struct (fs.toList.map (gR P))
 | .slice e => .slice e
 | .array n e => .array n e
 | .pointer e => .ptr e
 | .func _ _ _ => .one
 | .interface _ => .one
 | .map _ _ => .one
 | _ => .oth
def gX (P : Program) : Nat → Nat → Option (List (Option IntKind))
 | 0, _ => none
 | d + 1, t => match P.underlying t with
  | some (.int k) => some [some k]
  | some .bool => some [none]
  | some (.struct fs) => if P.stoodInHeld t then none else fs.toList.foldr (fun f r => fun (off : Nat) =>
    match gX P d f.type with
    | some l => if f.offset = off ∧ f.name ≠ "_" ∧ ((P.info? f.type).map (·.size)) = some l.length then (r (off + l.length)).map (l ++ ·) else none
    | none => none) (fun _ => some []) 0
  | _ => none
def tiOf (P : Program) (t : Nat) : TI :=
 match P.info? t, P.underlying t with
 | some i, some d => match i.zero with
  | some z => ⟨tkOf P d, i.size, i.bytes, z.cells.toList.map oR, gX P 5 t⟩
  | none => ⟨.oth, 0, 0, [], none⟩
 | _, _ => ⟨.oth, 0, 0, [], none⟩
structure GOK (P : Program) (G : Nat → TI) : Prop where
 ti : ∀ t, G t = tiOf P t ∨ G t = ⟨.oth, 0, 0, [], none⟩
 depth : 5 ≤ P.depth
structure TOK (P : Program) (t : Nat) (k : TK) (sz bytes : Nat) (zero : List AV) (fl : Option (List (Option IntKind))) (i : TypeInfo) (d : TypeDesc) (z : Value) : Prop where
 info : P.info? t = some i
 und : P.underlying t = some d
 zer : i.zero = some z
 size : i.size = sz
 byt : i.bytes = bytes
 zc : z.cells.toList.map oR = zero
 kind : tkOf P d = k
 flat : gX P 5 t = fl
theorem GOK.tok {P : Program} {G : Nat → TI} (h : GOK P G) {t : Nat} {k : TK} {sz by_ : Nat} {z : List AV} {fl : Option (List (Option IntKind))} (e : G t = ⟨k, sz, by_, z, fl⟩) (hk : k ≠ .oth) : ∃ i d v, TOK P t k sz by_ z fl i d v := by
 rcases h.ti t with h | h
 · rw [e] at h;unfold tiOf at h;split at h
   · rename_i i d hi hd;split at h
     · rename_i v hv;injection h with h1 h2 h3 h4 h5
       exact ⟨i, d, v, hi, hd, hv, h2.symm, h3.symm, h4.symm, h1.symm, h5.symm⟩
     · injection h with h1; exact absurd h1 hk
   · injection h with h1; exact absurd h1 hk
 · rw [e] at h; injection h with h1; exact absurd h1 hk
theorem tabOK {P : Program} {tab : List (Nat × TI)} (h : tab.map (fun p => tiOf P p.1) = tab.map (·.2)) (hd : Nat.ble 5 P.depth = true) : GOK P (aIU tab) := by
 refine ⟨?_, An hd⟩;intro t;induction tab with
 | nil => right; rfl
 | cons p r ih =>
  obtain ⟨i, v⟩ := p;simp only [List.map_cons, List.cons.injEq] at h;simp only [aIU];cases hb : Nat.beq i t with
  | true => left; rw [cond_true, ← h.1, Ad hb]
  | false => rw [cond_false]; exact ih h.2
section inv
variable {x : X}
theorem RelV.cJ {k : IntKind} {n : SI} {v : Value} (h : RelV x (.int k n) v) : v = .int k n.val := by
 cases (show RoV x.O x.w (.int k n) v from h) with | int _ _ _ h1 => rw [h1]
theorem RelV.bool_inv {b : SB} {v : Value} (h : RelV x (.bool b) v) : v = .bool b.val := by
 cases (show RoV x.O x.w (.bool b) v from h) with | bool _ _ h1 => rw [h1]
theorem RelV.tO {s : ByteArray} {v : Value} (h : RelV x (.str s) v) : v = .string s := by
 cases (show RoV x.O x.w (.str s) v from h) with | str _ => rfl
theorem LeafR.cJ {k : IntKind} {n : SI} {v : Value} (h : LeafR x (.int k n) v) : v = .int k n.val := RelV.cJ h
theorem LeafR.bool_inv {b : SB} {v : Value} (h : LeafR x (.bool b) v) : v = .bool b.val := RelV.bool_inv h
theorem fN (k : IntKind) (n : SI) (v : Int) (h : n.val = v) : RelV x (.int k n) (.int k v) := RoV.int k n v h
theorem rel_bool (b : SB) (v : Bool) (h : b.val = v) : RelV x (.bool b) (.bool v) := RoV.bool b v h
end inv
def FOK (P : Program) (f : FuncId) : Prop := ∃ fn, P.funcs[f]? = some fn ∧ (fn.name == "runtime.NumGoroutine") = false ∧ fn.body.isNone = false
def newO (O : Nat → Prop) (w w' : World) (n : Nat) : Prop := O n ∨ (w.heap.size ≤ n ∧ n < w'.heap.size)
def Goes (P : Program) (f : FuncId) (vals : Array Value) (w : World) (Q : Ending → World → Prop) : Prop :=
 (FOK P f ∧ Calls P f vals w Q) ∨ (∃ val, (callFunc f vals).run P w = .ok (.value val) w ∧ Q (.returned val) w)
theorem Goes.mono {P : Program} {f : FuncId} {vals : Array Value} {w : World} {Q Q' : Ending → World → Prop} (h : Goes P f vals w Q) (k : ∀ e w', Q e w' → Q' e w') : Goes P f vals w Q' := by
 rcases h with ⟨h1, h2⟩ | ⟨val, h1, h2⟩
 · exact .inl ⟨h1, h2.mono k⟩
 · exact .inr ⟨val, h1, k _ _ h2⟩
def aC (P : Program) (f : FuncId) (args : List AV) (r : AV) : Prop :=
 ∀ (O : Nat → Prop) (w : World) (vals : Array Value), (∀ n, O n → n < w.heap.size) → nW O w → args.length = vals.size →
  (∀ (j : Nat) (c : AV), args[j]? = some c → RoV O w c (vals.getD j undef)) →
  Goes P f vals w fun e w' => ∃ val, e = .returned val ∧ RoV (newO O w w') w' r val ∧ Below w.heap.size w w'
def eE (P : Program) (f : FuncId) (args : List AV) (h : List Blk) (K : AV → List Blk → Prop) : Prop :=
 ∀ (base : Nat) (O0 : Nat → Prop) (μ : Nat → Nat) (w : World) (vals : Array Value), HR base O0 μ h w → args.length = vals.size →
  (∀ (j : Nat) (c : AV), args[j]? = some c → RelV (mkX base O0 μ h w) c (vals.getD j undef)) →
  Goes P f vals w fun e w' => ∃ val r h' μ', e = .returned val ∧ K r h' ∧ RelV (mkX base O0 μ' h' w') r val ∧ HR base O0 μ' h' w' ∧
   Ext (mkX base O0 μ h w) (mkX base O0 μ' h' w') ∧ Below base w w'
noncomputable def aB (P : Program) : Env where
 bin := aA
 cmp := cmpR
 un := unR
 conv := fun k n => k.wrap n
 plus := fun a b => a + b
 minus := fun a b => a - b
 bnot := fun b => !b
 beq := fun a b => a == b
 band := fun a b => a && b
 seq := fun a b => a == b
 len := fun l => l.length
 get := fun l i => l.getD i.toNat 0
 set := fun l i n => l.set i.toNat n
 sub := fun l r n => (l.drop r.toNat).take n.toNat
 rep := fun n => List.replicate n.toNat 0
 app := fun l m => l ++ m
 rget := fun l i d => l.getD i.toNat d
 rset := fun l i v => l.set i.toNat v
 rsub := fun l r n => (l.drop r.toNat).take n.toNat
 rapp := fun l m => l ++ m
 rlen := fun l => l.length
 rrep := fun n v => List.replicate n.toNat v
 rof := fun n f => (List.range n.toNat).map f
 sget := fun f i => f i.toNat
 ssub := fun f r i => f (r.toNat + i)
 rfun := fun l r d i => l.getD (r.toNat + i) d
 ofL := fun l => l.map (fun n => [.int .i64 (.s n)])
 slen := fun s => s.size
 sat := fun s i => (s.data.getD i.toNat 0).toNat
 br := fun b t f => (b = true → t ()) ∧ (b = false → f ())
 nm := fun n K => K n
 row := fun f i K => K (f i.toNat)
 nilS := fun n K => ∀ b, (b = true → n = 0) → K b
 pcall := fun f args K => ∃ r, K r ∧ allB AV.mf args = true ∧ aC P f args r
 call := fun f args h _ K => eE P f args h K
section real
variable {P : Program}
theorem brB_real {b : SB} {t f : Unit → Prop} (h : brB (aB P) b t f) : (b.val = true ∧ t ()) ∨ (b.val = false ∧ f ()) := by
 cases b with
 | l b => cases b <;> simp_all [brB, SB.val]
 | s b => cases b <;> simp_all [brB, SB.val, aB]
theorem iA (op : BinOp) (k : IntKind) (a b : SI) : (aEC (aB P) op k a b).val = aA op k a.val b.val := by
 cases a <;> cases b <;> rfl
theorem bX (op : BinOp) (a b : SI) : (mQ (aB P) op a b).val = cmpR op a.val b.val := by
 cases a <;> cases b <;> rfl
theorem oN (a : SB) : (aHZ (aB P) a).val = !a.val := by cases a <;> rfl
theorem sbAnd_real (a b : SB) : (aDM (aB P) a b).val = (a.val && b.val) := by
 cases a with
 | l a => cases a <;> simp [aDM, SB.val]
 | s a => cases b with
  | l b => cases b <;> simp [aDM, SB.val]
  | s b => rfl
theorem rC (a b : SB) : (sbEq (aB P) a b).val = (a.val == b.val) := by cases a <;> cases b <;> rfl
theorem aCY (k : IntKind) (a : SI) : (aLY (aB P) k a).val = k.wrap a.val := by cases a <;> rfl
theorem dT (a b : SI) : (lP (aB P) a b).val = a.val + b.val := by
 cases a <;> cases b <;> simp only [lP] <;> (try split) <;> simp_all [SI.val, aB]
theorem hU (a b : SI) : (xW (aB P) a b).val = a.val - b.val := by
 cases a <;> cases b <;> simp only [xW] <;> (try split) <;> simp_all [SI.val, aB]
theorem cT {a b : SI} {K : Unit → Prop} (h : siLe (aB P) a b K) : a.val ≤ b.val ∧ K () := by
 rcases brB_real h with ⟨h1, h2⟩ | ⟨_, h2⟩
 · rw [bX] at h1; exact ⟨by simpa [cmpR] using h1, h2⟩
 · exact h2.elim
theorem kN {a b : SI} {K : Unit → Prop} (h : siLt (aB P) a b K) : a.val < b.val ∧ K () := by
 rcases brB_real h with ⟨h1, h2⟩ | ⟨_, h2⟩
 · rw [bX] at h1; exact ⟨by simpa [cmpR] using h1, h2⟩
 · exact h2.elim
theorem fI {a b : IntKind} (h : ikEq a b = true) : a = b := by cases a <;> cases b <;> first | rfl | simp [ikEq] at h
end real
section ops
variable {P : Program} {x : X}
def fitV : Option IntKind → Value → Prop
 | some k, .int k' _ => k = k'
 | none, .bool _ => True
 | _, _ => False
def eqV : Value → Value → Bool
 | .int _ a, .int _ b => a == b
 | .bool a, .bool b => a == b
 | _, _ => false
def eI (xs ys : Array Value) : Nat → Nat → Bool
 | _, 0 => true
 | off, n + 1 => eqV (xs.getD off undef) (ys.getD off undef) && eI xs ys (off + 1) n
theorem wS (xs ys : Array Value) : ∀ (m n off : Nat), eI xs ys off (m + n) = (eI xs ys off m && eI xs ys (off + m) n)
 | 0, n, off => by simp [eI]
 | m + 1, n, off => by
  rw [show m + 1 + n = (m + n) + 1 by omega];simp only [eI, wS xs ys m n (off + 1), Ay];rw [show off + 1 + m = off + (m + 1) by omega]
theorem dO (xs : Array Value) (a b j : Nat) (h : j < b - a) : (xs.extract a b).getD j undef = xs.getD (a + j) undef := by
 simp only [Array.getD_eq_getD_getElem?, Array.getElem?_extract];split
 · rfl
 · rename_i h1;have : xs.size ≤ a + j := by omega
   simp [this]
theorem mG (xs ys : Array Value) (a b : Nat) : ∀ (n off : Nat), off + n ≤ b - a → eI (xs.extract a b) (ys.extract a b) off n = eI xs ys (a + off) n
 | 0, off, _ => by simp [eI]
 | n + 1, off, h => by
  simp only [eI, dO xs a b off (by omega), dO ys a b off (by omega), mG xs ys a b n (off + 1) (by omega)];rw [show a + (off + 1) = a + off + 1 by omega]
def FitA (ks : List (Option IntKind)) (xs : Array Value) (off : Nat) : Prop := off + ks.length ≤ xs.size ∧ ∀ (j : Nat) (k : Option IntKind), ks[j]? = some k → fitV k (xs.getD (off + j) undef)
def FitT (P : Program) (t : Nat) (ks : List (Option IntKind)) (v : Value) : Prop :=
 (∀ d, P.underlying t = some d → jG d = true → ∃ xs, v = .agg xs ∧ xs.size = ks.length) ∧
 (∀ d, P.underlying t = some d → jG d = false → v.cells = #[v]) ∧ FitA ks v.cells 0
def FoldF (P : Program) (d : Nat) (fs : List Field) : Nat → Option (List (Option IntKind)) :=
 fs.foldr (fun f r => fun (off : Nat) =>
   match gX P d f.type with
   | some l => if f.offset = off ∧ f.name ≠ "_" ∧ ((P.info? f.type).map (·.size)) = some l.length then (r (off + l.length)).map (l ++ ·) else none
   | none => none) (fun _ => some [])
theorem aCN {d t : Nat} {ks : List (Option IntKind)} (h : gX P d t = some ks) : ∃ u, P.underlying t = some u ∧ (jG u = true ∨ (jG u = false ∧ ks.length = 1)) := by
 cases d with
 | zero => simp [gX] at h
 | succ d =>
  simp only [gX] at h;split at h
  · rename_i k hk; exact ⟨_, hk, .inr ⟨rfl, by injection h with h; rw [← h]; rfl⟩⟩
  · rename_i hk; exact ⟨_, hk, .inr ⟨rfl, by injection h with h; rw [← h]; rfl⟩⟩
  · rename_i fs hk; exact ⟨_, hk, .inl rfl⟩
  · cases h
theorem nX {d t : Nat} {ks : List (Option IntKind)} (h : gX P d t = some ks) (hs : (P.info? t).map (·.size) = some ks.length) (xs : Array Value) (off : Nat)
 (hf : FitA ks xs off) (w : World) : ∃ v, (part t xs off).run P w = .ok v w ∧ FitT P t ks v ∧ v.cells = xs.extract off (off + ks.length) := by
 obtain ⟨u, hu, hk⟩ := aCN h;obtain ⟨i, hi, hi2⟩ : ∃ i, P.info? t = some i ∧ i.size = ks.length := by
  cases hi : P.info? t with
  | none => simp [hi] at hs
  | some i => simp [hi] at hs; exact ⟨i, rfl, hs⟩
 have hagg : (isAgg t).run P w = .ok (jG u) w := by
  simp only [isAgg, Sem.run_bind, underlying, run_program, Result.andThen_ok, hu, Sem.run_pure];cases u <;> rfl
 have hsz : (sizeOf t).run P w = .ok ks.length w := by
  simp [sizeOf, typeInfo, hi, hi2]
 have hex : ∀ (j : Nat) (k : Option IntKind), ks[j]? = some k → fitV k ((xs.extract off (off + ks.length)).getD (0 + j) undef) := by
  intro j k hj;have hjl : j < ks.length := (List.getElem?_eq_some_iff.1 hj).1;rw [Be, dO xs _ _ j (by omega)];exact hf.2 j k hj
 rcases hk with hk | ⟨hk, h1⟩
 · refine ⟨.agg (xs.extract off (off + ks.length)), ?_, ⟨fun d hd _ => ⟨_, rfl, by simp [hf.1]⟩, fun d hd hn => ?_, by simp [Value.cells, hf.1], hex⟩, rfl⟩
   · simp [part, hagg, hk, hsz]
   · rw [hu] at hd; injection hd with hd; subst hd; rw [hk] at hn; cases hn
 · have hlt : off < xs.size := by have := hf.1; omega
   obtain ⟨k, hkk⟩ : ∃ k, ks = [k] := by
    match ks, h1 with
    | [k], _ => exact ⟨k, rfl⟩
   subst hkk;have hv := hf.2 0 k rfl;rw [Bn, Array.getD_eq_getD_getElem?, Array.getElem?_eq_getElem hlt, Option.getD_some] at hv;have hc : (xs[off]).cells = #[xs[off]] := by
    cases k <;> cases hx : xs[off] <;> simp_all [fitV, Value.cells]
   have he : xs.extract off (off + 1) = #[xs[off]] := by
    apply Array.ext
    · simp; omega
    · intro i hi1 hi2;simp at hi2;subst hi2;simp
   refine ⟨xs[off], ?_, ⟨fun d hd ha => ?_, fun d hd hn => hc, by rw [hc]; simp, ?_⟩, by rw [hc]; exact he.symm⟩
   · simp [part, hagg, hk, hlt]
   · rw [hu] at hd; injection hd with hd; subst hd; rw [hk] at ha; cases ha
   · rw [hc, ← he]; exact hex
theorem vI : ∀ (d : Nat) (t : Nat) (ks : List (Option IntKind)), gX P d t = some ks → ∀ (e : Nat), d ≤ e → ∀ (a b : Value) (w : World), FitT P t ks a → FitT P t ks b →
 (Op.equalIn e t a b).run P w = .ok (eI a.cells b.cells 0 ks.length) w
 | 0, t, ks, h, _, _, _, _, _, _, _ => by simp [gX] at h
 | d + 1, t, ks, h, e, he, a, b, w, ha, hb => by
  obtain ⟨e, rfl⟩ : ∃ e', e = e' + 1 := ⟨e - 1, by omega⟩
  simp only [gX] at h;split at h
  · rename_i k hk;injection h with h; subst h
    have h1 := ha.2.2.2 0 _ rfl;have h2 := hb.2.2.2 0 _ rfl;have c1 := ha.2.1 _ hk rfl;have c2 := hb.2.1 _ hk rfl;rw [c1] at h1 ⊢; rw [c2] at h2 ⊢;cases a <;> simp [fitV] at h1;cases b <;> simp [fitV] at h2;subst h1; subst h2;simp [run_equalIn_int w e t _ _ _ _ hk, eI, eqV]
  · rename_i hk;injection h with h; subst h
    have h1 := ha.2.2.2 0 _ rfl;have h2 := hb.2.2.2 0 _ rfl;have c1 := ha.2.1 _ hk rfl;have c2 := hb.2.1 _ hk rfl;rw [c1] at h1 ⊢; rw [c2] at h2 ⊢;cases a <;> simp [fitV] at h1;cases b <;> simp [fitV] at h2;simp [run_equalIn_bool' w e t _ _ hk, eI, eqV]
  · rename_i fs hk;split at h
    · cases h
    · rename_i hst;obtain ⟨xs, rfl, hx⟩ := ha.1 _ hk rfl;obtain ⟨ys, rfl, hy⟩ := hb.1 _ hk rfl;have hfo : P.fieldsOf t = fs := by simp [Program.fieldsOf, hk]
      rw [run_equalIn_struct w e t xs ys (by rw [hfo]; exact hk) (by simpa using hst), hfo];have key : ∀ (l : List Field) (off : Nat) (ks : List (Option IntKind)), FoldF P d l off = some ks → FitA ks xs off → FitA ks ys off →
          (Op.eqFields e xs ys l).run P w = .ok (eI xs ys off ks.length) w := by
       intro l;induction l with
       | nil => intro off ks h1 _ _; simp [FoldF] at h1; subst h1; simp [Op.eqFields, eI]
       | cons f r ih =>
        intro off ks h1 h2 h3;simp only [FoldF, List.foldr_cons] at h1;split at h1
        · rename_i l hl;split at h1
          · rename_i hc;obtain ⟨hof, hnm, hsz⟩ := hc;obtain ⟨rest, hr, rfl⟩ := Option.map_eq_some_iff.1 h1;have fa : ∀ {zs : Array Value}, FitA (l ++ rest) zs off → FitA l zs off ∧ FitA rest zs (off + l.length) := by
             intro zs hz;refine ⟨⟨by have := hz.1; simp at this; omega, fun j k hj => hz.2 j k ?_⟩, ⟨by have := hz.1; simp at this; omega, fun j k hj => ?_⟩⟩
             · rw [List.getElem?_append_left (List.getElem?_eq_some_iff.1 hj).1]; exact hj
             · have := hz.2 (l.length + j) k (by rw [List.getElem?_append_right (by omega)]; simpa using hj);rwa [show off + (l.length + j) = off + l.length + j by omega] at this
            obtain ⟨v1, p1, q1, r1⟩ := nX hl hsz xs off (fa h2).1 w;obtain ⟨v2, p2, q2, r2⟩ := nX hl hsz ys off (fa h3).1 w;have he := vI d f.type l hl e (by omega) v1 v2 w q1 q2;have ih' := ih (off + l.length) rest hr (fa h2).2 (fa h3).2;rw [r1, r2, mG xs ys _ _ l.length 0 (by omega), Bn] at he;simp only [Op.eqFields, if_pos hnm, Sem.run_bind, hof, p1, p2, he, Result.andThen_ok];rw [List.length_append, wS];cases eI xs ys off l.length
            · simp
            · simp [ih']
          · cases h1
        · cases h1
      exact key fs.toList 0 ks h (by have := ha.2.2; exact this) (by have := hb.2.2; exact this)
  · cases h
theorem pZ : ∀ (d : Nat) (t : Nat) (ks : List (Option IntKind)), gX P d t = some ks → ∀ e, d ≤ e → P.eqGuardType e t = false
 | 0, t, ks, h, _, _ => by simp [gX] at h
 | d + 1, t, ks, h, e, he => by
  obtain ⟨e, rfl⟩ : ∃ e', e = e' + 1 := ⟨e - 1, by omega⟩
  simp only [gX] at h;split at h
  · rename_i k hk; simp [Program.eqGuardType, hk]
  · rename_i hk; simp [Program.eqGuardType, hk]
  · rename_i fs hk;split at h
    · cases h
    · simp only [Program.eqGuardType, hk];rw [← Array.any_toList];have key : ∀ (l : List Field) (off : Nat) (ks : List (Option IntKind)), FoldF P d l off = some ks → (l.any fun f => f.name != "_" && P.eqGuardType e f.type) = false := by
       intro l;induction l with
       | nil => intros; rfl
       | cons f r ih =>
        intro off ks h1;simp only [FoldF, List.foldr_cons] at h1;split at h1
        · rename_i l hl;split at h1
          · obtain ⟨rest, hr, rfl⟩ := Option.map_eq_some_iff.1 h1;simp [pZ d f.type l hl e (by omega)];have := ih _ _ hr
            simpa using this
          · cases h1
        · cases h1
      exact key _ _ _ h
  · cases h
theorem qK : ∀ (fl : List (Option IntKind)) (cs : List AV), fits fl cs = true → fl.length = cs.length ∧
 ∀ (ys : Array Value) (off : Nat), (∀ (j : Nat) (c : AV), cs[j]? = some c → LeafR x c (ys.getD (off + j) undef)) → ∀ (j : Nat) (k : Option IntKind), fl[j]? = some k → fitV k (ys.getD (off + j) undef)
 | [], [], _ => ⟨rfl, fun _ _ _ j k hj => by simp at hj⟩
 | [], _ :: _, h => by simp [fits] at h
 | some k :: r, [], h => by simp [fits] at h
 | none :: r, [], h => by simp [fits] at h
 | some k :: r, c :: r', h => by
  cases c <;> simp only [fits, Br, Aj] at h;rename_i k' n;obtain ⟨h1, h2⟩ := h;have ih := qK r r' h2;refine ⟨by simp [ih.1], fun ys off hR j k1 hj => ?_⟩;cases j with
  | zero =>
   have := (hR 0 _ rfl).cJ;rw [this];simp at hj; subst hj;exact fI h1
  | succ j => have := ih.2 ys (off + 1) (fun j c hc => by have := hR (j + 1) c (by simpa using hc); rwa [show off + (j + 1) = off + 1 + j by omega] at this) j k1 (by simpa using hj); rwa [show off + (j + 1) = off + 1 + j by omega]
 | none :: r, c :: r', h => by
  cases c <;> simp only [fits, Br] at h;rename_i b;have ih := qK r r' h;refine ⟨by simp [ih.1], fun ys off hR j k1 hj => ?_⟩;cases j with
  | zero =>
   have := (hR 0 _ rfl).bool_inv;rw [this];simp at hj; subst hj;trivial
  | succ j => have := ih.2 ys (off + 1) (fun j c hc => by have := hR (j + 1) c (by simpa using hc); rwa [show off + (j + 1) = off + 1 + j by omega] at this) j k1 (by simpa using hj); rwa [show off + (j + 1) = off + 1 + j by omega]
theorem iR : ∀ (as bs : List AV) (q : SB), jU (aB P) as bs = some q → ∀ (xs ys : Array Value) (off : Nat),
 (∀ (j : Nat) (c : AV), as[j]? = some c → LeafR x c (xs.getD (off + j) undef)) → (∀ (j : Nat) (c : AV), bs[j]? = some c → LeafR x c (ys.getD (off + j) undef)) →
 q.val = eI xs ys off as.length
 | [], [], q, h, xs, ys, off, _, _ => by simp [jU] at h; subst h; rfl
 | [], _ :: _, q, h, _, _, _, _, _ => by simp [jU] at h
 | a :: as, [], q, h, _, _, _, _, _ => by cases a <;> simp [jU] at h
 | a :: as, b :: bs, q, h, xs, ys, off, h1, h2 => by
  have s1 : ∀ (j : Nat) (c : AV), as[j]? = some c → LeafR x c (xs.getD (off + 1 + j) undef) := fun j c hc => by have := h1 (j + 1) c (by simpa using hc); rwa [show off + (j + 1) = off + 1 + j by omega] at this
  have s2 : ∀ (j : Nat) (c : AV), bs[j]? = some c → LeafR x c (ys.getD (off + 1 + j) undef) := fun j c hc => by have := h2 (j + 1) c (by simpa using hc); rwa [show off + (j + 1) = off + 1 + j by omega] at this
  have f1 := h1 0 a rfl;have f2 := h2 0 b rfl;simp only [Bn] at f1 f2;cases a <;> cases b <;> simp only [jU, reduceCtorEq] at h
  · split at h
    · rename_i q' hq';injection h with h; subst h
      rw [sbAnd_real, bX, iR as bs q' hq' xs ys (off + 1) s1 s2];simp only [List.length_cons, eI, f1.cJ, f2.cJ, eqV, cmpR]
    · cases h
  · split at h
    · rename_i q' hq';injection h with h; subst h
      rw [sbAnd_real, rC, iR as bs q' hq' xs ys (off + 1) s1 s2];simp only [List.length_cons, eI, f1.bool_inv, f2.bool_inv, eqV]
    · cases h
theorem fO (w : World) (d : Nat) (t e : Nat) (A : Option Addr) (len cap : Nat) (hu : P.underlying t = some (.slice e)) : (Op.equalIn (d + 1) t (.slice A len cap) (.slice none 0 0)).run P w = .ok A.isNone w := by
 cases A <;> simp [Op.equalIn, run_underlying hu]
theorem gO {G : Nat → TI} (hG : GOK P G) {op : BinOp} {t : TypeId} {xo yo : Operand} {A : Option Addr} {len cap : Nat} {n : Int} {K : AV → Prop} (hn : A = none → n = 0)
 (h : vY (aB P) (G t) op n K) : ∃ v, K v ∧ ∃ val, (do eqGuard op t xo yo (.slice A len cap) (.slice none 0 0); Go.binOp op t (.slice A len cap) (.slice none 0 0) : Sem Value).run P x.w = .ok val x.w ∧ RelV x v val := by
 have hb : A.isNone = true → n = 0 := fun h => hn (Option.isNone_iff_eq_none.1 h)
 unfold vY at h;split at h
 · rename_i e hk;obtain ⟨i, d, v, ht⟩ := hG.tok (t := t) (k := .slice e) (sz := (G t).sz) (by_ := (G t).bytes) (z := (G t).zero) (fl := (G t).fl) (by rw [← hk]) (by simp);have hu : P.underlying t = some (.slice e) := by rw [ht.und]; have := ht.kind; cases d <;> simp_all [tkOf]
   exact ⟨_, h A.isNone hb, .bool A.isNone, by simp [eqGuard, Go.binOp, Op.equal, Op.maxDepth, fO _ _ _ _ _ _ _ hu, Result.andThen], rel_bool _ _ rfl⟩
 · rename_i e hk;obtain ⟨i, d, v, ht⟩ := hG.tok (t := t) (k := .slice e) (sz := (G t).sz) (by_ := (G t).bytes) (z := (G t).zero) (fl := (G t).fl) (by rw [← hk]) (by simp);have hu : P.underlying t = some (.slice e) := by rw [ht.und]; have := ht.kind; cases d <;> simp_all [tkOf]
   exact ⟨_, h A.isNone hb, .bool (!A.isNone), by simp [eqGuard, Go.binOp, Op.equal, Op.maxDepth, fO _ _ _ _ _ _ _ hu, Result.andThen], rel_bool _ _ rfl⟩
 · exact h.elim
theorem s0_val {v : Value} (h : RelV x .s0 v) : v = .slice none 0 0 := by
 cases (show RoV _ _ .s0 v from h) with
 | s0 => rfl
theorem aEQ {G : Nat → TI} (hG : GOK P G) {op : BinOp} {t : TypeId} {xo yo : Operand} {a b : AV} {va vb : Value} {K : AV → Prop} (ha : RelV x a va) (hb : RelV x b vb)
 (h : binOp (aB P) (G t) op a b K) : ∃ v, K v ∧ ∃ val, (do eqGuard op t xo yo va vb; Go.binOp op t va vb : Sem Value).run P x.w = .ok val x.w ∧ RelV x v val := by
 unfold binOp at h;split at h
 · rename_i k a k' b;have e1 := ha.cJ;have e2 := hb.cJ;subst e1 e2;split at h
   · rcases brB_real h with ⟨_, h2⟩ | ⟨h1, h2⟩
     · exact h2.elim
     · rw [bX] at h1;have h1' : ¬ (b.val < 0) := by have := Ce h1; simpa [SI.val] using this
       refine ⟨_, h2, .int k (aA .shl k a.val b.val), ?_, fN _ _ _ (iA _ _ _ _)⟩;simp [eqGuard, Go.binOp, Op.shift, aA, if_neg h1', Result.andThen]
   · rcases brB_real h with ⟨_, h2⟩ | ⟨h1, h2⟩
     · exact h2.elim
     · rw [bX] at h1;have h1' : ¬ (b.val < 0) := by have := Ce h1; simpa [SI.val] using this
       refine ⟨_, h2, .int k (aA .shr k a.val b.val), ?_, fN _ _ _ (iA _ _ _ _)⟩;simp [eqGuard, Go.binOp, Op.shift, aA, if_neg h1', Result.andThen]
   · cases hk : ikEq k k' with
     | false => rw [hk] at h; exact h.elim
     | true =>
      rw [hk] at h;have := fI hk;subst this;rw [cond_true] at h;rcases brB_real h with ⟨_, h2⟩ | ⟨h1, h2⟩
      · exact h2.elim
      · rw [bX] at h1;have h1' : ¬ (b.val = 0) := by intro h3; rw [h3] at h1; cases h1
        refine ⟨_, h2, .int k (aA .quo k a.val b.val), ?_, fN _ _ _ (iA _ _ _ _)⟩;simp [eqGuard, Go.binOp, Op.intDiv, aA, if_neg h1', Result.andThen]
   · cases hk : ikEq k k' with
     | false => rw [hk] at h; exact h.elim
     | true =>
      rw [hk] at h;have := fI hk;subst this;rw [cond_true] at h;rcases brB_real h with ⟨_, h2⟩ | ⟨h1, h2⟩
      · exact h2.elim
      · rw [bX] at h1;have h1' : ¬ (b.val = 0) := by intro h3; rw [h3] at h1; cases h1
        refine ⟨_, h2, .int k (aA .rem k a.val b.val), ?_, fN _ _ _ (iA _ _ _ _)⟩;simp [eqGuard, Go.binOp, Op.intDiv, aA, if_neg h1', Result.andThen]
   all_goals (
     cases hk : ikEq k k' with
     | false => rw [hk] at h; exact h.elim
     | true =>
       rw [hk] at h;have := fI hk;subst this;rw [cond_true] at h
       first
         | exact ⟨_, h, _, by simp [eqGuard, Go.binOp, Op.intCmp, Result.andThen]; rfl, rel_bool _ _ (by rw [bX]; rfl)⟩
         | (
            refine ⟨_, h, .int k (aA op k a.val b.val), ?_, fN _ _ _ (iA _ _ _ _)⟩;cases op <;> simp_all [eqGuard, Go.binOp, Op.intArith, Op.intBits, Op.intCmp, aA, Result.andThen]))
 · rename_i a b;have e1 := ha.bool_inv;have e2 := hb.bool_inv;subst e1 e2;split at h
   · rename_i hk;obtain ⟨i, d, v, ht⟩ := hG.tok (t := t) (k := .bool) (sz := (G t).sz) (by_ := (G t).bytes) (z := (G t).zero) (fl := (G t).fl) (by rw [← hk]) (by simp);have hu : P.underlying t = some .bool := by rw [ht.und]; have := ht.kind; cases d <;> simp_all [tkOf]
     exact ⟨_, h, .bool (a.val == b.val), by simp [eqGuard, Go.binOp, Op.equal, Op.maxDepth, run_equalIn_bool' _ _ _ _ _ hu, Result.andThen], rel_bool _ _ (rC _ _)⟩
   · rename_i hk;obtain ⟨i, d, v, ht⟩ := hG.tok (t := t) (k := .bool) (sz := (G t).sz) (by_ := (G t).bytes) (z := (G t).zero) (fl := (G t).fl) (by rw [← hk]) (by simp);have hu : P.underlying t = some .bool := by rw [ht.und]; have := ht.kind; cases d <;> simp_all [tkOf]
     exact ⟨_, h, .bool (!(a.val == b.val)), by simp [eqGuard, Go.binOp, Op.equal, Op.maxDepth, run_equalIn_bool' _ _ _ _ _ hu, Result.andThen], rel_bool _ _ (by rw [oN, rC])⟩
   · exact h.elim
 · rename_i as bs;split at h
   · rename_i fs sz by_ z fl hk;obtain ⟨i, d, v, ht⟩ := hG.tok hk (by simp);cases hf : fits fl as && fits fl bs with
     | false => rw [hf] at h; exact h.elim
     | true =>
      rw [hf, cond_true] at h;simp only [Aj] at hf;obtain ⟨xs, rfl, hx, hxr⟩ := ha;obtain ⟨ys, rfl, hy, hyr⟩ := hb;obtain ⟨d', hd'⟩ : ∃ fs', d = .struct fs' := by have := ht.kind; cases d <;> simp_all [tkOf]
      subst hd';have fx := qK (x := x) fl as hf.1;have fy := qK (x := x) fl bs hf.2;have tx : FitT P t fl (.agg xs) := ⟨fun _ _ _ => ⟨xs, rfl, by omega⟩, fun d1 hd1 hn => (by rw [ht.und] at hd1; injection hd1 with hd1; subst hd1; cases hn),
        ⟨by simp [Value.cells]; omega, fun j k hj => fx.2 xs 0 (fun j c hc => by rw [Be]; exact hxr j c hc) j k hj⟩⟩
      have ty : FitT P t fl (.agg ys) := ⟨fun _ _ _ => ⟨ys, rfl, by omega⟩, fun d1 hd1 hn => (by rw [ht.und] at hd1; injection hd1 with hd1; subst hd1; cases hn),
        ⟨by simp [Value.cells]; omega, fun j k hj => fy.2 ys 0 (fun j c hc => by rw [Be]; exact hyr j c hc) j k hj⟩⟩
      have he := vI 5 t fl ht.flat Op.maxDepth (by simp [Op.maxDepth]) (.agg xs) (.agg ys) x.w tx ty;have hg := pZ 5 t fl ht.flat P.depth hG.depth;split at h
      · rename_i q hq;have := iR (x := x) as bs q hq xs ys 0 (fun j c hc => by rw [Be]; exact hxr j c hc) (fun j c hc => by rw [Be]; exact hyr j c hc);refine ⟨_, h, .bool q.val, ?_, rel_bool _ _ rfl⟩;rw [this, ← fx.1];simp only [Value.cells] at he;simp [eqGuard, Go.binOp, Op.equal, he, hg, Result.andThen]
      · rename_i q hq;have := iR (x := x) as bs q hq xs ys 0 (fun j c hc => by rw [Be]; exact hxr j c hc) (fun j c hc => by rw [Be]; exact hyr j c hc);refine ⟨_, h, .bool (!q.val), ?_, rel_bool _ _ (oN _)⟩;rw [this, ← fx.1];simp only [Value.cells] at he;simp [eqGuard, Go.binOp, Op.equal, he, hg, Result.andThen]
      · exact h.elim
   · exact h.elim
 · rename_i a b;have e1 := ha.tO;have e2 := hb.tO;subst e1 e2;split at h
   · exact ⟨_, h, .bool (a == b), by simp [eqGuard, Go.binOp, Op.stringOp, Result.andThen, beq_toListBytes], rel_bool _ _ rfl⟩
   · exact ⟨_, h, .bool (!(a == b)), by simp [eqGuard, Go.binOp, Op.stringOp, Result.andThen, beq_toListBytes], rel_bool _ _ rfl⟩
   · exact h.elim
 · exact h.elim
theorem binNil_sound {G : Nat → TI} (hG : GOK P G) {op : BinOp} {t : TypeId} {xo yo : Operand} {a b : AV} {va vb : Value} {K : AV → Prop} {other : Unit → Prop} (ha : RelV x a va) (hb : RelV x b vb)
 (h : aGF (aB P) (G t) op a b K other) : other () ∨ ∃ v, K v ∧ ∃ val, (do eqGuard op t xo yo va vb; Go.binOp op t va vb : Sem Value).run P x.w = .ok val x.w ∧ RelV x v val := by
 unfold aGF at h;split at h
 · rename_i k l;rw [s0_val hb];cases (show RoV _ _ (.sli k l) va from ha) with
   | sli _ _ a cap hs ho hp hc => exact .inr <| gO hG (fun e => by cases e) h
   | sliN _ A cap => exact .inr <| gO hG (fun _ => rfl) h
 · rename_i sz n f;rw [s0_val hb];cases (show RoV _ _ (.slc sz n f) va from ha) with
   | slc _ _ _ a cap Y hs ho h0 hp hl hc hr => exact .inr <| gO hG (fun e => by cases e) h
   | slcN _ _ _ A cap h1 => exact .inr <| gO hG (fun _ => h1) h
 · rename_i b sz r n;rw [s0_val hb];obtain ⟨_, _, q1, A, cap, rfl, q2, q3, _⟩ := (show LeafR _ (.ms b sz r n) va from ha)
   refine .inr <| gO hG (fun e => ?_) h
   rcases Ao cap with hc | hc
   · omega
   · rw [q3 hc] at e; cases e
 · have e1 := s0_val ha;have e2 := s0_val hb;subst e1 e2;split at h
   · rename_i e hk;obtain ⟨i, d, v, ht⟩ := hG.tok (t := t) (k := .slice e) (sz := (G t).sz) (by_ := (G t).bytes) (z := (G t).zero) (fl := (G t).fl) (by rw [← hk]) (by simp);have hu : P.underlying t = some (.slice e) := by rw [ht.und]; have := ht.kind; cases d <;> simp_all [tkOf]
     exact .inr ⟨_, h, .bool true, by simp [eqGuard, Go.binOp, Op.equal, Op.maxDepth, fO _ _ _ _ _ _ _ hu, Result.andThen], rel_bool _ _ rfl⟩
   · rename_i e hk;obtain ⟨i, d, v, ht⟩ := hG.tok (t := t) (k := .slice e) (sz := (G t).sz) (by_ := (G t).bytes) (z := (G t).zero) (fl := (G t).fl) (by rw [← hk]) (by simp);have hu : P.underlying t = some (.slice e) := by rw [ht.und]; have := ht.kind; cases d <;> simp_all [tkOf]
     exact .inr ⟨_, h, .bool false, by simp [eqGuard, Go.binOp, Op.equal, Op.maxDepth, fO _ _ _ _ _ _ _ hu, Result.andThen], rel_bool _ _ rfl⟩
   · exact h.elim
 · exact .inl h
theorem aGG {op : UnOp} {a : AV} {va : Value} {K : AV → Prop} (ha : RelV x a va) (h : unOp (aB P) op a K) :
 ∃ v, K v ∧ ∃ val, (Op.unary op va).run P x.w = .ok val x.w ∧ RelV x v val := by
 unfold unOp at h;split at h
 · rename_i b;have := ha.bool_inv; subst this;exact ⟨_, h, .bool (!b.val), by simp [Op.unary], rel_bool _ _ (oN _)⟩
 · rename_i k n;have := ha.cJ; subst this;exact ⟨_, h, .int k (aA .sub k 0 n.val), by simp [Op.unary, Op.intArith, aA], fN _ _ _ (iA _ _ _ _)⟩
 · rename_i k n;have := ha.cJ; subst this;exact ⟨_, h, .int k (unR .xor k n.val), by simp [Op.unary, Op.intBits, unR], fN _ _ _ rfl⟩
 · exact h.elim
end ops
end
section
open Go Go.RowKit
section
variable {P : Program} {G : Nat → TI}
theorem cD {h : List Blk} {b : Nat} {x : Blk} (e : bS h b = x) (hx : x ≠ .dead) : h[b]? = some x := by
 rw [dX] at e;cases hb : h[b]? with
 | none => rw [hb] at e; exact absurd e.symm hx
 | some y => rw [hb] at e; simp at e; rw [e]
theorem aU {t : Nat} {d : TypeDesc} (h : P.underlying t = some d) (w : World) : (underlying t).run P w = .ok d w := by
 simp [underlying, h]
theorem cF {t : Nat} {i : TypeInfo} (h : P.info? t = some i) (w : World) : (typeInfo t).run P w = .ok i w := by
 simp [typeInfo, h]
theorem cO {t : Nat} {i : TypeInfo} (h : P.info? t = some i) (w : World) : (sizeOf t).run P w = .ok i.size w := by
 simp [sizeOf, cF h]
theorem jK {t : Nat} {d : TypeDesc} (h : P.underlying t = some d) (w : World) : (isAgg t).run P w = .ok (jG d) w := by
 simp only [isAgg, Sem.run_bind, aU h, Result.andThen_ok];cases d <;> rfl
theorem sL {d : TypeDesc} {k : TK} (h : tkOf P d = k) (hk : k ≠ .oth) : k.agg = jG d := by
 cases d <;> simp_all [tkOf, TK.agg, jG] <;> (subst h; rfl)
theorem cX {a : Addr} (hs : a.spot = none) (n : Nat) : a.add n = ⟨a.block, a.off + n, none⟩ := by
 unfold Addr.add;split
 · subst_vars; cases a; simp_all
 · rfl
theorem pX {t : Nat} {k : TK} {sz by_ : Nat} {z : List AV} {fl : Option (List (Option IntKind))} {i : TypeInfo} {d : TypeDesc} {v : Value} (T : TOK P t k sz by_ z fl i d v) (hk : k ≠ .oth)
 {a : Addr} {w : World} (hs : a.spot = none) {cs : List AV} {R : AV → Value → Prop}
 (hc : ∀ (j : Nat) (c : AV), cs[j]? = some c → ∃ y, w.cell? ⟨a.block, a.off + j, none⟩ = some y ∧ R c y) {K : AV → Prop}
 (h : sJ k.agg sz cs K) :
 ∃ v', K v' ∧ ∃ val, (loadVar t a).run P w = .ok val w ∧
  ((∃ ys : Array Value, v' = .agg cs ∧ val = .agg ys ∧ cs.length = ys.size ∧ ∀ (j : Nat) (c : AV), cs[j]? = some c → R c (ys.getD j undef)) ∨ R v' val) := by
 unfold sJ at h;cases hl : Nat.beq (lenC cs) sz with
 | false => rw [hl] at h; exact h.elim
 | true =>
  rw [hl, cond_true] at h;have hlen : cs.length = sz := by rw [← gA]; exact Ad hl
  have hag := sL T.kind hk;cases ha : k.agg with
  | true =>
   rw [ha, cond_true] at h;obtain ⟨Y, hY⟩ : ∃ Y : Nat → Value, ∀ (j : Nat) (c : AV), cs[j]? = some c → w.cell? ⟨a.block, a.off + j, none⟩ = some (Y j) ∧ R c (Y j) := by
    refine ⟨fun j => (w.cell? ⟨a.block, a.off + j, none⟩).getD undef, fun j c hj => ?_⟩;obtain ⟨y, h1, h2⟩ := hc j c hj;simp only [h1, Option.getD_some]; exact ⟨trivial, h2⟩
   have hr := run_loadCells (P := P) w a sz Y (fun j hj => by
     rw [cX hs];exact (hY j cs[j] (List.getElem?_eq_getElem (by omega))).1)
   refine ⟨_, h, .agg ((List.range sz).map Y).toArray, ?_, .inl ⟨_, rfl, rfl, by simp [hlen], fun j c hj => ?_⟩⟩
   · simp [loadVar, jK T.und, ← hag, ha, cO T.info, T.size, hr]
   · have hjl : j < sz := by have := (List.getElem?_eq_some_iff.1 hj).1; omega
     have := (hY j c hj).2;simp [Array.getD_eq_getD_getElem?, hjl];exact this
  | false =>
   rw [ha, cond_false] at h;split at h
   · rename_i c;obtain ⟨y, h1, h2⟩ := hc 0 c rfl;refine ⟨c, h, y, ?_, .inr h2⟩;have : a = ⟨a.block, a.off + 0, none⟩ := by cases a; simp_all
     simp only [loadVar, Sem.run_bind, jK T.und, ← hag, ha, Result.andThen_ok, Br, if_false, run_load];rw [this, h1]
   · exact h.elim
variable {base : Nat} {O0 : Nat → Prop} {μ : Nat → Nat} {hp : List Blk} {w : World}
theorem wY (hG : GOK P G) (H : HR base O0 μ hp w) {t : Nat} {p : AV} {v : Value} (hv : RelV (mkX base O0 μ hp w) p v) {K : AV → Prop} (h : load (aB P) G hp t p K) :
 ∃ v', K v' ∧ ∃ val, (Instr.loadAt t v).run P w = .ok val w ∧ RelV (mkX base O0 μ hp w) v' val := by
 unfold load at h;split at h
 · exact h.elim
 rename_i k sz by_ z fl hne hk;have hk0 : k ≠ .oth := hne;obtain ⟨i, d, z', T⟩ := hG.tok hk hk0;have h' := h;clear h;unfold aBA at h';split at h'
 · rename_i cs;cases (show RoV _ _ (.rp cs) v from hv) with
   | rp _ a Y hs ho hc hr =>
    rw [lT] at h';obtain ⟨v', hK, val, hrun, hrel⟩ := pX T hk0 (w := w) hs (cs := cs.take sz) (R := RoV (mkX base O0 μ hp w).O w) (fun j c hj => by
      have : cs[j]? = some c := by rw [List.getElem?_take] at hj; split at hj <;> simp_all
      exact ⟨_, hc j c this, hr j c this⟩) h'
    refine ⟨v', hK, val, by simpa [Instr.loadAt, Instr.sureAddr] using hrun, ?_⟩;rcases hrel with ⟨ys, rfl, rfl, hl, hh⟩ | hrel
    · exact ⟨ys, rfl, hl, fun j c hj => aR (hh j c hj)⟩
    · exact dK hrel
 · rename_i b psz row col;obtain ⟨hb, h0, rfl, hd⟩ := (show LeafR _ (.ptr b psz row col) v from hv)
   split at h'
   · rename_i wr k' l hblk;have hb' := cD hblk (by simp);cases hc : Nat.beq sz 1 && Nat.beq col 0 && !k.agg with
     | false => rw [hc] at h'; exact h'.elim
     | true =>
      rw [hc, cond_true] at h';simp only [Aj, Dl] at hc;have hcol : col = 0 := Ad hc.1.2;obtain ⟨c, e, hcell, hh⟩ := H.blk b _ hb';have hdim : dimB hp b = some (l.length, 1) := by simp [dimB, hb', Blk.dim]
      obtain ⟨hlt, hsz⟩ := hd _ _ hdim;subst hcol;have hn := hh row.val.toNat l[row.val.toNat] (List.getElem?_eq_getElem hlt);refine ⟨_, h', .int k' l[row.val.toNat], ?_, fN _ _ _ (by show l.getD row.val.toNat 0 = _; simp [List.getD, List.getElem?_eq_getElem hlt])⟩;have hcellw : w.heap[μ b]? = some (.cells c e (0, 0)) := hcell;simp only [mkX, Instr.loadAt, Instr.sureAddr, loadVar, Sem.run_bind, Sem.run_pure, jK T.und, ← sL T.kind hk0, hc.2, Result.andThen_ok, Br, if_false, run_load, World.cell?, hcellw, ← hsz, By, Bn, hn];simp
   · rename_i wr rsz d' l hblk;have hb' := cD hblk (by simp);obtain ⟨hdl, c, e, hcell, hh⟩ := H.blk b _ hb';have hdim : dimB hp b = some (l.length, rsz) := by simp [dimB, hb', Blk.dim]
     obtain ⟨hlt, hsz⟩ := hd _ _ hdim;subst hsz;have hrow : rowAt (aB P) l d' row = l[row.val.toNat] := by
      cases row with
      | l i => simp only [rowAt, nJ l i h0]; simp only [SI.val] at hlt; simp [List.getD, List.getElem?_eq_getElem hlt, SI.val]
      | s i => simp only [rowAt, aB]; simp only [SI.val] at hlt; simp [List.getD, List.getElem?_eq_getElem hlt, SI.val]
     rw [lT, mH, hrow] at h';obtain ⟨hrl, hrc⟩ := hh _ _ (List.getElem?_eq_getElem hlt);have hcellw : w.heap[μ b]? = some (.cells c e (0, 0)) := hcell;obtain ⟨v', hK, val, hrun, hrel⟩ := pX T hk0 (w := w) (a := ⟨(mkX base O0 μ hp w).μ b, row.val.toNat * rsz + col, none⟩) rfl
      (cs := (l[row.val.toNat].drop col).take sz) (R := LeafR (mkX base O0 μ hp w)) (fun j c' hj => by
        have : (l[row.val.toNat])[col + j]? = some c' := by
          rw [List.getElem?_take] at hj;split at hj
          · rwa [List.getElem?_drop] at hj
          · cases hj
        obtain ⟨y, h1, h2⟩ := hrc _ _ this;refine ⟨y, ?_, h2⟩;simp only [mkX, World.cell?, hcellw]
        simpa [Cs] using h1) h'
     refine ⟨v', hK, val, by simpa [Instr.loadAt, Instr.sureAddr] using hrun, ?_⟩;rcases hrel with ⟨ys, rfl, rfl, hl, hh⟩ | hrel
     · exact ⟨ys, rfl, hl, hh⟩
     · revert hrel;cases v' <;> intro hrel <;> first | exact hrel | (exact dK (show RoV _ _ _ _ from hrel))
   · exact h'.elim
 · exact h'.elim
end
end
section
open Go Go.RowKit
section
variable {P : Program} {G : Nat → TI} {base : Nat} {O0 : Nat → Prop} {μ : Nat → Nat} {hp : List Blk} {w : World}
def Val (P : Program) (x : X) (s : Sem Value) (v : AV) : Prop := ∃ val, s.run P x.w = .ok val x.w ∧ RelV x v val
theorem gQ {d : TypeDesc} {fs : List (Nat × Nat × Bool)} (h : tkOf P d = .struct fs) : ∃ fields, d = .struct fields ∧ fs = fields.toList.map (gR P) := by
 cases d <;> simp_all [tkOf]
theorem eQ {d : TypeDesc} {e : Nat} (h : tkOf P d = .slice e) : d = .slice e := by
 cases d <;> simp_all [tkOf]
theorem kC {d : TypeDesc} {n e : Nat} (h : tkOf P d = .array n e) : d = .array n e := by
 cases d <;> simp_all [tkOf]
theorem tH {d : TypeDesc} (h : tkOf P d = .str) : d = .string := by
 cases d <;> simp_all [tkOf]
theorem tF {d : TypeDesc} {k : IntKind} (h : tkOf P d = .int k) : d = .int k := by
 cases d <;> simp_all [tkOf]
theorem aFM {fields : Array Field} {f : Nat} {off fz : Nat} {ag : Bool} (h : nthF (fields.toList.map (gR P)) f = some (off, fz, ag)) (h1 : 1 ≤ fz) :
 ∃ fd i, fields[f]? = some fd ∧ fd.offset = off ∧ P.info? fd.type = some i ∧ i.size = fz ∧ ∃ d, P.underlying fd.type = some d ∧ ag = jG d := by
 rw [aAK, List.getElem?_map, Option.map_eq_some_iff] at h;obtain ⟨fd, h2, h3⟩ := h;unfold gR at h3;split at h3
 · rename_i i d hi hd;simp only [Prod.mk.injEq] at h3;obtain ⟨e1, e2, e3⟩ := h3;exact ⟨fd, i, by simpa using h2, e1, hi, e2, d, hd, e3.symm⟩
 · simp only [Prod.mk.injEq] at h3;omega
theorem tG {t f : Nat} {fields : Array Field} {fd : Field} {i : TypeInfo} (hu : P.underlying t = some (.struct fields)) (hf : fields[f]? = some fd) (hi : P.info? fd.type = some i) (h1 : 1 ≤ i.size)
 (a : Addr) (w : World) : (Instr.fieldAt t (.pointer (some a)) f).run P w = .ok (.pointer (some (a.add fd.offset))) w := by
 simp only [Instr.fieldAt, Sem.run_bind, aU hu, Result.andThen_ok, hf, Instr.sureAddr, Sem.run_pure, fieldPlace, cO hi, Sem.run_ite];rw [if_neg (by omega)];simp
theorem tJ (hG : GOK P G) {x : X} {t f : Nat} {a : AV} {v : Value} {K : AV → Prop} (hv : RelV x a v)
 (h : iI (G t) f a K) : ∃ v', K v' ∧ Val P x (Instr.fieldAt t v f) v' := by
 unfold iI at h;split at h
 · rename_i fs sz1 by1 z1 fl1 b sz row col hk;obtain ⟨i, d, z', T⟩ := hG.tok hk (by simp);obtain ⟨fields, rfl, rfl⟩ := gQ T.kind;split at h
   · rename_i off fz ag hn;cases h1 : Nat.ble 1 fz with
     | false => rw [h1] at h; exact h.elim
     | true =>
      rw [h1, cond_true] at h;have h1' := An h1;obtain ⟨fd, i2, hf, rfl, hi, rfl, _⟩ := aFM hn h1';obtain ⟨hb, h0, rfl, hd⟩ := (show LeafR _ (.ptr b sz row col) v from hv)
      refine ⟨_, h, _, tG T.und hf hi h1' _ _, ?_⟩;rw [cX rfl];exact ⟨hb, h0, by simp only [Cs], hd⟩
   · exact h.elim
 · rename_i fs sz1 by1 z1 fl1 cs hk;obtain ⟨i, d, z', T⟩ := hG.tok hk (by simp);obtain ⟨fields, rfl, rfl⟩ := gQ T.kind;split at h
   · rename_i off fz ag hn;cases h1 : Nat.ble 1 fz with
     | false => rw [h1] at h; exact h.elim
     | true =>
      rw [h1, cond_true] at h;have h1' := An h1;obtain ⟨fd, i2, hf, rfl, hi, rfl, _⟩ := aFM hn h1';cases (show RoV _ _ (.rp cs) v from hv) with
      | rp _ a Y hs ho hc hr =>
       refine ⟨_, h, _, tG T.und hf hi h1' _ _, ?_⟩;rw [cX hs, mH];refine RoV.rp (cs.drop fd.offset) _ (fun j => Y (fd.offset + j)) rfl ho (fun j c hj => ?_) (fun j c hj => ?_)
       · rw [List.getElem?_drop] at hj;have := hc _ c hj
         simpa [Cs] using this
       · rw [List.getElem?_drop] at hj;exact hr _ c hj
   · exact h.elim
 · exact h.elim
theorem elemOK_spec (hG : GOK P G) {t : Nat} {x : AV} (h : mT G t x = true) :
 (∃ s, x = .str s ∧ P.underlying t = some .string) ∨
 (∃ e i, P.underlying t = some (.slice e) ∧ P.info? e = some i ∧ ((∃ k l, x = .sli k l ∧ i.size = 1) ∨ (∃ sz n f, x = .slc sz n f ∧ i.size = sz) ∨ (∃ b sz r n, x = .ms b sz r n ∧ i.size = sz) ∨ x = .s0)) := by
 unfold mT at h;split at h
 · rename_i e _ _ _ _ hk;obtain ⟨i, d, z', T⟩ := hG.tok hk (by simp);have hd := eQ T.kind;subst hd;split at h
   · cases h
   · rename_i k2 sz2 _ _ _ hne hk2;obtain ⟨i2, d2, z2, T2⟩ := hG.tok hk2 hne;refine .inr ⟨e, i2, T.und, T2.info, ?_⟩;split at h
     · exact .inl ⟨_, _, rfl, by rw [T2.size]; exact Ad h⟩
     · exact .inr (.inl ⟨_, _, _, rfl, by rw [T2.size]; exact Ad h⟩)
     · exact .inr (.inr (.inl ⟨_, _, _, _, rfl, by rw [T2.size]; exact Ad h⟩))
     · exact .inr (.inr (.inr rfl))
     · cases h
 · rename_i _ _ _ _ hk;obtain ⟨i, d, z', T⟩ := hG.tok hk (by simp);have hd := tH T.kind;subst hd;split at h
   · exact .inl ⟨_, rfl, T.und⟩
   · cases h
 · cases h
theorem aRI {x : X} {v : Value} (h : RelV x .s0 v) : v = .slice none 0 0 := by
 cases (show RoV _ _ .s0 v from h) with
 | s0 => rfl
theorem oJ {x : X} {a : AV} {v : Value} (hv : RelV x a v) {n : SI} (hn : lenOf (aB P) a = some n) (hs : ∀ s, a ≠ .str s) :
 ∃ A cap, v = .slice A n.val.toNat cap ∧ 0 ≤ n.val ∧ n.val.toNat ≤ cap := by
 cases a <;> simp only [lenOf, reduceCtorEq, Option.some.injEq] at hn
 · subst hn; exact absurd rfl (hs _)
 · subst hn;rename_i k l;cases (show RoV _ _ (.sli k l) v from hv) with
   | sli _ _ a cap hs ho hp h => exact ⟨_, _, rfl, by simp [SI.val, aB], by simpa [SI.val, aB] using hp⟩
   | sliN _ A cap => exact ⟨_, _, rfl, by simp [SI.val, aB], by simp [SI.val, aB]⟩
 · subst hn;rename_i sz n f;cases (show RoV _ _ (.slc sz n f) v from hv) with
   | slc _ _ _ a cap Y hs ho h0 hp hl hc h => exact ⟨_, _, rfl, h0, hp⟩
   | slcN _ _ _ A cap h => exact ⟨A, cap, by rw [h]; rfl, by omega, by rw [h]; simp⟩
 · subst hn;cases (show RoV _ _ .s0 v from hv) with
   | s0 => exact ⟨none, 0, rfl, by simp [SI.val], by simp [SI.val]⟩
 · subst hn;rename_i b sz row n;obtain ⟨hb, h0, h1, A, cap, rfl, hle, _⟩ := (show LeafR _ (.ms b sz row n) v from hv)
   exact ⟨A, cap, rfl, h1, hle⟩
theorem zG {x : X} {a : AV} {v : Value} {n : SI} (hv : RelV x a v) (h : aGP a = some n) : ∃ k, v = .int k n.val := by
 cases a <;> simp only [aGP, reduceCtorEq, Option.some.injEq] at h;subst h;exact ⟨_, hv.cJ⟩
theorem aDR (hG : GOK P G) {t : Nat} {k : IntKind} {n : SI} {a : AV} {va : Value} {K : AV → Prop} (ha : RelV (mkX base O0 μ hp w) a va)
 (h : aBK (aB P) G t n a K) : ∃ v', K v' ∧ Val P (mkX base O0 μ hp w) (Instr.indexAt t va (.int k n.val)) v' := by
 unfold aBK at h;cases hel : mT G t a with
 | false => rw [hel] at h; exact h.elim
 | true =>
  rw [hel, cond_true] at h;have hrun : ∀ (e : Nat) (i : TypeInfo) (ad : Addr) (len cap : Nat), P.underlying t = some (.slice e) → P.info? e = some i → 0 ≤ n.val → n.val < (len : Int) →
      (Instr.indexAt t (.slice (some ad) len cap) (.int k n.val)).run P w = .ok (.pointer (some (ad.add (n.val.toNat * i.size)))) w := by
   intro e i ad len cap hu hi2 h1 h2;simp only [Instr.indexAt, asIntOf, Sem.run_bind, Sem.run_pure, Result.andThen_ok, aU hu, Sem.run_ite, if_pos (And.intro h1 h2), cO hi2]
  rcases elemOK_spec hG hel with ⟨s, rfl, _⟩ | ⟨e, i, hu, hi2, hx⟩
  · exact h.elim
  · rcases hx with ⟨k2, l, rfl, hsz⟩ | ⟨sz, m, f, rfl, hsz⟩ | ⟨b, sz, r, m, rfl, hsz⟩ | rfl
    · dsimp only at h;obtain ⟨h0, h⟩ := cT h;obtain ⟨h1, h⟩ := kN h;have h1' : n.val < (l.length : Int) := h1;have h0' : 0 ≤ n.val := h0;cases (show RoV _ _ (.sli k2 l) va from ha) with
      | sli _ _ ad cap hs ho hp2 hc =>
       have hlt : n.val.toNat < l.length := by omega
       refine ⟨_, h, _, hrun e i ad l.length cap hu hi2 h0' h1', ?_⟩;rw [cX hs, hsz, By];refine RoV.rp _ _ (fun j => .int k2 (l.getD n.val.toNat 0)) rfl ho (fun j c hj => ?_) (fun j c hj => ?_)
       · cases j with
         | zero =>
          have := hc n.val.toNat l[n.val.toNat] (List.getElem?_eq_getElem hlt)
          simpa [List.getD, List.getElem?_eq_getElem hlt] using this
         | succ j => simp at hj
       · cases j with
         | zero => simp at hj; subst hj; exact RoV.int _ _ _ rfl
         | succ j => simp at hj
      | sliN _ A cap => simp at h1'; omega
    · dsimp only at h;obtain ⟨h0, h⟩ := cT h;obtain ⟨h1, h⟩ := kN h;have h0' : 0 ≤ n.val := h0;have hK : K (.rp (f n.val.toNat)) := by cases n <;> exact h
      cases (show RoV _ _ (.slc sz m f) va from ha) with
      | slc _ _ _ ad cap Y hs ho hm hp2 hl hc hr =>
       have hlt : n.val.toNat < m.val.toNat := by omega
       refine ⟨_, hK, _, hrun e i ad m.val.toNat cap hu hi2 h0' (by omega), ?_⟩;rw [cX hs, hsz];refine RoV.rp _ _ (Y n.val.toNat) rfl ho (fun j c hj => ?_) (fun j c hj => hr _ j c hlt hj);have := hc _ j c hlt hj
       simpa [Cs] using this
      | slcN _ _ _ A cap hm => omega
    · dsimp only at h;obtain ⟨h0, h⟩ := cT h;obtain ⟨h1, h⟩ := kN h;have h0' : 0 ≤ n.val := h0;obtain ⟨hb, hr0, hm0, A, cap, rfl, hle, hA, hd⟩ := (show LeafR _ (.ms b sz r m) va from ha)
      have hlt : n.val.toNat < m.val.toNat := by omega
      rw [hA (by omega)];refine ⟨_, h, _, hrun e i _ m.val.toNat cap hu hi2 h0' (by omega), ?_⟩;rw [cX rfl, hsz];refine ⟨hb, by rw [dT]; omega, ?_, fun n' s hn => ?_⟩
      · rw [dT, show (r.val + n.val).toNat = r.val.toNat + n.val.toNat by omega, Bd, Bn]
      · obtain ⟨q1, q2, _⟩ := hd n' s hn;refine ⟨?_, q2⟩;rw [dT]; omega
    · exact h.elim
theorem aOF (l : List Int) : cntI l = l.length := by induction l <;> simp_all [cntI]
theorem wK (k : IntKind) : ∀ (cs : List AV) (l : List Int), wQ k cs = some l → ∀ (i : Nat) (n : Int), l[i]? = some n → ∃ x, cs[i]? = some (.int k x) ∧ x.val = n
 | [], l, h, i, n, hi => by simp [wQ] at h; subst h; simp at hi
 | c :: r, l, h, i, n, hi => by
  cases c <;> simp only [wQ, reduceCtorEq] at h;rename_i k' m;cases hb : ikEq k k' with
  | false => rw [hb] at h; cases h
  | true =>
   rw [hb, cond_true] at h;have := fI hb;subst this;split at h
   · rename_i l' hl';injection h with h; subst h
     cases i with
     | zero => simp at hi; exact ⟨m, rfl, hi⟩
     | succ i => exact wK k r l' hl' i n (by simpa using hi)
   · cases h
theorem tK (hG : GOK P G) (H : HR base O0 μ hp w) {t : Nat} {a i : AV} {va vi : Value} {K : AV → Prop} (ha : RelV (mkX base O0 μ hp w) a va) (hi : RelV (mkX base O0 μ hp w) i vi)
 (h : fF (aB P) G hp t a i K) : ∃ v', K v' ∧ Val P (mkX base O0 μ hp w) (Instr.indexAt t va vi) v' := by
 cases i with
 | int k n =>
  have := hi.cJ; subst this;cases a with
  | ptr b sz row col =>
   dsimp only [fF] at h;split at h
   · rename_i c e _ _ _ _ hk;obtain ⟨i1, d1, z1, T1⟩ := hG.tok hk (by simp);have hd := kC T1.kind;subst hd;split at h
     · exact h.elim
     · rename_i k2 esz _ _ _ hne hk2;obtain ⟨i2, d2, z2, T2⟩ := hG.tok hk2 hne;split at h
       · rename_i r i;cases hc : decide (0 ≤ i) && decide (i < (c : Int)) with
         | false => rw [hc] at h; exact h.elim
         | true =>
          rw [hc, cond_true] at h;simp only [Aj, Ab] at hc;obtain ⟨hb, h0, rfl, hd⟩ := (show LeafR _ (.ptr b sz (.l r) col) va from ha)
          have hrun : (Instr.indexAt t (.pointer (some ⟨μ b, (SI.l r).val.toNat * sz + col, none⟩)) (.int k i)).run P w = .ok (.pointer (some ((⟨μ b, (SI.l r).val.toNat * sz + col, none⟩ : Addr).add (i.toNat * esz)))) w := by
           simp only [Instr.indexAt, asIntOf, Sem.run_bind, Sem.run_pure, Result.andThen_ok, aU T1.und, Instr.sureAddr, Sem.run_ite, if_pos hc, cO T2.info, T2.size]
          cases hc2 : Nat.beq esz sz && Nat.beq col 0 with
          | true =>
           rw [hc2, cond_true] at h;simp only [Aj] at hc2;have e1 := Ad hc2.1;have e2 := Ad hc2.2;subst e1 e2;split at h
           · rename_i wr rsz d' l hblk;cases hc3 : decide (0 ≤ r + i) && decide (r + i < (lenR l : Int)) with
             | false => rw [hc3] at h; exact h.elim
             | true =>
              rw [hc3, cond_true] at h;simp only [Aj, Ab, lH] at hc3;refine ⟨_, h, _, hrun, ?_⟩;rw [cX rfl];have h0' : 0 ≤ r := h0;refine ⟨hb, hc3.1, ?_, fun n s hn => ?_⟩
              · simp only [SI.val, Bn, mkX];rw [show (r + i).toNat = r.toNat + i.toNat by omega, Bd]
              · have hb' := cD hblk (by simp);have hn' : dimB hp b = some (n, s) := hn;have hdim : dimB hp b = some (l.length, rsz) := by simp [dimB, hb', Blk.dim]
                have hs := (hd n s hn).2;rw [hdim] at hn';injection hn' with hn'
                injection hn' with h1 h2
                refine ⟨?_, hs⟩;simp only [SI.val];omega
           · exact h.elim
          | false =>
           rw [hc2, cond_false] at h;refine ⟨_, h, _, hrun, ?_⟩;rw [cX rfl];exact ⟨hb, h0, by simp only [mkX, Cs], hd⟩
       · exact h.elim
   · exact h.elim
  | rp cs =>
   dsimp only [fF] at h;split at h
   · rename_i c e _ _ _ _ hk;obtain ⟨i1, d1, z1, T1⟩ := hG.tok hk (by simp);have hd := kC T1.kind;subst hd;split at h
     · rename_i k2 esz _ _ _ hk2;obtain ⟨i2, d2, z2, T2⟩ := hG.tok hk2 (by simp);split at h
       · rename_i l hl;cases hb : Nat.beq esz 1 && Nat.beq (cntI l) c with
         | false => rw [hb] at h; exact h.elim
         | true =>
          rw [hb, cond_true] at h;simp only [Aj] at hb;have e1 := Ad hb.1;have e2 := Ad hb.2;rw [aOF] at e2;subst e1;obtain ⟨h0, h⟩ := cT h;obtain ⟨h1, h⟩ := kN h;have h0' : 0 ≤ n.val := h0;have h1' : n.val < (c : Int) := h1;cases (show RoV _ _ (.rp cs) va from ha) with
          | rp _ ad Y hs ho hc hr =>
           have hrun : (Instr.indexAt t (.pointer (some ad)) (.int k n.val)).run P w = .ok (.pointer (some (ad.add (n.val.toNat * 1)))) w := by
            simp only [Instr.indexAt, asIntOf, Sem.run_bind, Sem.run_pure, Result.andThen_ok, aU T1.und, Instr.sureAddr, Sem.run_ite, if_pos (And.intro h0' h1'), cO T2.info, T2.size]
           refine ⟨_, h, _, hrun, ?_⟩;have hlt : n.val.toNat < l.length := by omega
           have hq := wK k2 cs l hl n.val.toNat l[n.val.toNat] (List.getElem?_eq_getElem hlt);obtain ⟨x, hx, hxv⟩ := hq;rw [cX hs, By];refine RoV.rp _ _ (fun _ => Y n.val.toNat) rfl ho (fun j c' hj => ?_) (fun j c' hj => ?_)
           · cases j with
             | zero => simpa using hc _ _ hx
             | succ j => simp at hj
           · cases j with
             | zero =>
              simp at hj; subst hj;have e : Y n.val.toNat = .int k2 x.val := by
               have hy := hr _ _ hx;revert hy;generalize Y n.val.toNat = y;intro hy;cases hy with
               | int _ _ v hv => rw [hv]
              rw [e];exact RoV.int _ _ _ (by show l.getD n.val.toNat 0 = x.val; rw [hxv]; simp [List.getD, List.getElem?_eq_getElem hlt])
             | succ j => simp at hj
       · exact h.elim
     · exact h.elim
   · exact h.elim
  | _ => exact aDR hG ha h
 | _ => exact h.elim
end
end
section
open Go Go.RowKit
section
variable {P : Program} {G : Nat → TI} {base : Nat} {O0 : Nat → Prop} {μ : Nat → Nat} {hp : List Blk} {w : World}
theorem run_sliceBound {k : IntKind} {i : Int} {y : Nat} {c : BoundsCode} (h0 : 0 ≤ i) (h1 : i ≤ (y : Int)) (w : World) : (Instr.sliceBound (.int k i) y c).run P w = .ok i.toNat w := by
 simp only [Instr.sliceBound, asIntOf, Sem.run_bind, Sem.run_pure, Result.andThen_ok, Sem.run_ite, if_pos (And.intro h0 h1)]
theorem run_sliceBounds {lo hi : Option Value} {l h : Int} {len cap : Nat} (hl : (lo = none ∧ l = 0) ∨ ∃ k, lo = some (.int k l)) (hh : (hi = none ∧ h = (len : Int)) ∨ ∃ k, hi = some (.int k h))
 (h0 : 0 ≤ l) (h1 : l ≤ h) (h2 : h ≤ (len : Int)) (h3 : len ≤ cap) (w : World) : (Instr.sliceBounds true len cap lo hi none).run P w = .ok (l.toNat, h.toNat, cap) w := by
 have e1 : h ≤ (cap : Int) := by omega
 have e2 : l ≤ (h.toNat : Int) := by omega
 rcases hl with ⟨rfl, rfl⟩ | ⟨k, rfl⟩ <;> rcases hh with ⟨rfl, rfl⟩ | ⟨k', rfl⟩
 · simp [Instr.sliceBounds]
 · simp [Instr.sliceBounds, run_sliceBound (by omega : (0 : Int) ≤ h) e1]
 · simp [Instr.sliceBounds, run_sliceBound h0 (by omega : l ≤ (len : Int))]
 · simp [Instr.sliceBounds, run_sliceBound h0 e2, run_sliceBound (by omega : (0 : Int) ≤ h) e1]
theorem rB {lo : Option Value} {len cap : Nat} {k1 k2 : IntKind} (hl : (lo = none) ∨ ∃ k, lo = some (.int k 0)) (w : World) :
 (Instr.sliceBounds true len cap lo (some (.int k1 0)) (some (.int k2 0))).run P w = .ok (0, 0, 0) w := by
 rcases hl with rfl | ⟨k, rfl⟩
 · simp [Instr.sliceBounds, run_sliceBound (P := P) (k := k2) (y := cap) (Bc 0) (by omega), run_sliceBound (P := P) (k := k1) (y := 0) (Bc 0) (by omega)]
 · simp [Instr.sliceBounds, run_sliceBound (P := P) (k := k2) (y := cap) (Bc 0) (by omega), run_sliceBound (P := P) (k := k1) (y := 0) (Bc 0) (by omega), run_sliceBound (P := P) (k := k) (y := 0) (Bc 0) (by omega)]
theorem sR {t e : Nat} {i : TypeInfo} (hu : P.underlying t = some (.slice e)) (hi : P.info? e = some i) {A : Option Addr} {len cap l h m : Nat} {lo hi' mx : Option Value} {w : World}
 (hb : (Instr.sliceBounds true len cap lo hi' mx).run P w = .ok (l, h, m) w) :
 (Instr.sliceAt t (.slice A len cap) lo hi' mx).run P w = .ok (.slice (if m = l then A else A.map (·.add (l * i.size))) (h - l) (m - l)) w := by
 simp [Instr.sliceAt, Instr.slice, aU hu, hb, cO hi]
theorem aLA {x : X} {ρ : Operand → AV} {ev : Operand → Value} {o : Option Operand} (hr : ∀ y, o = some y → RelV x (ρ y) (ev y)) {l : SI} (h : loOf ρ o = some l) :
 (o.map ev = none ∧ l.val = 0) ∨ ∃ k, o.map ev = some (.int k l.val) := by
 cases o with
 | none => simp only [loOf, Option.some.injEq] at h; subst h; exact .inl ⟨rfl, rfl⟩
 | some y =>
  obtain ⟨k, hk⟩ := zG (hr y rfl) h;exact .inr ⟨k, by simp [hk]⟩
theorem aLC {x : X} {ρ : Operand → AV} {ev : Operand → Value} {o : Option Operand} (hr : ∀ y, o = some y → RelV x (ρ y) (ev y)) {n l : SI} (h : hiOf ρ n o = some l) :
 (o.map ev = none ∧ l.val = n.val) ∨ ∃ k, o.map ev = some (.int k l.val) := by
 cases o with
 | none => simp only [hiOf, Option.some.injEq] at h; subst h; exact .inl ⟨rfl, rfl⟩
 | some y =>
  obtain ⟨k, hk⟩ := zG (hr y rfl) h;exact .inr ⟨k, by simp [hk]⟩
theorem aPN {l : List Int} {a b : Nat} (h1 : a ≤ b) (h2 : b ≤ l.length) : ((l.drop a).take (b - a)).length = b - a := by
 simp; omega
theorem aDV (hG : GOK P G) {t : Nat} {a : AV} {va : Value} {ρ : Operand → AV} {ev : Operand → Value} {lo hi mx : Option Operand} {K : AV → Prop}
 (ha : RelV (mkX base O0 μ hp w) a va) (hl : ∀ y, lo = some y → RelV (mkX base O0 μ hp w) (ρ y) (ev y)) (hh : ∀ y, hi = some y → RelV (mkX base O0 μ hp w) (ρ y) (ev y))
 (hm : ∀ y, mx = some y → RelV (mkX base O0 μ hp w) (ρ y) (ev y)) (h : qV (aB P) G t a ρ lo hi mx K) :
 ∃ v', K v' ∧ Val P (mkX base O0 μ hp w) (Instr.sliceAt t va (lo.map ev) (hi.map ev) (mx.map ev)) v' := by
 unfold qV at h;cases hel : mT G t a with
 | false => rw [hel] at h; exact h.elim
 | true =>
  rw [hel, cond_true] at h;split at h
  · exact h.elim
  · rename_i n hn;split at h
    · rename_i l hh' hlo hhi;have L := aLA hl hlo;have U := aLC hh hhi;split at h
      · have z := cT h;clear h;obtain ⟨h0, h⟩ := z;have z := cT h;clear h;obtain ⟨h1, h⟩ := z;have z := cT h;clear h;obtain ⟨h2, h⟩ := z;have h0' : 0 ≤ l.val := h0;rcases elemOK_spec hG hel with ⟨s, rfl, _⟩ | ⟨e, i, hu, hi2, hx⟩
        · exact h.elim
        · have hns : ∀ s, a ≠ .str s := by rintro s rfl; rcases hx with ⟨_, _, h, _⟩ | ⟨_, _, _, h, _⟩ | ⟨_, _, _, _, h, _⟩ | h <;> cases h
          obtain ⟨A, cap, rfl, hn0, hnc⟩ := oJ ha hn hns;have U' : (hi.map ev = none ∧ hh'.val = ((n.val.toNat : Nat) : Int)) ∨ ∃ k, hi.map ev = some (.int k hh'.val) := by
           rcases U with ⟨u1, u2⟩ | u; exact .inl ⟨u1, by omega⟩; exact .inr u
          have h2' : hh'.val ≤ ((n.val.toNat : Nat) : Int) := by omega
          have hrun := sR (P := P) (w := w) (A := A) (mx := none) hu hi2 (run_sliceBounds (w := w) (cap := cap) L U' h0' h1 h2' hnc);rcases hx with ⟨k2, ls, rfl, hsz⟩ | ⟨sz, m, f, rfl, hsz⟩ | ⟨b, sz, r, m, rfl, hsz⟩ | rfl
          · refine ⟨_, h, _, hrun, ?_⟩;simp only [lenOf, Option.some.injEq] at hn;subst hn;have hnl : ((SI.s ((aB P).len ls)).val) = (ls.length : Int) := rfl;rw [hnl] at h2 hnc;have hlen : ((ls.drop l.val.toNat).take (hh'.val.toNat - l.val.toNat)).length = hh'.val.toNat - l.val.toNat := aPN (by omega) (by omega);have hsub : (aB P).sub ls l.val (xW (aB P) hh' l).val = (ls.drop l.val.toNat).take (hh'.val.toNat - l.val.toNat) := by
             rw [hU];show (ls.drop l.val.toNat).take (hh'.val - l.val).toNat = _;rw [show (hh'.val - l.val).toNat = hh'.val.toNat - l.val.toNat by omega]
            rw [hsub];by_cases he : hh'.val.toNat - l.val.toNat = 0
            · have : (ls.drop l.val.toNat).take (hh'.val.toNat - l.val.toNat) = [] := by rw [he]; simp
              rw [this, he];exact RoV.sliN _ _ _
            · cases (show RoV _ _ (.sli k2 ls) (.slice A (ls.length : Int).toNat cap) from ha) with
              | sli _ _ ad _ hs ho hp2 hc =>
               rw [if_neg (by omega)];simp only [Option.map_some];rw [cX hs, hsz, By];have key : ∀ L : List Int, L = (ls.drop l.val.toNat).take (hh'.val.toNat - l.val.toNat) → RelV (mkX base O0 μ hp w) (.sli k2 L) (.slice (some ⟨ad.block, ad.off + l.val.toNat, none⟩) L.length (cap - l.val.toNat)) := by
                intro L hL;refine RoV.sli k2 _ ⟨ad.block, ad.off + l.val.toNat, none⟩ (cap - l.val.toNat) rfl ho (by rw [hL, hlen]; omega) (fun j c hj => ?_);rw [hL] at hj;rw [List.getElem?_take] at hj;split at hj
                · rw [List.getElem?_drop] at hj;have := hc _ c hj
                  simpa [Cs] using this
                · cases hj
               have := key _ rfl;rw [hlen] at this;exact this
              | sliN _ _ _ => simp at h2; omega
          · simp only [lenOf, Option.some.injEq] at hn;subst hn;have goal : ∀ (n' : SI) (g : Nat → List AV), n'.val = hh'.val - l.val → (∀ j, g j = f (l.val.toNat + j)) →
             RelV (mkX base O0 μ hp w) (.slc sz n' g) (.slice (if cap = l.val.toNat then A else A.map (·.add (l.val.toNat * i.size))) (hh'.val.toNat - l.val.toNat) (cap - l.val.toNat)) := by
             intro n' g hn' hg;by_cases he : hh'.val.toNat - l.val.toNat = 0
             · rw [he];exact RoV.slcN _ _ _ _ _ (by omega)
             · generalize hmN : m.val.toNat = mN at hnc ha;cases (show RoV _ _ (.slc sz m f) (.slice A mN cap) from ha) with
               | slc _ _ _ ad _ Y hs ho hm0 hp2 hll hc hr =>
                rw [if_neg (by omega), show hh'.val.toNat - l.val.toNat = n'.val.toNat by omega];simp only [Option.map_some];rw [cX hs, hsz];refine RoV.slc sz n' g ⟨ad.block, ad.off + l.val.toNat * sz, none⟩ (cap - l.val.toNat) (fun i j => Y (l.val.toNat + i) j) rfl ho (by omega) (by omega) (fun j hj => by rw [hg]; exact hll _ (by omega)) (fun j q c hj hq => ?_) (fun j q c hj hq => ?_)
                · rw [hg] at hq;have := hc _ q c (by omega) hq;rw [Bd] at this
                  simpa [Cs] using this
                · rw [hg] at hq;exact hr _ q c (by omega) hq
               | slcN _ _ _ _ _ hm => omega
            unfold aHM at h;split at h
            · rename_i heq; cases heq
            · rename_i heq;injection heq with e1 e2 e3
              subst e1 e2 e3;split at h
              · refine ⟨_, h, _, hrun, goal _ _ ?_ ?_⟩
                · simp [SI.val]
                · intro j; simp [SI.val]
              · refine ⟨_, h, _, hrun, goal _ _ (hU _ _) (fun j => rfl)⟩
            · rename_i heq; cases heq
            · exfalso; simp_all
          · simp only [lenOf, Option.some.injEq] at hn;subst hn;obtain ⟨hb, hr0, hm0, A', cap', heq, hle, hA, hd⟩ := (show LeafR _ (.ms b sz r m) (.slice A m.val.toNat cap) from ha)
            injection heq with e1 e2 e3
            subst e1 e3;refine ⟨_, h, _, hrun, ?_⟩;refine ⟨hb, by rw [dT]; omega, by rw [hU]; omega, _, _, by rw [hU, show (hh'.val - l.val).toNat = hh'.val.toNat - l.val.toNat by omega], by rw [hU]; omega, fun hc => ?_, fun n' s hn' => ?_⟩
            · rw [if_neg (by omega), hA (by omega), dT];simp only [Option.map_some];rw [cX rfl, hsz, show (r.val + l.val).toNat = r.val.toNat + l.val.toNat by omega, Bd]
            · obtain ⟨q1, q2, e, mm, q3, q4⟩ := hd n' s hn';refine ⟨by rw [dT, hU]; omega, q2, e, mm, q3, ?_⟩;rw [dT];refine Ae (Ai _ ?_) q4;omega
          · exact h.elim
      · rename_i m;split at h
        · rename_i k1 y hmv;rcases elemOK_spec hG hel with ⟨s, rfl, _⟩ | ⟨e, i, hu, hi2, hx⟩
          · exact h.elim
          · have hns : ∀ s, a ≠ .str s := by rintro s rfl; rcases hx with ⟨_, _, h, _⟩ | ⟨_, _, _, h, _⟩ | ⟨_, _, _, _, h, _⟩ | h <;> cases h
            obtain ⟨A, cap, rfl, hn0, hnc⟩ := oJ ha hn hns;have hmi := hm m rfl;rw [hmv] at hmi;have hmi' := hmi.cJ;obtain ⟨hK, hA0⟩ : K .s0 ∧ A = none := by
             split at h
             · exact ⟨h, by have := aRI ha; injection this⟩
             · exact h.elim
            rcases U with ⟨u1, _⟩ | ⟨ku, u⟩
            · simp at u1
            · have L' : lo.map ev = none ∨ ∃ k, lo.map ev = some (.int k 0) := by
               rcases L with ⟨h1, _⟩ | h1; exact .inl h1; exact .inr h1
              have hb : (Instr.sliceBounds true n.val.toNat cap (lo.map ev) ((some y).map ev) ((some m).map ev)).run P w = .ok (0, 0, 0) w := by
               rw [u];simp only [Option.map_some, hmi'];exact rB L' w
              have hrun := sR (P := P) (w := w) (A := A) hu hi2 hb;refine ⟨_, hK, _, hrun, ?_⟩;simp only [Nat.sub_self];rw [hA0];exact RoV.s0
        · exact h.elim
    · exact h.elim
end
end
section
open Go Go.RowKit
section
variable {P : Program} {G : Nat → TI} {base : Nat} {O0 : Nat → Prop} {μ : Nat → Nat} {hp : List Blk} {w : World} {x : X}
theorem lG (y : Value) : LeafR x (oR y) y := by
 unfold oR;split
 · exact RoV.int _ _ _ rfl
 · exact RoV.bool _ _ rfl
 · exact RoV.str _
 · exact RoV.s0
 · exact RoV.lit _
theorem rD {c : AV} {v : Value} (h : LeafR x c v) (hl : c.leaf = true) : v.oneCell' = true := by
 cases c <;> simp only [AV.leaf, Br] at hl
 case lit y => cases (show RoV _ _ _ _ from h) with | lit _ => exact hl
 case int k n => cases (show RoV _ _ _ _ from h) with | int _ _ _ _ => rfl
 case bool b => cases (show RoV _ _ _ _ from h) with | bool _ _ _ => rfl
 case str s => cases (show RoV _ _ _ _ from h) with | str _ => rfl
 case sli k l => cases (show RoV _ _ _ _ from h) <;> rfl
 case slc sz n f => cases (show RoV _ _ _ _ from h) <;> rfl
 case s0 => cases (show RoV _ _ _ _ from h) with | s0 => rfl
 case ms b sz row len => obtain ⟨_, _, _, A, cap, rfl, _⟩ := h; rfl
 case ptr b sz row col => obtain ⟨_, _, rfl, _⟩ := h; rfl
 case rp cs => cases (show RoV _ _ _ _ from h) with | rp _ _ _ _ _ _ _ => rfl
 case fn f cs => cases (show RoV _ _ _ _ from h) with | fn _ _ _ _ _ => rfl
 case bnd f bs => cases (show RoV _ _ _ _ from h) with | bnd _ _ _ _ _ => rfl
 case slx sz l => cases (show RoV _ _ _ _ from h) <;> rfl
theorem aKJ {v : Value} (h : v.oneCell' = true) : v.cells = #[v] := by
 cases v <;> simp_all [Value.oneCell', Value.cells]
theorem nG {a : AV} {v : Value} (h : RelV x a v) (hl : allB AV.leaf a.cells = true) :
 v.cells.size = a.cells.length ∧ (∀ (j : Nat) (c : AV), a.cells[j]? = some c → LeafR x c (v.cells.getD j undef) ∧ c.leaf = true) := by
 rw [allB_eq, List.all_eq_true] at hl;have single : ∀ (hr : LeafR x a v) (ha : a.cells = [a]), v.cells.size = a.cells.length ∧ (∀ (j : Nat) (c : AV), a.cells[j]? = some c → LeafR x c (v.cells.getD j undef) ∧ c.leaf = true) := by
  intro hr ha;have hla := hl a (by rw [ha]; simp);have := aKJ (rD hr hla);rw [this, ha];refine ⟨rfl, fun j c hj => ?_⟩;cases j with
  | zero => simp at hj; subst hj; exact ⟨hr, hla⟩
  | succ j => simp at hj
 cases a with
 | agg cs =>
  obtain ⟨ys, rfl, hlen, hr⟩ := h;exact ⟨hlen.symm, fun j c hj => ⟨hr j c hj, hl c (List.mem_of_getElem? hj)⟩⟩
 | tup cs => have := hl (.tup cs) (by simp [AV.cells]); simp [AV.leaf] at this
 | un => have := hl .un (by simp [AV.cells]); simp [AV.leaf] at this
 | fn f cs =>
  have hm := hl (.fn f cs) (by simp [AV.cells]);exact single (aR (nA h hm)) rfl
 | lit v => exact single h rfl
 | int k n => exact single h rfl
 | bool b => exact single h rfl
 | str s => exact single h rfl
 | sli k l => exact single h rfl
 | slc sz n f => exact single h rfl
 | s0 => exact single h rfl
 | ms b sz row len => exact single h rfl
 | ptr b sz row col => exact single h rfl
 | rp cs => exact single h rfl
 | bnd f bs => exact single h rfl
 | slx sz l => exact single h rfl
theorem aGS (off : Nat) : ∀ (vs : List Value) (k : Nat) (cs : Array Value),
 ((vs.zipIdx k).foldl (fun cs p => cs.setIfInBounds (off + p.2) p.1) cs).size = cs.size ∧
 ∀ q, q < cs.size → ((vs.zipIdx k).foldl (fun cs p => cs.setIfInBounds (off + p.2) p.1) cs).getD q undef =
  if off + k ≤ q ∧ q < off + k + vs.length then (vs[q - (off + k)]?).getD undef else cs.getD q undef
 | [], k, cs => by
  refine ⟨rfl, fun q hq => ?_⟩;rw [if_neg (by simp)]; rfl
 | v :: vs, k, cs => by
  obtain ⟨h1, h2⟩ := aGS off vs (k + 1) (cs.setIfInBounds (off + k) v);simp only [List.zipIdx_cons, List.foldl_cons];refine ⟨by rw [h1]; simp, fun q hq => ?_⟩;rw [h2 q (by simpa using hq)];by_cases hq0 : q = off + k
  · subst hq0;rw [if_neg (by omega), if_pos (by simp)];simp [Array.getD_eq_getD_getElem?, hq]
  · by_cases hin : off + (k + 1) ≤ q ∧ q < off + (k + 1) + vs.length
    · rw [if_pos hin, if_pos (by simp; omega)];have : q - (off + k) = (q - (off + (k + 1))) + 1 := by omega
      rw [this, List.getElem?_cons_succ]
    · rw [if_neg hin, if_neg (by simp; omega)];simp [Array.getD_eq_getD_getElem?, Array.getElem?_setIfInBounds_ne (by omega : off + k ≠ q)]
theorem aCX (off : Nat) (vs cs : Array Value) (h : off + vs.size ≤ cs.size) :
 (vs.zipIdx.foldl (fun cs (p : Value × Nat) => cs.setIfInBounds (off + p.2) p.1) cs).size = cs.size ∧
 ∀ q, q < cs.size → (vs.zipIdx.foldl (fun cs (p : Value × Nat) => cs.setIfInBounds (off + p.2) p.1) cs).getD q undef =
  if off ≤ q ∧ q < off + vs.size then vs.getD (q - off) undef else cs.getD q undef := by
 rw [← Array.foldl_toList, Array.toList_zipIdx];obtain ⟨h1, h2⟩ := aGS off vs.toList 0 cs;refine ⟨h1, fun q hq => ?_⟩;rw [h2 q hq];simp only [Bn, Array.length_toList];split
 · simp [Array.getD_eq_getD_getElem?]
 · rfl
def jX (x : X) (cs : List AV) (ys : Array Value) : Prop := cs.length = ys.size ∧ ∀ (j : Nat) (c : AV), cs[j]? = some c → LeafR x c (ys.getD j undef)
theorem jX.put {cs vs : List AV} {ys us : Array Value} (h : jX x cs ys) (k : jX x vs us) {off : Nat} (hb : off + vs.length ≤ cs.length) :
 jX x (splice cs off vs) (us.zipIdx.foldl (fun cs (p : Value × Nat) => cs.setIfInBounds (off + p.2) p.1) ys) := by
 have hus := k.1;have hys := h.1;obtain ⟨h1, h2⟩ := aCX off us ys (by omega);refine ⟨by rw [splice_length, h1, hys], fun j c hj => ?_⟩;rw [iY _ _ _ _ hb] at hj;have hjl : j < ys.size := by
  have : j < (splice cs off vs).length := by
   have := hj;rw [← iY _ _ _ _ hb] at this;exact (List.getElem?_eq_some_iff.1 this).1
  rw [splice_length] at this;omega
 rw [h2 j hjl];split at hj
 · rename_i hc;rw [if_pos (by omega)];exact k.2 _ c hj
 · rename_i hc;rw [if_neg (by omega)];exact h.2 j c hj
theorem fill_sound {fields : Array Field} {ρ : Operand → AV} {ev : Operand → Value} {places : Array (Nat × Nat)}
 (hp : ∀ (i off sz : Nat) (a : Bool), (fields.toList.map (gR P))[i]? = some (off, sz, a) → places[i]? = some (off, sz)) :
 ∀ (parts : List (Nat × Operand)) (cs : List AV) (ys : Array Value) (out : List AV), (∀ (i : Nat) (y : Operand), (i, y) ∈ parts → RelV x (ρ y) (ev y)) → jX x cs ys →
 fill (fields.toList.map (gR P)) ρ parts cs = some out → ∃ zs, Instr.fill (places[·]?) ys (parts.map fun p => (p.1, ev p.2)) = some zs ∧ jX x out zs
 | [], cs, ys, out, _, hc, h => by simp only [fill, Option.some.injEq] at h; subst h; exact ⟨ys, rfl, hc⟩
 | (i, y) :: r, cs, ys, out, hr, hc, h => by
  simp only [fill] at h;split at h
  · rename_i off sz a hn;cases hb : Nat.beq (lenC (ρ y).cells) sz && Nat.ble (off + sz) (lenC cs) && allB AV.leaf (ρ y).cells with
    | false => rw [hb] at h; cases h
    | true =>
     rw [hb, cond_true] at h;simp only [Aj] at hb;have e1 := Ad hb.1.1;have e2 := An hb.1.2;rw [gA] at e1 e2;obtain ⟨k1, k2⟩ := nG (hr i y (by simp)) hb.2;have K : jX x (ρ y).cells (ev y).cells := ⟨k1.symm, fun j c hj => (k2 j c hj).1⟩
     obtain ⟨zs, z1, z2⟩ := fill_sound hp r _ _ out (fun i' y' hm => hr i' y' (by simp [hm])) (hc.put K (off := off) (by omega)) h;refine ⟨zs, ?_, z2⟩;rw [aAK] at hn;have := hc.1;simp only [List.map_cons, Instr.fill, hp i off sz a hn];rw [if_neg (by simp; omega)];exact z1
  · cases h
theorem aBL (hG : GOK P G) {t : Nat} {parts : Array (Nat × Operand)} {ρ : Operand → AV} {ev : Operand → Value} {K : AV → Prop} (hr : ∀ (i : Nat) (y : Operand), (i, y) ∈ parts.toList → RelV x (ρ y) (ev y))
 (h : (match G t with
   | ⟨.struct fs, _, _, z, _⟩ => bif allB (fun f => Nat.ble 1 f.2.1) fs then match fill fs ρ parts.toList z with
     | some cs => K (.agg cs)
     | none => False
     else False
   | _ => False)) : ∃ v', K v' ∧ Val P x (Instr.build t (parts.map fun p => (p.1, ev p.2))) v' := by
 split at h
 · rename_i fs sz by_ z fl hk;obtain ⟨i, d, z', T⟩ := hG.tok hk (by simp);obtain ⟨fields, rfl, rfl⟩ := gQ T.kind;cases hal : allB (fun f : Nat × Nat × Bool => Nat.ble 1 f.2.1) (fields.toList.map (gR P)) with
   | false => rw [hal] at h; exact h.elim
   | true =>
    rw [hal, cond_true] at h;rw [allB_eq, List.all_eq_true] at hal;split at h
    · rename_i cs hf;have hinfo : ∀ f ∈ fields.toList, ∃ i, P.info? f.type = some i ∧ (gR P f).2.1 = i.size ∧ (gR P f).1 = f.offset := by
       intro f hf';have := An (hal (gR P f) (List.mem_map_of_mem hf'));unfold gR at this ⊢;split
       · rename_i i d h1 h2; exact ⟨i, h1, rfl, rfl⟩
       · rename_i hno;split at this
         · rename_i i d h1 h2; exact (hno i d h1 h2).elim
         · simp at this
      have hplaces : ∀ (l : List Field), (∀ f ∈ l, ∃ i, P.info? f.type = some i ∧ (gR P f).2.1 = i.size ∧ (gR P f).1 = f.offset) →
       (l.mapM (m := Sem) fun f => do pure (f.offset, ← sizeOf f.type)).run P x.w = .ok (l.map fun f => ((gR P f).1, (gR P f).2.1)) x.w := by
       intro l;induction l with
       | nil => intro _; rfl
       | cons f r ih =>
        intro hl;obtain ⟨i, h1, h2, h3⟩ := hl f (by simp);have ih' := ih (fun f hf => hl f (by simp [hf]));simp only [List.mapM_cons, Sem.run_bind, cO h1, Result.andThen_ok, Sem.run_pure, ih', List.map_cons, h2, h3]
      have hpl := hplaces fields.toList hinfo;have hz : jX x z z'.cells := by
       rw [← T.zc];refine ⟨by simp, fun j c hj => ?_⟩;rw [List.getElem?_map, Option.map_eq_some_iff] at hj;obtain ⟨y, h1, rfl⟩ := hj;have : z'.cells.getD j undef = y := by
        rw [Array.getD_eq_getD_getElem?];simp at h1;simp [h1]
       rw [this];exact lG y
      obtain ⟨zs, z1, z2⟩ := fill_sound (x := x) (P := P) (fields := fields) (ρ := ρ) (ev := ev) (places := (fields.toList.map fun f => ((gR P f).1, (gR P f).2.1)).toArray)
       (fun i off sz a hi => by
         rw [List.getElem?_map, Option.map_eq_some_iff] at hi;obtain ⟨f, h1, h2⟩ := hi;simp at h1;simp [h1, h2]) parts.toList z z'.cells cs hr hz hf
      refine ⟨_, h, .agg zs, ?_, zs, rfl, z2.1, z2.2⟩;have hzr : (zeroValue t).run P x.w = .ok z' x.w := by simp [zeroValue, cF T.info, T.zer]
      have hpl' : (fields.mapM (m := Sem) fun f => do pure (f.offset, ← sizeOf f.type)).run P x.w = .ok (fields.toList.map fun f => ((gR P f).1, (gR P f).2.1)).toArray x.w := by
       rw [Array.mapM_eq_mapM_toList];simp only [Sem.run_map, hpl, Result.andThen_ok]
      simp only [Instr.build, Sem.run_bind, hzr, Result.andThen_ok, aU T.und, hpl', Array.toList_map, z1, Sem.run_pure]
    · exact h.elim
 · exact h.elim
end
end
section
open Go Go.RowKit
section
variable {P : Program} {G : Nat → TI} {base : Nat} {O0 : Nat → Prop} {μ : Nat → Nat} {hp : List Blk} {w w' : World}
theorem HR.lt (H : HR base O0 μ hp w) {b : Nat} (h : dimB hp b ≠ none) : μ b < w.heap.size := by
 unfold dimB at h;cases hb : hp[b]? with
 | none => rw [hb] at h; simp [Blk.dim] at h
 | some x =>
  have := H.blk b x hb;rw [hb] at h;cases x with
  | dead => simp [Blk.dim] at h
  | ints wr k l => obtain ⟨c, e, h1, _⟩ := this; exact (Array.getElem?_eq_some_iff.1 h1).1
  | rows wr sz d l => obtain ⟨_, c, e, h1, _⟩ := this; exact (Array.getElem?_eq_some_iff.1 h1).1
theorem fP {b : Nat} (h : wrB hp b = true) : dimB hp b ≠ none := by
 unfold wrB at h;unfold dimB;cases hb : (hp[b]?).getD .dead with
 | dead => rw [hb] at h; simp [Blk.wr] at h
 | ints wr k l => simp [Blk.dim]
 | rows wr sz d l => simp [Blk.dim]
theorem aLJ (hb : base ≤ w.heap.size) {n : Nat} (h : okO base O0 μ hp w n) : n < w.heap.size := by
 rcases h with ⟨h, _⟩ | ⟨_, h, _⟩ <;> omega
theorem aGW {w : World} {a : Addr} {v : Value} (h : w.cell? a = some v) : a.block < w.heap.size := by
 unfold World.cell? at h;split at h
 · rename_i h1; exact (Array.getElem?_eq_some_iff.1 h1).1
 · cases h
theorem shape_lt {w : World} {r : Nat} {s : TypeId × Nat} (h : w.shape? r = some s) : r < w.heap.size := by
 unfold World.shape? at h;split at h
 · rename_i h1; exact (Array.getElem?_eq_some_iff.1 h1).1
 · cases h
theorem shape_of_block {w w' : World} {r : Nat} (h : w'.heap[r]? = w.heap[r]?) : w'.shape? r = w.shape? r := by
 unfold World.shape?; rw [h]
theorem Ext.grow (hb : base ≤ w.heap.size) (g : Below w.heap.size w w') : Ext (mkX base O0 μ hp w) (mkX base O0 μ hp w') := by
 refine ⟨fun n hn => ?_, fun _ _ => rfl, Ba _, fun _ _ _ h => h, fun a v ho hc => ?_, fun r s hs => ?_⟩
 · rcases hn with h | ⟨h1, h2, h3⟩
   · exact .inl h
   · exact .inr ⟨h1, Av h2 g.size, h3⟩
 · exact (g.cell (aGW hc)).trans hc
 · exact (shape_of_block (g.block r (shape_lt hs))).trans hs
theorem BlkR.mono {x x' : X} (e : Ext x x') {g : Nat} (hg : x'.w.heap[g]? = x.w.heap[g]?) {b : Blk} (h : BlkR x g b) : BlkR x' g b := by
 cases b with
 | dead => trivial
 | ints wr k l => obtain ⟨c, e1, h1, h2⟩ := h; exact ⟨c, e1, hg.trans h1, h2⟩
 | rows wr sz d l =>
  obtain ⟨h0, c, e1, h1, h2⟩ := h;exact ⟨h0, c, e1, hg.trans h1, fun i r hi => ⟨(h2 i r hi).1, fun j a hj => by obtain ⟨y, q1, q2⟩ := (h2 i r hi).2 j a hj; exact ⟨y, q1, q2.mono e⟩⟩⟩
theorem HR.grow (H : HR base O0 μ hp w) (g : Below w.heap.size w w') : HR base O0 μ hp w' := by
 have e := Ext.grow (O0 := O0) (μ := μ) (hp := hp) H.all g;refine ⟨Ae H.all g.size, fun b x hb => ?_, H.low, H.inj, fun b x hb => (H.ty b x hb).mono (fun s hs => e.shape _ s hs), H.gl.mono (fun _ h => h) (fun a v ho hc => e.cell a v (.inl ho) hc)⟩;cases x with
 | dead => trivial
 | ints wr k l => exact (H.blk b _ hb).mono e (g.block _ (H.lt (by simp [dimB, hb, Blk.dim])))
 | rows wr sz d l => exact (H.blk b _ hb).mono e (g.block _ (H.lt (by simp [dimB, hb, Blk.dim])))
def μnew (μ : Nat → Nat) (n g : Nat) (b : Nat) : Nat := if b = n then g else μ b
def cC (w : World) (o : Obj) : World := { w with heap := w.heap.push o }
theorem dQ (w : World) (o : Obj) : Below w.heap.size w (cC w o) :=
 ⟨rfl, rfl, rfl, by simp [cC], fun k hk => by simp only [cC, Array.getElem?_push]; rw [if_neg (by omega)]⟩
theorem dimB_app {b : Nat} {x : Blk} : dimB (hp ++ [x]) b = if b < hp.length then dimB hp b else if b = hp.length then x.dim else none := by
 unfold dimB;rw [List.getElem?_append];split
 · rfl
 · split
   · subst_vars; simp
   · rw [List.getElem?_eq_none (by simp; omega)]; rfl
theorem wrB_app {b : Nat} {x : Blk} : wrB (hp ++ [x]) b = if b < hp.length then wrB hp b else if b = hp.length then x.wr else false := by
 unfold wrB;rw [List.getElem?_append];split
 · rfl
 · split
   · subst_vars; simp
   · rw [List.getElem?_eq_none (by simp; omega)]; rfl
theorem aGT {b : Nat} (h : dimB hp b ≠ none) : b < hp.length := by
 rcases Ar b hp.length with h1 | h1
 · exact h1
 · exfalso; apply h; unfold dimB; rw [List.getElem?_eq_none h1]; rfl
theorem Ext.alloc (H : HR base O0 μ hp w) (o : Obj) (x : Blk) : Ext (mkX base O0 μ hp w) (mkX base O0 (μnew μ hp.length w.heap.size) (hp ++ [x]) (cC w o)) := by
 have g := dQ w o;refine ⟨fun n hn => ?_, fun b hb => ?_, by simp [mkX], fun b hb n h => ?_, fun a v ho hc => ?_, fun r s hs => ?_⟩
 · rcases hn with h | ⟨h1, h2, h3⟩
   · exact .inl h
   · refine .inr ⟨h1, Av h2 g.size, fun b hb => ?_⟩;rw [wrB_app] at hb;split at hb
     · rename_i hl;simp only [mkX, μnew, if_neg (by omega : ¬ b = hp.length)];exact h3 b hb
     · split at hb
       · rename_i he;simp only [mkX, μnew, if_pos he];omega
       · cases hb
 · have hb' : b < hp.length := hb;simp only [mkX, μnew, if_neg (by omega : ¬ b = hp.length)]
 · have hb' : b < hp.length := hb;have h' : dimB (hp ++ [x]) b = some n := h;rw [dimB_app, if_pos hb'] at h';exact h'
 · exact (g.cell (aGW hc)).trans hc
 · exact (shape_of_block (g.block r (shape_lt hs))).trans hs
theorem HR.alloc (H : HR base O0 μ hp w) (o : Obj) (x : Blk)
 (hx : BlkR (mkX base O0 (μnew μ hp.length w.heap.size) (hp ++ [x]) (cC w o)) w.heap.size x) (hy : TyR (cC w o) w.heap.size x) : HR base O0 (μnew μ hp.length w.heap.size) (hp ++ [x]) (cC w o) := by
 have e := Ext.alloc H o x;have g := dQ w o;refine ⟨Ae H.all g.size, fun b y hb => ?_, fun b hb => ?_, fun b b' h1 h2 h3 => ?_, fun b y hb => ?_, H.gl.mono (fun _ h => h) (fun a v ho hc => e.cell a v (.inl ho) hc)⟩
 · rw [List.getElem?_append] at hb;split at hb
   · rename_i hl;simp only [μnew, if_neg (by omega : ¬ b = hp.length)];cases y with
     | dead => trivial
     | ints wr k l => exact (H.blk b _ hb).mono e (g.block _ (H.lt (by simp [dimB, hb, Blk.dim])))
     | rows wr sz d l => exact (H.blk b _ hb).mono e (g.block _ (H.lt (by simp [dimB, hb, Blk.dim])))
   · rename_i hl;have : b = hp.length := by
      rcases Ar (b - hp.length) 1 with h1 | h1
      · omega
      · rw [List.getElem?_eq_none (by simpa using h1)] at hb; cases hb
     subst this;simp at hb;subst hb;simp only [μnew, if_pos trivial];exact hx
 · rw [dimB_app] at hb;split at hb
   · rename_i hl;simp only [μnew, if_neg (by omega : ¬ b = hp.length)];exact H.low b hb
   · split at hb
     · rename_i he;simp only [μnew, if_pos he];exact H.all
     · exact absurd rfl hb
 · have l1 := aGT (fP h1);have l2 := aGT h2;rw [wrB_app] at h1;rw [dimB_app] at h2;simp only [List.length_append, List.length_singleton] at l1 l2;simp only [μnew] at h3;by_cases e1 : b = hp.length <;> by_cases e2 : b' = hp.length
   · omega
   · exfalso;rw [if_pos e1, if_neg e2] at h3;rw [if_pos (by omega)] at h2;have := H.lt h2;omega
   · exfalso;rw [if_neg e1, if_pos e2] at h3;rw [if_pos (by omega)] at h1;have := H.lt (fP h1);omega
   · rw [if_neg e1, if_neg e2] at h3;rw [if_pos (by omega)] at h1 h2;exact H.inj b b' h1 h2 h3
 · rw [List.getElem?_append] at hb;split at hb
   · rename_i hl;simp only [μnew, if_neg (by omega : ¬ b = hp.length)];exact (H.ty b _ hb).mono (fun s hs => e.shape _ s hs)
   · rename_i hl;have : b = hp.length := by
      rcases Ar (b - hp.length) 1 with h1 | h1
      · omega
      · rw [List.getElem?_eq_none (by simpa using h1)] at hb; cases hb
     subst this;simp at hb;subst hb;simp only [μnew, if_pos trivial];exact hy
theorem Ext.turn (H : HR base O0 μ hp w) {b : Nat} {x : Blk} (hw : wrB hp b = true ∨ w' = w) (hwr : x.wr = true → wrB hp b = true) (hd : x.dim = none ∨ x.dim = dimB hp b)
 (hs : w'.heap.size = w.heap.size) (hk : ∀ k, k ≠ μ b → w'.heap[k]? = w.heap[k]?) (hsh : ∀ s, w.shape? (μ b) = some s → w'.shape? (μ b) = some s) :
 Ext (mkX base O0 μ hp w) (mkX base O0 μ (hp.set b x) w') := by
 refine ⟨fun n hn => ?_, fun _ _ => rfl, by simp [mkX], fun b' hb n h => ?_, fun a v ho hc => ?_, fun r s hs' => ?_⟩
 · rcases hn with h | ⟨h1, h2, h3⟩
   · exact .inl h
   · refine .inr ⟨h1, by omega, fun b' hb => ?_⟩;unfold wrB at hb;rw [List.getElem?_set] at hb;split at hb
     · rename_i he;split at hb
       · subst he; exact h3 _ (hwr hb)
       · simp [Blk.wr] at hb
     · exact h3 b' hb
 · have h' : dimB (hp.set b x) b' = some n := h;unfold dimB at h' ⊢;rw [List.getElem?_set] at h';split at h'
   · rename_i he;subst he;split at h'
     · simp only [Option.getD_some] at h';rcases hd with hd | hd
       · rw [hd] at h'; cases h'
       · rw [hd] at h'; exact h'
     · simp [Blk.dim] at h'
   · exact h'
 · rcases hw with hw | hw
   · have : a.block ≠ μ b := by
      rcases ho with ⟨h1, _⟩ | ⟨_, _, h3⟩
      · have := H.low b (fP hw); omega
      · exact fun e => h3 b hw e.symm
     have := hk _ this;have hc' : w.cell? a = some v := hc;show w'.cell? a = some v;unfold World.cell? at hc' ⊢;rw [this]; exact hc'
   · subst hw; exact hc
 · by_cases he : r = μ b
   · subst he; exact hsh s hs'
   · exact (shape_of_block (hk r he)).trans hs'
theorem HR.turn (H : HR base O0 μ hp w) {b : Nat} {x : Blk} (hb0 : b < hp.length) (hw : wrB hp b = true ∨ w' = w) (hwr : x.wr = true → wrB hp b = true) (hd : x.dim = none ∨ x.dim = dimB hp b)
 (hs : w'.heap.size = w.heap.size) (hk : ∀ k, k ≠ μ b → w'.heap[k]? = w.heap[k]?) (hsh : ∀ s, w.shape? (μ b) = some s → w'.shape? (μ b) = some s)
 (hx : BlkR (mkX base O0 μ (hp.set b x) w') (μ b) x) (hy : x.need = none ∨ ∃ y, hp[b]? = some y ∧ x.need = y.need) : HR base O0 μ (hp.set b x) w' := by
 have e := Ext.turn H hw hwr hd hs hk hsh;have dims : ∀ b', dimB (hp.set b x) b' ≠ none → dimB hp b' ≠ none := by
  intro b' h;by_cases he : b = b'
  · subst he;unfold dimB at h;rw [List.getElem?_set, if_pos rfl, if_pos hb0] at h;rcases hd with hd | hd
    · exact absurd hd h
    · rw [← hd]; exact h
  · unfold dimB at h ⊢;rwa [List.getElem?_set, if_neg he] at h
 have wrs : ∀ b', wrB (hp.set b x) b' = true → wrB hp b' = true := by
  intro b' h;by_cases he : b = b'
  · subst he;unfold wrB at h;rw [List.getElem?_set, if_pos rfl, if_pos hb0] at h;exact hwr h
  · unfold wrB at h ⊢;rwa [List.getElem?_set, if_neg he] at h
 refine ⟨by rw [hs]; exact H.all, fun b' y hb => ?_, fun b' h => H.low b' (dims b' h), fun b1 b2 h1 h2 h3 => H.inj b1 b2 (wrs _ h1) (dims _ h2) h3, fun b' y hb => ?_, H.gl.mono (fun _ h => h) (fun a v ho hc => e.cell a v (.inl ho) hc)⟩;by_cases he : b = b'
 · subst he;rw [List.getElem?_set, if_pos rfl, if_pos hb0] at hb;injection hb with hb
   subst hb;exact hx
 · rw [List.getElem?_set, if_neg he] at hb;cases hy : y.dim with
   | none => cases y <;> first | trivial | simp [Blk.dim] at hy
   | some n =>
    have hdy : dimB hp b' ≠ none := by simp [dimB, hb, hy]
    refine (H.blk b' _ hb).mono e ?_;rcases hw with hw | hw
    · exact hk _ (fun e1 => he (H.inj b b' hw hdy e1.symm))
    · subst hw; rfl
 · by_cases he : b = b'
   · subst he;rw [List.getElem?_set, if_pos rfl, if_pos hb0] at hb;injection hb with hb
     subst hb;rcases hy with hy | ⟨z, hz, hy⟩
     · exact TyR.less (y := .dead) (.inl hy) (fun ts ht => by cases ht)
     · exact TyR.less (.inr hy) ((H.ty b z hz).mono (fun s hs => e.shape _ s hs))
   · rw [List.getElem?_set, if_neg he] at hb;exact (H.ty b' y hb).mono (fun s hs => e.shape _ s hs)
end
end
section
open Go Go.RowKit
section
variable {P : Program} {G : Nat → TI} {base : Nat} {O0 : Nat → Prop} {μ : Nat → Nat} {hp : List Blk} {w w' : World}
def Out (P : Program) (base : Nat) (O0 : Nat → Prop) (μ : Nat → Nat) (hp : List Blk) (w : World) (r : Result Next) (v : AV) : Prop :=
 (∃ val w', r = .ok (.value val) w' ∧ Below w.heap.size w w' ∧ RelV (mkX base O0 μ hp w') v val) ∨
 (∃ f args, r = .ok (.enter f args) w ∧ Calls P f args w (fun e w' => ∃ val, e = .returned val ∧ Below w.heap.size w w' ∧ RelV (mkX base O0 μ hp w') v val))
theorem Out.val {s : Sem Value} {v : AV} (h : Val P (mkX base O0 μ hp w) s v) : Out P base O0 μ hp w ((do pure (.value (← s)) : Sem Next).run P w) v := by
 obtain ⟨val, h1, h2⟩ := h;have h1' : s.run P w = .ok val w := h1;refine .inl ⟨val, w, ?_, Below.refl _ _, h2⟩;simp [h1']
theorem tC {x : X} {ρ : Operand → AV} {ev : Operand → Value} {sz : Nat} : ∀ (parts : List (Nat × Operand)) (m : Nat) (l : List (List AV)) (ys : Array Value),
 (∀ (i : Nat) (y : Operand), (i, y) ∈ parts → RelV x (ρ y) (ev y)) → lB sz ρ m parts = some l → (m + l.length) * sz ≤ ys.size →
 ∃ zs, Instr.fill (fun i => some (i * sz, sz)) ys (parts.map fun p => (p.1, ev p.2)) = some zs ∧ zs.size = ys.size ∧ (∀ q, q < m * sz → zs.getD q undef = ys.getD q undef) ∧
  ∀ (i : Nat) (r : List AV), l[i]? = some r → r.length = sz ∧ ∀ (j : Nat) (c : AV), r[j]? = some c → LeafR x c (zs.getD ((m + i) * sz + j) undef)
 | [], m, l, ys, _, h, hs => by
  simp only [lB, Option.some.injEq] at h;subst h;exact ⟨ys, rfl, rfl, fun _ _ => rfl, fun i r hi => by simp at hi⟩
 | (i, y) :: rest, m, l, ys, hr, h, hs => by
  simp only [lB] at h;cases hb : Nat.beq i m && Nat.beq (lenC (ρ y).cells) sz && allB AV.leaf (ρ y).cells with
  | false => rw [hb] at h; cases h
  | true =>
   rw [hb, cond_true] at h;simp only [Aj] at hb;have e1 := Ad hb.1.1;have e2 := Ad hb.1.2;rw [gA] at e2;subst e1;split at h
   · rename_i l' hl';injection h with h
     subst h;obtain ⟨k1, k2⟩ := nG (hr i y (by simp)) hb.2;simp only [List.length_cons] at hs;have hsz : i * sz + sz ≤ ys.size := by
      have : (i + (l'.length + 1)) * sz = i * sz + sz + l'.length * sz := by rw [Bd, Bd]; omega
      omega
     obtain ⟨f1, f2⟩ := aCX (i * sz) (ev y).cells ys (by omega);obtain ⟨zs, z1, z2, z3, z4⟩ := tC rest (i + 1) l' ((ev y).cells.zipIdx.foldl (fun cs (p : Value × Nat) => cs.setIfInBounds (i * sz + p.2) p.1) ys) (fun i' y' hm => hr i' y' (by simp [hm])) hl'
      (by rw [f1]; rw [show i + 1 + l'.length = i + (l'.length + 1) by omega]; exact hs)
     refine ⟨zs, ?_, by rw [z2, f1], fun q hq => ?_, fun i' r hi => ?_⟩
     · simp only [List.map_cons, Instr.fill];rw [if_neg (by simp; omega)];exact z1
     · rw [z3 q (by rw [Bd]; omega), f2 q (by omega), if_neg (by omega)]
     · cases i' with
       | zero =>
        simp at hi;subst hi;refine ⟨e2, fun j c hj => ?_⟩;have hjl := (List.getElem?_eq_some_iff.1 hj).1;rw [Bn, z3 _ (by rw [Bd]; omega), f2 _ (by omega), if_pos (by omega), show i * sz + j - i * sz = j by omega];exact (k2 j c hj).1
       | succ i' =>
        have := z4 i' r (by simpa using hi);rwa [show i + 1 + i' = i + (i' + 1) by omega] at this
   · cases h
theorem rU {k : IntKind} : ∀ {l : List (List AV)} {ns : List Int}, oX k l = some ns → ns.length = l.length ∧ ∀ (i : Nat) (n : Int), ns[i]? = some n → ∃ s : SI, s.val = n ∧ l[i]? = some [.int k s]
 | [], ns, h => by simp only [oX, Option.some.injEq] at h; subst h; exact ⟨rfl, fun i n hi => by simp at hi⟩
 | r :: l, ns, h => by
  unfold oX at h;split at h
  · rename_i heq; cases heq
  · rename_i k' s r' heq;injection heq with e1 e2
    subst e1 e2;cases hb : ikEq k k' with
    | false => rw [hb] at h; cases h
    | true =>
     rw [hb, cond_true] at h;have := fI hb;subst this;split at h
     · rename_i ms hm;injection h with h
       subst h;obtain ⟨h1, h2⟩ := rU hm;refine ⟨by simp [h1], fun i n hi => ?_⟩;cases i with
       | zero => simp at hi; exact ⟨s, hi, rfl⟩
       | succ i => obtain ⟨s', q1, q2⟩ := h2 i n (by simpa using hi); exact ⟨s', q1, by simpa using q2⟩
     · cases h
  · cases h
theorem lS {t e n sz by_ : Nat} {k : TK} {z : List AV} {fl : Option (List (Option IntKind))} {i : TypeInfo} {d : TypeDesc} {v : Value} (hu : P.underlying t = some (.slice e)) (T : TOK P e k sz by_ z fl i d v)
 {parts : Array (Nat × Operand)} {x : X} {ρ : Operand → AV} {ev : Operand → Value} {l : List (List AV)} (hr : ∀ (i : Nat) (y : Operand), (i, y) ∈ parts.toList → RelV x (ρ y) (ev y))
 (hl : lB sz ρ 0 parts.toList = some l) (hn : l.length = n) (hb : n * sz ≤ 1000) (w : World) :
 ∃ zs : Array Value, (Instr.buildSlice t n (parts.map fun p => (p.1, ev p.2))).run P w = .ok (.slice (some ⟨w.heap.size, 0, none⟩) n n) (cC w (.cells zs e)) ∧
  zs.size = n * sz ∧ ∀ (i : Nat) (r : List AV), l[i]? = some r → r.length = sz ∧ ∀ (j : Nat) (c : AV), r[j]? = some c → LeafR x c (zs.getD (i * sz + j) undef) := by
 obtain ⟨z0, hz0, hz1⟩ : ∃ z0 : Array Value, (n * sz = 0 → z0 = #[]) ∧ (n * sz ≠ 0 → z0 = v.cells) := by
  by_cases h : n * sz = 0
  · exact ⟨#[], fun _ => rfl, fun h' => absurd h h'⟩
  · exact ⟨v.cells, fun h' => absurd h' h, fun _ => rfl⟩
 obtain ⟨zs, z1, z2, z3, z4⟩ := tC (x := x) (ev := ev) parts.toList 0 l ((Array.range (n * sz)).map (z0[· % z0.size]!)) hr hl (by simp [hn]);refine ⟨zs, ?_, by simpa using z2, fun i r hi => by have := z4 i r hi; simpa using this⟩;have hsz : (sizeOf e).run P w = .ok sz w := by rw [cO T.info, T.size]
 simp only [Instr.buildSlice, Sem.run_bind, aU hu, Result.andThen_ok, hsz, Sem.run_ite, if_neg (by omega : ¬ n * sz > 2 ^ 24)];have hzr : (zeroValue e).run P w = .ok v w := by simp [zeroValue, cF T.info, T.zer]
 split
 · rename_i h;have := hz0 h;subst this;simp only [Array.toList_map, z1, newRow, Sem.run_bind, run_newObj, Sem.run_pure, Result.andThen_ok];rfl
 · rename_i h;have := hz1 h;subst this;simp only [hzr, Result.andThen_ok, Array.toList_map, z1, newRow, Sem.run_bind, run_newObj, Sem.run_pure];rfl
theorem qC {f : FuncId} (h : FOK P f) (args : Array Value) (w : World) : (callFunc f args).run P w = .ok (.enter f args) w := by
 obtain ⟨fn, h1, h2, h3⟩ := h;simp only [callFunc, Sem.run_bind, run_program, Result.andThen_ok, h1, h2, h3, Br, if_false, Sem.run_pure]
theorem aRZ {x : X} {f : FuncId} {cs : List AV} {v : Value} (h : RelV x (.fn f cs) v) : ∃ ys : Array Value, v = .func (.func f) #[] ys ∧ cs.length = ys.size ∧ ∀ (j : Nat) (c : AV), cs[j]? = some c → LeafR x c (ys.getD j undef) := h
theorem wU {x : X} {a : AV} {g : FuncId} {bs caps : List AV} {v : Value} (h : RelV x a v) (ha : tZ a = some (g, bs, caps)) :
 ∃ xs ys : Array Value, v = .func (.func g) xs ys ∧ (bs.length = xs.size ∧ ∀ (j : Nat) (c : AV), bs[j]? = some c → RelV x c (xs.getD j undef)) ∧ caps.length = ys.size ∧ ∀ (j : Nat) (c : AV), caps[j]? = some c → LeafR x c (ys.getD j undef) := by
 cases a <;> simp only [tZ, Option.some.injEq, Prod.mk.injEq, reduceCtorEq] at ha
 case fn f cs =>
  obtain ⟨rfl, rfl, rfl⟩ := ha;obtain ⟨ys, e, hl, hy⟩ := aRZ h;exact ⟨#[], ys, e, ⟨rfl, fun j c hj => by simp at hj⟩, hl, hy⟩
 case bnd f cs =>
  obtain ⟨rfl, rfl, rfl⟩ := ha;cases (show RoV _ _ (.bnd f cs) v from h) with
  | bnd _ _ ys hl hy => exact ⟨ys, #[], rfl, ⟨hl, fun j c hj => dK (hy j c hj)⟩, rfl, fun j c hj => by simp at hj⟩
theorem gL {a b : Array Value} {j : Nat} : (a ++ b).getD j undef = if j < a.size then a.getD j undef else b.getD (j - a.size) undef := by
 simp only [Array.getD_eq_getD_getElem?, Array.getElem?_append];split <;> rfl
theorem aCQ {x : X} {ρ : Operand → AV} {ev : Operand → Value} {args : Array Operand} {caps : List AV} {ys : Array Value} (hr : ∀ y, y ∈ args.toList → RelV x (ρ y) (ev y))
 (hl : caps.length = ys.size) (hc : ∀ (j : Nat) (c : AV), caps[j]? = some c → LeafR x c (ys.getD j undef)) (hleaf : ∀ c v, LeafR x c v → RelV x c v) :
 (args.toList.map ρ ++ caps).length = (args.map ev ++ ys).size ∧ ∀ (j : Nat) (c : AV), (args.toList.map ρ ++ caps)[j]? = some c → RelV x c ((args.map ev ++ ys).getD j undef) := by
 refine ⟨by simp [hl], fun j c hj => ?_⟩;rw [gL, List.getElem?_append] at *
 simp only [List.length_map, Array.length_toList, Array.size_map] at *
 split
 · rename_i hlt;rw [if_pos hlt, List.getElem?_map, Option.map_eq_some_iff] at hj;obtain ⟨y, h1, rfl⟩ := hj;have : (args.map ev).getD j undef = ev y := by
    simp at h1;simp [Array.getD_eq_getD_getElem?, h1]
   rw [this];exact hr y (List.mem_of_getElem? h1)
 · rename_i hlt;rw [if_neg hlt] at hj;exact hleaf _ _ (hc _ c hj)
theorem front_rel {x : X} {bs l : List AV} {xs zs : Array Value} (hb : bs.length = xs.size ∧ ∀ (j : Nat) (c : AV), bs[j]? = some c → RelV x c (xs.getD j undef))
 (hl : l.length = zs.size ∧ ∀ (j : Nat) (c : AV), l[j]? = some c → RelV x c (zs.getD j undef)) :
 (bs ++ l).length = (xs ++ zs).size ∧ ∀ (j : Nat) (c : AV), (bs ++ l)[j]? = some c → RelV x c ((xs ++ zs).getD j undef) := by
 refine ⟨by simp [hb.1, hl.1], fun j c hj => ?_⟩;rw [gL, List.getElem?_append] at *
 rw [← hb.1];split
 · rename_i hlt;rw [if_pos hlt] at hj;exact hb.2 j c hj
 · rename_i hlt;rw [if_neg hlt] at hj;exact hl.2 _ c hj
theorem relV_of_leaf {x : X} {c : AV} {v : Value} (h : LeafR x c v) : RelV x c v := by
 cases c <;> first | exact h | exact dK (show RoV _ _ _ _ from h)
theorem aDD {x : X} {c : AV} {v : Value} (h : AggR x c v) : RelV x c v := by
 cases c <;> first | exact h | exact dK (show RoV _ _ _ _ from h)
theorem aEO {x : X} {c : AV} {v : Value} (h : RelV x c v) (hc : aLQ c = true) : LeafR x c v := by
 cases c <;> first | exact h | exact aR (nA h hc)
end
end
section
open Go Go.RowKit
section
variable {P : Program} {G : Nat → TI} {base : Nat} {O0 : Nat → Prop} {μ : Nat → Nat} {hp : List Blk} {w w' : World}
theorem brAV_real {c : AV} {v : Value} {x : X} {t f : Unit → Prop} (hv : RelV x c v) (h : brAV (aB P) c t f) : (v = .bool true ∧ t ()) ∨ (v = .bool false ∧ f ()) := by
 cases c <;> try exact h.elim
 rename_i b;have := hv.bool_inv;subst this;rcases brB_real (show brB _ _ _ _ from h) with ⟨h1, h2⟩ | ⟨h1, h2⟩
 · exact .inl ⟨by rw [h1], h2⟩
 · exact .inr ⟨by rw [h1], h2⟩
theorem aJN {a b : SI} {K : SI → Prop} (h : maxI (aB P) a b K) : ∃ n : SI, K n ∧ n.val = if b.val > a.val then b.val else a.val := by
 unfold maxI at h;rcases brB_real h with ⟨h1, h2⟩ | ⟨h1, h2⟩
 · rw [bX] at h1;have : b.val > a.val := Bt h1;exact ⟨b, h2, by rw [if_pos this]⟩
 · rw [bX] at h1;have : ¬ b.val > a.val := Ce h1;exact ⟨a, h2, by rw [if_neg this]⟩
theorem aJU {a b : SI} {K : SI → Prop} (h : minI (aB P) a b K) : ∃ n : SI, K n ∧ n.val = if b.val < a.val then b.val else a.val := by
 unfold minI at h;rcases brB_real h with ⟨h1, h2⟩ | ⟨h1, h2⟩
 · rw [bX] at h1;have : b.val < a.val := Bt h1;exact ⟨b, h2, by rw [if_pos this]⟩
 · rw [bX] at h1;have : ¬ b.val < a.val := Ce h1;exact ⟨a, h2, by rw [if_neg this]⟩
theorem aCL {α β : Type} {f : α → β} {l : List α} {a b : β} (h : l.map f = [a, b]) : ∃ x y, l = [x, y] ∧ f x = a ∧ f y = b := by
 match l, h with
 | [x, y], h => simp at h; exact ⟨x, y, rfl, h.1, h.2⟩
theorem aBZ {α β : Type} {f : α → β} {l : List α} {a : β} (h : l.map f = [a]) : ∃ x, l = [x] ∧ f x = a := by
 match l, h with
 | [x], h => simp at h; exact ⟨x, rfl, h⟩
theorem ofList_eq {α : Type} {a : Array α} {l : List α} (h : a.toList = l) : a = l.toArray := by
 rw [← h]
theorem xE (hG : GOK P G) {b : Builtin} {args : Array Operand} {ts : Array TypeId} {ty : TypeId} {cs : Array Bool} {ρ : Operand → AV} {ev : Operand → Value} {K : AV → Prop}
 (hr : ∀ y, y ∈ args.toList → RelV (mkX base O0 μ hp w) (ρ y) (ev y)) (h : kM (aB P) G b (args.toList.map ρ) ts.toList K) :
 ∃ v, K v ∧ ∃ val, (builtin b ts ty cs (args.map ev)).run P w = .ok (.value val) w ∧ RelV (mkX base O0 μ hp w) v val := by
 unfold kM at h;split at h
 · rename_i a hxs;obtain ⟨y, hy, rfl⟩ := aBZ hxs;have hy' := ofList_eq hy;subst hy';split at h
   · rename_i t tr n hts hn;have hts' := ofList_eq hts;subst hts';cases hel : mT G t (ρ y) with
     | false => rw [hel] at h; exact h.elim
     | true =>
      rw [hel, cond_true] at h;have hv := hr y (by simp);refine ⟨_, h, .int .i64 n.val, ?_, fN _ _ _ rfl⟩;rcases elemOK_spec hG hel with ⟨s, hs, hu⟩ | ⟨e, i, hu, hi, hx⟩
      · rw [hs] at hv hn;simp only [lenOf, Option.some.injEq] at hn;subst hn;simp [Go.builtin, Builtin.len_, aU hu, hv.tO, goInt, aB, SI.val]
      · have hns : ∀ s, ρ y ≠ .str s := by intro s h1; rw [h1] at hx; rcases hx with ⟨_, _, h, _⟩ | ⟨_, _, _, h, _⟩ | ⟨_, _, _, _, h, _⟩ | h <;> cases h
        obtain ⟨A, cap, e1, e2, e3⟩ := oJ hv hn hns;simp [Go.builtin, Builtin.len_, aU hu, e1, goInt, Ef e2]
   · exact h.elim
 · rename_i k a k' b hxs;obtain ⟨y, z, hy, e1, e2⟩ := aCL hxs;have hy' := ofList_eq hy;subst hy';cases hk : ikEq k k' with
   | false => rw [hk] at h; exact h.elim
   | true =>
    rw [hk, cond_true] at h;have := fI hk;subst this;have h1 := hr y (by simp);have h2 := hr z (by simp);rw [e1] at h1;rw [e2] at h2;obtain ⟨n, hK, hn⟩ := aJN h;refine ⟨_, hK, .int k n.val, ?_, fN _ _ _ rfl⟩;simp [Go.builtin, h1.cJ, h2.cJ, Builtin.max_, Builtin.max2, hn]
 · rename_i k a k' b hxs;obtain ⟨y, z, hy, e1, e2⟩ := aCL hxs;have hy' := ofList_eq hy;subst hy';cases hk : ikEq k k' with
   | false => rw [hk] at h; exact h.elim
   | true =>
    rw [hk, cond_true] at h;have := fI hk;subst this;have h1 := hr y (by simp);have h2 := hr z (by simp);rw [e1] at h1;rw [e2] at h2;obtain ⟨n, hK, hn⟩ := aJU h;refine ⟨_, hK, .int k n.val, ?_, fN _ _ _ rfl⟩;simp [Go.builtin, h1.cJ, h2.cJ, Builtin.min_, Builtin.min2, hn]
 · exact h.elim
theorem uN {ev : Operand → Value} {f : Operand} {args : Array Operand} {ts : Array TypeId} {ty : TypeId} {g : FuncId} {xs ys : Array Value} (hf : ev f = .func (.func g) xs ys) (w : World) :
 (do let d ← resolve ev ⟨.value f, args, ts⟩ ty; invoke d.target d.args : Sem Next).run P w = (callFunc g (xs ++ (args.map ev ++ ys))).run P w := by
 simp only [resolve, hf, Deferred.ofValue, Sem.run_bind, Sem.run_pure, Result.andThen_ok, invoke];simp
theorem wI {ev : Operand → Value} {f : Operand} {args : Array Operand} {ts : Array TypeId} {ty : TypeId} {g : FuncId} {xs ys : Array Value} (hf : ev f = .func (.func g) xs ys) (hg : FOK P g) (w : World) :
 (do let d ← resolve ev ⟨.value f, args, ts⟩ ty; invoke d.target d.args : Sem Next).run P w = .ok (.enter g (xs ++ (args.map ev ++ ys))) w := by
 rw [uN hf, qC hg]
theorem aCJ (hG : GOK P G) {x : X} {t f : Nat} {a : AV} {v : Value} {K : AV → Prop} (hv : RelV x a v)
 (h : qA (G t) f a K) : ∃ v', K v' ∧ Val P x (Instr.field t v f) v' := by
 unfold qA at h;split at h
 · rename_i fs sz1 by1 z1 fl1 cs hk;obtain ⟨i, d, z', T⟩ := hG.tok hk (by simp);obtain ⟨fields, rfl, rfl⟩ := gQ T.kind;split at h
   · rename_i off fz ag hn;cases h1 : Nat.ble 1 fz with
     | false => rw [h1] at h; exact h.elim
     | true =>
      rw [h1, cond_true] at h;have h1' := An h1;obtain ⟨fd, i2, hf, rfl, hi, rfl, d2, hd2, rfl⟩ := aFM hn h1';obtain ⟨ys, rfl, hl, hy⟩ := (show AggR x (.agg cs) v from hv)
      rw [lT, mH] at h;unfold sJ at h;cases hlen : Nat.beq (lenC ((cs.drop fd.offset).take i2.size)) i2.size with
      | false => rw [hlen] at h; exact h.elim
      | true =>
       rw [hlen, cond_true] at h;have hlen' := Ad hlen;rw [gA] at hlen';have hle : fd.offset + i2.size ≤ cs.length := by
        simp at hlen'; omega
       have hval : ∀ (j : Nat) (c : AV), ((cs.drop fd.offset).take i2.size)[j]? = some c → j < i2.size ∧ LeafR x c (ys.getD (fd.offset + j) undef) := by
        intro j c hj;rw [List.getElem?_take] at hj;split at hj
        · rename_i hjl;rw [List.getElem?_drop] at hj;exact ⟨hjl, hy _ c hj⟩
        · cases hj
       cases ha : jG d2 with
       | true =>
        rw [ha, cond_true] at h;refine ⟨_, h, .agg (ys.extract fd.offset (fd.offset + i2.size)), ?_, ?_⟩
        · simp [Instr.field, aU T.und, hf, asAgg, part, jK hd2, ha, cO hi]
        · refine ⟨_, rfl, by rw [hlen']; simp; omega, fun j c hj => ?_⟩;obtain ⟨q1, q2⟩ := hval j c hj;rw [dO _ _ _ _ (by omega)];exact q2
       | false =>
        rw [ha, cond_false] at h;split at h
        · rename_i c hc;have := hval 0 c (by rw [hc]; rfl);have hlt : fd.offset < ys.size := by omega
          refine ⟨_, h, ys.getD fd.offset undef, ?_, relV_of_leaf this.2⟩;simp [Instr.field, aU T.und, hf, asAgg, part, jK hd2, ha, hlt]
        · exact h.elim
   · exact h.elim
 · exact h.elim
theorem zS (H : HR base O0 μ hp w) {w' : World} (g : Below w.heap.size w w') : ∀ n, newO (okO base O0 μ hp w) w w' n → okO base O0 μ hp w' n := by
 intro n hn;rcases hn with h | ⟨h1, h2⟩
 · exact (Ext.grow (O0 := O0) (μ := μ) (hp := hp) H.all g).o n h
 · have := H.all;exact .inr ⟨by omega, h2, fun b hb => by have := H.lt (fP hb); omega⟩
theorem gN (hG : GOK P G) (H : HR base O0 μ hp w) {o : Oper} {ρ : Operand → AV} {ev : Operand → Value} {K : AV → Prop}
 (hr : ∀ y, y ∈ o.op.operands.toList → RelV (mkX base O0 μ hp w) (ρ y) (ev y)) (h : bO (aB P) G hp ρ o.op K) :
 ∃ v, K v ∧ Out P base O0 μ hp w ((execOp ev o).run P w) v := by
 obtain ⟨dst, op, ty, pos, after, guard⟩ := o;dsimp only at hr h;cases op <;> try exact h.elim
 case move y =>
  exact ⟨_, h, .inl ⟨_, w, rfl, Below.refl _ _, hr y (by simp [Op.operands])⟩⟩
 case assign y =>
  have h' : K (ρ y) := by
   dsimp only [bO] at h;split at h
   · rename_i e; rw [e]; exact h
   · exact h
  exact ⟨_, h', .inl ⟨_, w, rfl, Below.refl _ _, hr y (by simp [Op.operands])⟩⟩
 case pick c a b =>
  rcases brAV_real (hr c (by simp [Op.operands])) h with ⟨h1, h2⟩ | ⟨h1, h2⟩
  · exact ⟨_, h2, .inl ⟨ev a, w, by simp [execOp, h1, asBool], Below.refl _ _, hr a (by simp [Op.operands])⟩⟩
  · exact ⟨_, h2, .inl ⟨ev b, w, by simp [execOp, h1, asBool], Below.refl _ _, hr b (by simp [Op.operands])⟩⟩
 case build t parts =>
  obtain ⟨v, h1, h2⟩ := aBL (x := mkX base O0 μ hp w) (ev := ev) hG (fun i y hm => hr y (by simp [Op.operands]; exact ⟨i, by simpa using hm⟩)) h;exact ⟨v, h1, Out.val h2⟩
 case buildSlice t n parts =>
  dsimp only [bO] at h;split at h
  · rename_i e sz1 by1 z1 fl1 hk;obtain ⟨i, d, z', T⟩ := hG.tok hk (by simp);have hd := eQ T.kind;subst hd;generalize hk2 : G e = ge at h;obtain ⟨k, sz, by2, z2, fl2⟩ := ge;dsimp only at h;split at h
    · rename_i l hl;cases hb : Nat.beq (lenR l) n && Nat.ble (n * sz) 1000 with
      | false => rw [hb] at h; exact h.elim
      | true =>
       rw [hb, cond_true] at h;simp only [Aj, lH] at hb;have b1 := Ad hb.1;have b2 := An hb.2;have hrp : ∀ (i : Nat) (y : Operand), (i, y) ∈ parts.toList → RelV (mkX base O0 μ hp w) (ρ y) (ev y) := fun i y hm => hr y (by simp [Op.operands]; exact ⟨i, by simpa using hm⟩)
       have hne : k ≠ .oth := by rintro rfl; exact h
       obtain ⟨i2, d2, z2', T2⟩ := hG.tok hk2 hne;obtain ⟨zs, q1, q2, q3⟩ := lS T.und T2 hrp hl b1 b2 w;have hexec : (execOp ev ⟨dst, .buildSlice t n parts, ty, pos, after, guard⟩).run P w = .ok (.value (.slice (some ⟨w.heap.size, 0, none⟩) n n)) (cC w (.cells zs e)) := by
        simp only [execOp, Sem.run_bind];have : (parts.map fun x => match x with | (i, x) => (i, ev x)) = parts.map fun p => (p.1, ev p.2) := rfl
        rw [this, q1];rfl
       have g := dQ w (.cells zs e);have ex := Ext.grow (O0 := O0) (μ := μ) (hp := hp) H.all g;have hO : (mkX base O0 μ hp (cC w (.cells zs e))).O w.heap.size := .inr ⟨H.all, by simp [cC], fun b hb => by have := H.lt (fP hb); omega⟩;have hcell : ∀ q, q < zs.size → (cC w (.cells zs e)).cell? ⟨w.heap.size, 0 + q, none⟩ = some (zs.getD q undef) := by
        intro q hq;have hh : (cC w (.cells zs e)).heap[w.heap.size]? = some (.cells zs e) := by simp only [cC]; exact Array.getElem?_push_size
        simp only [World.cell?, hh, Be];simp [Array.getD_eq_getD_getElem?, hq]
       have ints : ∀ kk ns, oX kk l = some ns → RelV (mkX base O0 μ hp (cC w (.cells zs e))) (.sli kk ns) (.slice (some ⟨w.heap.size, 0, none⟩) n n) := by
        intro kk ns hns;obtain ⟨m1, m2⟩ := rU hns;rw [← b1, ← m1];refine RoV.sli kk ns ⟨w.heap.size, 0, none⟩ _ rfl hO (Ba _) (fun i m hi => ?_);obtain ⟨s, e1, e2⟩ := m2 i m hi;obtain ⟨r1, r2⟩ := q3 i _ e2;have hil := (List.getElem?_eq_some_iff.1 hi).1;have hsz : sz = 1 := by simpa using r1.symm
        have := (r2 0 _ rfl).cJ;rw [hsz, By, Bn] at this;refine (hcell i (by rw [q2, hsz, By, ← b1, ← m1]; exact hil)).trans ?_;rw [this, e1]
       have slxs : allB (allB AV.mf1) l = true → RelV (mkX base O0 μ hp (cC w (.cells zs e))) (.slx sz l) (.slice (some ⟨w.heap.size, 0, none⟩) n n) := by
        intro hm;rw [allB_eq, List.all_eq_true] at hm;rw [← b1];refine RoV.slx sz l ⟨w.heap.size, 0, none⟩ (fun i j => zs.getD (i * sz + j) undef) rfl hO (fun i r hi => (q3 i r hi).1) (fun i j r c hi hj => ?_) (fun i j r c hi hj => ?_)
        · obtain ⟨r1, r2⟩ := q3 i r hi;have hil := (List.getElem?_eq_some_iff.1 hi).1;have hjl := (List.getElem?_eq_some_iff.1 hj).1;refine hcell (i * sz + j) ?_;rw [q2];have := Ai sz (Bu (by omega : i < n));rw [Co] at this;omega
        · obtain ⟨r1, r2⟩ := q3 i r hi;have hml := hm r (List.mem_of_getElem? hi);rw [allB_eq, List.all_eq_true] at hml;exact RoV.mono ex.o ex.cell (bM (r2 j c hj) (hml c (List.mem_of_getElem? hj)))
       have slcs : allB (allB AV.mf1) l = true → RelV (mkX base O0 μ hp (cC w (.cells zs e))) (.slc sz (.l n) (fun i => iM l (Int.ofNat i))) (.slice (some ⟨w.heap.size, 0, none⟩) n n) := by
        intro hm;rw [allB_eq, List.all_eq_true] at hm;have grow : ∀ i, i < n → iM l (Int.ofNat i) = l.getD i [] := fun i hi => nJ l (Int.ofNat i) (by simp)
        have grow2 : ∀ i, (hi : i < n) → l[i]? = some (iM l (Int.ofNat i)) := fun i hi => by
         rw [grow i hi];simp [List.getD, List.getElem?_eq_getElem (by omega : i < l.length)]
        refine RoV.slc sz (.l n) _ ⟨w.heap.size, 0, none⟩ n (fun i j => zs.getD (i * sz + j) undef) rfl hO (by simp [SI.val]) (by simp [SI.val]) (fun i hi => ?_) (fun i j c hi hj => ?_) (fun i j c hi hj => ?_)
        · simp only [SI.val, Ak] at hi;exact (q3 i _ (grow2 i hi)).1
        · simp only [SI.val, Ak] at hi;obtain ⟨r1, r2⟩ := q3 i _ (grow2 i hi);have hjl := (List.getElem?_eq_some_iff.1 hj).1;refine hcell _ ?_;rw [q2];have : i * sz + sz ≤ n * sz := by
           have := Ai sz (Bu hi);rw [Co] at this; exact this
          omega
        · simp only [SI.val, Ak] at hi;obtain ⟨r1, r2⟩ := q3 i _ (grow2 i hi);have hmr := hm _ (List.mem_of_getElem? (grow2 i hi));rw [allB_eq, List.all_eq_true] at hmr;exact RoV.mono ex.o ex.cell (bM (r2 j c hj) (hmr c (List.mem_of_getElem? hj)))
       cases k with
       | int kk =>
        dsimp only at h;split at h
        · rename_i ns hns;exact ⟨_, h, .inl ⟨_, _, hexec, g, ints _ _ hns⟩⟩
        · exact h.elim
       | oth => exact h.elim
       | _ =>
        dsimp only at h;cases hm : allB (allB AV.mf1) l with
        | false => rw [hm] at h; exact h.elim
        | true =>
         rw [hm, cond_true] at h;cases hx : aEZ parts.toList with
         | true => rw [hx, cond_true] at h; exact ⟨_, h, .inl ⟨_, _, hexec, g, slxs hm⟩⟩
         | false => rw [hx, cond_false] at h; exact ⟨_, h, .inl ⟨_, _, hexec, g, slcs hm⟩⟩
    · exact h.elim
  · exact h.elim
 case load t a =>
  obtain ⟨v, h1, h2⟩ := wY hG H (hr a (by simp [Op.operands])) h;exact ⟨v, h1, Out.val h2⟩
 case binOp op t a b t2 =>
  obtain ⟨v, h1, h2⟩ := aEQ (xo := a) (yo := b) hG (hr a (by simp [Op.operands])) (hr b (by simp [Op.operands])) h;exact ⟨v, h1, Out.val h2⟩
 case unOp op t a =>
  obtain ⟨v, h1, h2⟩ := aGG (P := P) (hr a (by simp [Op.operands])) h;exact ⟨v, h1, Out.val h2⟩
 case convert src dst' a =>
  dsimp only [bO] at h;split at h
  · rename_i k1 _ _ _ _ k2 _ _ _ _ k3 n hk1 hk2 hv;obtain ⟨i1, d1, z1, T1⟩ := hG.tok hk1 (by simp);obtain ⟨i2, d2, z2, T2⟩ := hG.tok hk2 (by simp);have e1 := tF T1.kind;have e2 := tF T2.kind;subst e1 e2;have hva := hr a (by simp [Op.operands]);rw [hv] at hva;refine ⟨_, h, Out.val ⟨.int k2 (k2.wrap n.val), ?_, fN _ _ _ (aCY _ _)⟩⟩;simp [Go.convert, aU T1.und, aU T2.und, hva.cJ, Conv.intToInt]
  · exact h.elim
 case makeFunc fn first caps =>
  dsimp only [bO] at h;split at h
  · rename_i f hfst;cases hc : allB aLQ (caps.toList.map ρ) with
    | false => rw [hc] at h; exact h.elim
    | true =>
     rw [hc, cond_true] at h;rw [allB_eq, List.all_eq_true] at hc;have hfst' := ofList_eq hfst;subst hfst';refine ⟨_, h, .inl ⟨.func (.func f) #[] (caps.map ev), w, by simp [execOp, Instr.makeFunc], Below.refl _ _, ?_⟩⟩;refine ⟨_, rfl, by simp, fun j c hj => ?_⟩;rw [List.getElem?_map, Option.map_eq_some_iff] at hj;obtain ⟨y, h1, rfl⟩ := hj;have : (caps.map ev).getD j undef = ev y := by
      simp at h1;simp [Array.getD_eq_getD_getElem?, h1]
     rw [this];have hm := List.mem_of_getElem? h1;exact aEO (hr y (by simp only [Op.operands, Array.toList_append]; exact List.mem_append_right _ hm)) (hc _ (List.mem_map_of_mem hm))
  · rename_i f x hfst;split at h
    · rename_i hcap;cases hc : AV.mf (ρ x) with
      | false => rw [hc] at h; exact h.elim
      | true =>
       rw [hc, cond_true] at h;have hfst' := ofList_eq hfst;have hcap' := ofList_eq hcap;subst hfst';subst hcap';refine ⟨_, h, .inl ⟨.func (.func f) #[ev x] #[], w, by simp [execOp, Instr.makeFunc], Below.refl _ _, ?_⟩⟩;refine RoV.bnd _ _ _ rfl (fun j c hj => ?_);cases j with
       | zero =>
        simp at hj;subst hj;exact nA (hr x (by simp [Op.operands])) hc
       | succ j => simp at hj
    · exact h.elim
  · exact h.elim
 case slice t a lo hi mx =>
  obtain ⟨v, h1, h2⟩ := aDV (ev := ev) hG (hr a (by simp [Op.operands])) (fun y hy => hr y (by subst hy; simp [Op.operands])) (fun y hy => hr y (by subst hy; simp [Op.operands]))
   (fun y hy => hr y (by subst hy; simp [Op.operands])) h
  exact ⟨v, h1, Out.val h2⟩
 case fieldAddr t a f =>
  obtain ⟨v, h1, h2⟩ := tJ hG (hr a (by simp [Op.operands])) h;exact ⟨v, h1, Out.val h2⟩
 case field t a f =>
  obtain ⟨v, h1, h2⟩ := aCJ hG (hr a (by simp [Op.operands])) h;exact ⟨v, h1, Out.val h2⟩
 case indexAddr t a i =>
  obtain ⟨v, h1, h2⟩ := tK hG H (hr a (by simp [Op.operands])) (hr i (by simp [Op.operands])) h;exact ⟨v, h1, Out.val h2⟩
 case index t a i =>
  dsimp only [bO] at h;split at h
  · rename_i s k n hk hs hn;obtain ⟨i1, d1, z1, T1⟩ := hG.tok (t := t) (k := .str) (sz := (G t).sz) (by_ := (G t).bytes) (z := (G t).zero) (fl := (G t).fl) (by rw [← hk]) (by simp);have e1 := tH T1.kind;subst e1;have z := cT h;clear h;obtain ⟨h0, h⟩ := z;have z := kN h;clear h;obtain ⟨h1, h⟩ := z;have hva := hr a (by simp [Op.operands]);have hvi := hr i (by simp [Op.operands]);rw [hs] at hva;rw [hn] at hvi;have h0' : 0 ≤ n.val := h0;have h1' : n.val < (s.size : Int) := h1;have hlt : n.val.toNat < s.size := by omega
    refine ⟨_, h, Out.val ⟨.int .u8 (s[n.val.toNat].toNat), ?_, fN _ _ _ ?_⟩⟩
    · simp [Instr.index, hvi.cJ, hva.tO, asIntOf, aU T1.und, h0', hlt]
    · show ((s.data.getD n.val.toNat 0).toNat : Int) = _;have : s.data.getD n.val.toNat 0 = s[n.val.toNat] := by
       rw [Array.getD_eq_getD_getElem?, Array.getElem?_eq_getElem (by exact hlt)];rfl
      rw [this]
  · exact h.elim
 case nilCheck a =>
  dsimp only [bO] at h;have hva := hr a (by simp [Op.operands]);split at h
  · rename_i b sz r c hs;rw [hs] at hva;obtain ⟨_, _, hv, _⟩ := (show LeafR _ (.ptr b sz r c) _ from hva)
    exact ⟨_, h, .inl ⟨ev a, w, by simp [execOp, hv], Below.refl _ _, by rw [hv]; rw [hv] at hva; exact hva⟩⟩
  · rename_i cs hs;rw [hs] at hva;obtain ⟨ad, hv⟩ : ∃ ad, ev a = .pointer (some ad) := by
     generalize ev a = va at hva;cases (show RoV _ _ (.rp cs) va from hva) with
     | rp _ ad Y _ _ _ _ => exact ⟨ad, rfl⟩
    exact ⟨_, h, .inl ⟨ev a, w, by simp [execOp, hv], Below.refl _ _, hva⟩⟩
  · exact h.elim
 case extract a i =>
  dsimp only [bO] at h;have hva := hr a (by simp [Op.operands]);split at h
  · rename_i vs hs;rw [hs] at hva;split at h
    · rename_i v hv;rw [nthA_eq] at hv;obtain ⟨ys, e1, hl, hy⟩ := hva;have hlt := (List.getElem?_eq_some_iff.1 hv).1;have hget : ys[i]? = some (ys.getD i undef) := by
       rw [Array.getD_eq_getD_getElem?, Array.getElem?_eq_getElem (by omega)]; rfl
      refine ⟨_, h, Out.val ⟨ys.getD i undef, ?_, aDD (hy i v hv)⟩⟩;rw [e1];simp only [Instr.extract, hget, Sem.run_pure]
    · exact h.elim
  · exact h.elim
 case call c =>
  obtain ⟨callee, args, ts⟩ := c;cases callee with
  | value f =>
   dsimp only [bO] at h;split at h
   · rename_i g bs caps hf;obtain ⟨r, hK, hmf, hc⟩ := h;have hvf := hr f (by simp [Op.operands, Call.operands]);obtain ⟨xs, ys, e1, hb, hl, hy⟩ := wU hvf hf;obtain ⟨a1, a2⟩ := front_rel hb (aCQ (ev := ev) (fun y hm => hr y (by simp only [Op.operands, Call.operands, Array.toList_append]; exact List.mem_append_right _ hm)) hl hy (fun c v => relV_of_leaf));rw [allB_eq, List.all_eq_true] at hmf;have hcalls := hc (okO base O0 μ hp w) w (xs ++ (args.map ev ++ ys)) (fun n hn => aLJ H.all hn) H.glob a1 (fun j c hj => nA (a2 j c hj) (hmf c (List.mem_of_getElem? hj)));rcases hcalls with ⟨hfok, hcalls⟩ | ⟨val, hrun, hq⟩
     · refine ⟨r, hK, .inr ⟨g, _, wI e1 hfok w, hcalls.mono ?_⟩⟩;rintro e w' ⟨val, he, hrel, hb⟩;exact ⟨val, he, hb, dK (RoV.mono (zS H hb) (fun _ _ _ h => h) hrel)⟩
     · obtain ⟨val', he, hrel, hb⟩ := hq;have he' : val = val' := Ending.returned.inj he;subst he';exact ⟨r, hK, .inl ⟨val, w, (uN e1 w).trans hrun, hb, dK (RoV.mono (zS H hb) (fun _ _ _ h => h) hrel)⟩⟩
   · exact h.elim
  | invoke recv name => exact h.elim
  | builtin b =>
   obtain ⟨v, hK, val, hv, hrel⟩ := xE (cs := args.map fun | .const _ => true | _ => false) (ty := ty) (ev := ev) (args := args) hG (fun y hm => hr y (by simp only [Op.operands, Call.operands, Array.toList_append]; exact List.mem_append_right _ hm)) h;refine ⟨v, hK, .inl ⟨val, w, ?_, Below.refl _ _, hrel⟩⟩;show ((resolve ev ⟨.builtin b, args, ts⟩ ty >>= fun d => invoke d.target d.args : Sem Next)).run P w = _;rw [Sem.run_bind];exact hv
end
end
end Go.Proofs.YtmlcglmbjjmijaaGreatDoor.Ev
