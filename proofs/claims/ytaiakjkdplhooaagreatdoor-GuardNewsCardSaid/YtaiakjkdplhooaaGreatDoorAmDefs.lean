/- The abstract machine: values, state, operations, code. -/
import Derived.Orders
import Derived.Below
namespace Go.AM
open Go

/-- Plain data: numbers, bools, texts, structs of cells, slices as lists. -/
inductive PV where
  | int (k : IntKind) (n : Int)
  | bool (b : Bool)
  | str (s : List UInt8)
  | agg (cs : List PV)
  | sl (l : List PV)
  deriving Inhabited

def PV.cells : PV → List PV
  | .agg cs => cs
  | p => [p]

/-- What a temporary, or a variable's cell, holds. -/
inductive AV where
  | any
  | pv (p : PV)
  | own (t : Option TypeId) (l : List PV)
  | agg (cs : List AV)
  | tup (cs : List AV)
  | ptr (o off : Nat)
  | nilp
  | view (cs : List PV)
  | fn (f : FuncId) (caps : List AV)
  | nilfn
  | nili
  | iface (t : TypeId) (v : AV)
  deriving Inhabited

/-- Whoever looks at it doesn't own it. -/
def AV.down : AV → AV
  | .own _ l => .pv (.sl l)
  | a => a

/-- The same, but what is known to be nil stays so. -/
def AV.downN : AV → AV
  | .own (some _) l => .pv (.sl l)
  | a => a

/-- A struct's cells, too. -/
def AV.deep : AV → AV
  | .own _ l => .pv (.sl l)
  | .agg cs => .agg (cs.map .down)
  | a => a

/-- The cells of a value of a variable; none: they aren't known. -/
def AV.cells? : AV → Option (List AV)
  | .agg cs => some cs
  | .pv (.agg cs) => some (cs.map .pv)
  | .any => none
  | .tup _ => none
  | a => some [a]

mutual
def AV.toPV : AV → Option PV
  | .pv p => some p
  | .own _ l => some (.sl l)
  | .agg cs => (AV.toPVs cs).map .agg
  | _ => none
def AV.toPVs : List AV → Option (List PV)
  | [] => some []
  | a :: r => match AV.toPV a, AV.toPVs r with
    | some p, some ps => some (p :: ps)
    | _, _ => none
end

abbrev H := List (List AV)
structure AS where
  t : List AV
  h : H
  wr : List Nat

inductive TK where
  | int (k : IntKind) | bool | str | ptr | slice (e : TypeId) | array (n : Nat) (e : TypeId)
  | struct (fs : List (Nat × TypeId)) | func | iface | other
  deriving Inhabited

def TK.known : TK → Bool
  | .other => false
  | _ => true

def TK.isAgg : TK → Bool
  | .struct _ | .array _ _ => true
  | _ => false

structure TI where
  size : Nat
  bytes : Nat
  k : TK
  zero : List AV
  deriving Inhabited

structure Pol where
  ownArg : FuncId → Option Nat
  take : FuncId → Tmp → Bool
  live : FuncId → Nat → Option (List Tmp × List Tmp × List Nat)

structure Ctx where
  P : Program
  pol : Pol
  ext : FuncId → Option (List AV → H → Option (AV × H × List Nat))
  glob : Nat → AV

/-- A constant of the code. -/
def cst : Value → AV
  | .int k n => .pv (.int k n)
  | .bool b => .pv (.bool b)
  | .string s => .pv (.str s.data.toList)
  | .pointer none => .nilp
  | .slice none n c => if n = 0 ∧ c = 0 then .own none [] else .any
  | .func (.func f) a b => if a.size = 0 ∧ b.size = 0 then .fn f [] else .any
  | .nilFunc => .nilfn
  | .nilIface => .nili
  | _ => .any

def kOf (P : Program) (t : TypeId) : TK := match P.underlying t with
  | some (.int k) => .int k | some .bool => .bool | some .string => .str | some (.pointer _) => .ptr
  | some (.slice e) => .slice e | some (.array n e) => .array n e
  | some (.struct fs) => .struct (fs.toList.map fun f => (f.offset, f.type))
  | some (.func ..) => .func | some (.interface _) => .iface | _ => .other

/-- Is a zero value of the form that its type asks for? -/
def zeroFits (k : TK) (size : Nat) : Value → Bool
  | .agg cs => k.isAgg && cs.size == size && cs.all (fun c => match c with | .agg _ | .tuple _ => false | _ => true)
  | .tuple _ => false
  | _ => !k.isAgg && size == 1

/-- A type's table. -/
def tiOf (P : Program) (t : TypeId) : Option TI :=
  match P.info? t with
  | some i => match i.zero with
    | some z => if (kOf P t).known && zeroFits (kOf P t) i.size z then some { size := i.size, bytes := i.bytes, k := kOf P t, zero := z.cells.toList.map cst } else none
    | none => none
  | none => none

def Ctx.ti (C : Ctx) (t : TypeId) : Option TI := tiOf C.P t

/-- A type's kind. -/
def Ctx.tk (C : Ctx) (t : TypeId) : Option TK := (C.ti t).map (·.k)

def aval (C : Ctx) (t : List AV) : Operand → AV
  | .tmp i => t.getD i .any
  | .const v => cst v
  | .global g => C.glob g
  | .func f => .fn f []

/-- As it is seen by whoever doesn't take it. -/
def see (C : Ctx) (t : List AV) (x : Operand) : AV := (aval C t x).down

def Operand.tmp? : Operand → Option Tmp
  | .tmp i => some i
  | _ => none

def downT (t : List AV) : Option Tmp → List AV
  | some i => t.set i (t.getD i .any).down
  | none => t

def putT (t : List AV) (d : Option Tmp) (v : AV) : List AV :=
  match d with
  | some i => t.set i v
  | none => t

/-! ### Operations that call nothing -/

def splice (cs : List AV) (off : Nat) (vs : List AV) : List AV := cs.take off ++ vs ++ cs.drop (off + vs.length)

def afill (place : Nat → Option (Nat × Nat)) : List AV → List (Nat × AV) → Option (List AV)
  | cs, [] => some cs
  | cs, (i, v) :: rest =>
    match place i, v.cells? with
    | some (off, size), some vs =>
      if vs.length = size ∧ off + vs.length ≤ cs.length then afill place (splice cs off vs) rest else none
    | _, _ => none

def szs (C : Ctx) : List (Nat × TypeId) → Option (List (Nat × Nat))
  | [] => some []
  | (off, t) :: r => match C.ti t, szs C r with
    | some i, some l => some ((off, i.size) :: l)
    | _, _ => none

def abuild (C : Ctx) (t : TypeId) (parts : List (Nat × AV)) : Option AV :=
  match C.ti t with
  | some i => match i.k with
    | .struct fs => match szs C fs with
      | some l => (afill (fun j => l[j]?) i.zero parts).map .agg
      | none => none
    | .array _ e => match C.ti e with
      | some ei => (afill (fun j => some (j * ei.size, ei.size)) i.zero parts).map .agg
      | none => none
    | _ => none
  | none => none

/-- The elements of a slice that is written out: in order, each once. -/
def elems (size : Nat) : Nat → List (Nat × AV) → Option (List PV)
  | _, [] => some []
  | i, (j, v) :: r => match v.toPV, elems size (i + 1) r with
    | some p, some l => if i = j ∧ p.cells.length = size then some (p :: l) else none
    | _, _ => none

def abuildSlice (C : Ctx) (t : TypeId) (len : Nat) (parts : List (Nat × AV)) : Option AV :=
  match C.tk t with
  | some (.slice e) => match C.ti e with
    | some i => match elems i.size 0 parts with
      | some l => if l.length = len ∧ len * i.size ≤ 2 ^ 24 ∧ 0 < i.size then some (.own (some e) l) else none
      | none => none
    | none => none
  | _ => none

def pick (i : TI) (cs : List AV) : Option AV :=
  if i.k.isAgg then (if i.size ≤ cs.length then some (.agg ((cs.take i.size).map .downN)) else none)
  else (cs.head?).map .downN

def aload (C : Ctx) (h : H) (t : TypeId) (x : AV) : Option AV :=
  match C.ti t, x with
  | some i, .ptr o off => match h[o]? with
    | some cs => pick i (cs.drop off)
    | none => none
  | some i, .view cs => pick i (cs.map .pv)
  | _, _ => none

def astore (C : Ctx) (h : H) (t : TypeId) (x v : AV) : Option H :=
  match C.ti t, x, v.cells? with
  | some i, .ptr o off, some vs => match h[o]? with
    | some cs => if vs.length = i.size ∧ off + vs.length ≤ cs.length then some (h.set o (splice cs off vs)) else none
    | none => none
  | _, _, _ => none

def pb (b : Bool) : Option AV := some (.pv (.bool b))
def pint (k : IntKind) (n : Int) : Option AV := some (.pv (.int k n))

def bitsI (op : BinOp) (k : IntKind) (x y : Int) : Int :=
  let a := BitVec.ofInt k.bits x
  let b := BitVec.ofInt k.bits y
  match op with
  | .and => k.wrap (a &&& b).toNat
  | .or => k.wrap (a ||| b).toNat
  | .xor => k.wrap (a ^^^ b).toNat
  | _ => k.wrap (a &&& ~~~b).toNat

/-- '<' and '≤' in a form that the kernel can also work out at numbers that aren't known whole. -/
def ltI : Int → Int → Bool
  | .ofNat a, .ofNat b => Nat.ble (a + 1) b
  | .ofNat _, .negSucc _ => false
  | .negSucc _, .ofNat _ => true
  | .negSucc a, .negSucc b => Nat.ble (b + 1) a

def leI : Int → Int → Bool
  | .ofNat a, .ofNat b => Nat.ble a b
  | .ofNat _, .negSucc _ => false
  | .negSucc _, .ofNat _ => true
  | .negSucc a, .negSucc b => Nat.ble b a

theorem ltI_eq (x y : Int) : ltI x y = decide (x < y) := by
  cases x <;> cases y <;> simp only [ltI] <;> rw [Bool.eq_iff_iff] <;> simp only [Nat.ble_eq, decide_eq_true_eq, Bool.false_eq_true, true_iff, false_iff, Int.ofNat_eq_natCast] <;> omega

theorem leI_eq (x y : Int) : leI x y = decide (x ≤ y) := by
  cases x <;> cases y <;> simp only [leI] <;> rw [Bool.eq_iff_iff] <;> simp only [Nat.ble_eq, decide_eq_true_eq, Bool.false_eq_true, true_iff, false_iff, Int.ofNat_eq_natCast] <;> omega

def abinInt (op : BinOp) (k : IntKind) (x y : Int) : Option AV :=
  match op with
  | .add => pint k (k.wrap (x + y))
  | .sub => pint k (k.wrap (x - y))
  | .mul => pint k (k.wrap (x * y))
  | .quo => if y = 0 then none else pint k (k.wrap (x.tdiv y))
  | .rem => if y = 0 then none else pint k (x.tmod y)
  | .and | .or | .xor | .andNot => pint k (bitsI op k x y)
  | .eql => pb (decide (x = y))
  | .neq => pb (!decide (x = y))
  | .lss => pb (ltI x y)
  | .leq => pb (leI x y)
  | .gtr => pb (ltI y x)
  | .geq => pb (leI y x)
  | _ => none

def abinStr (op : BinOp) (x y : List UInt8) : Option AV :=
  match op with
  | .add => if x.length + y.length ≤ 9223372036854775807 then some (.pv (.str (x ++ y))) else none
  | .eql => pb (x == y)
  | .neq => pb (!(x == y))
  | .lss => pb (Op.bytesLess x y)
  | .leq => pb (Op.bytesLess x y || x == y)
  | .gtr => pb (!(Op.bytesLess x y || x == y))
  | .geq => pb (!Op.bytesLess x y)
  | _ => none

/-- What kind of cell '==' looks at. -/
inductive Sh where
  | int | bool | str
  deriving DecidableEq

/-- Are two cells of a kind the same? -/
def ceq : Sh → AV → AV → Option Bool
  | .int, .pv (.int k a), .pv (.int j b) => if k = j then some (decide (a = b)) else none
  | .bool, .pv (.bool a), .pv (.bool b) => some (a == b)
  | .str, .pv (.str a), .pv (.str b) => some (a == b)
  | _, _, _ => none

def ceqs : List Sh → List AV → List AV → Option Bool
  | [], [], [] => some true
  | s :: l, a :: r, b :: q => match ceq s a b, ceqs l r q with
    | some x, some y => some (x && y)
    | _, _ => none
  | _, _, _ => none

mutual
/-- The cells of a type whose '==' is that of its cells, one by one. -/
def shapeOf (P : Program) : Nat → TypeId → Option (List Sh)
  | 0, _ => none
  | n + 1, t => match P.underlying t, tiOf P t with
    | some (.int _), some _ => some [.int]
    | some .bool, some _ => some [.bool]
    | some .string, some _ => some [.str]
    | some (.struct fs), some _ => if P.stoodInHeld t then none else shapeFs P n fs.toList 0
    | some (.array m e), some _ => match tiOf P e, shapeOf P n e with
      | some ei, some l => if ei.size = l.length then some (List.replicate m l).flatten else none
      | _, _ => none
    | _, _ => none
/-- .. of fields that lie one behind the other. -/
def shapeFs (P : Program) : Nat → List Field → Nat → Option (List Sh)
  | 0, _, _ => none
  | _ + 1, [], _ => some []
  | n + 1, f :: r, o => if f.name = "_" ∨ f.offset ≠ o then none else match tiOf P f.type, shapeOf P n f.type with
    | some fi, some l => if fi.size = l.length then (match shapeFs P n r (o + fi.size) with
      | some l' => some (l ++ l')
      | none => none) else none
    | _, _ => none
end

def aeqAgg (C : Ctx) (t : TypeId) (xs ys : List AV) : Option Bool :=
  match C.tk t with
  | some k => if C.P.eqGuardType C.P.depth t || !k.isAgg then none else match shapeOf C.P 100 t with
    | some l => ceqs l xs ys
    | none => none
  | none => none

def aeql (C : Ctx) (t : TypeId) (x y : AV) : Option Bool :=
  match C.tk t, x, y with
  | some .bool, .pv (.bool a), .pv (.bool b) => some (a == b)
  | some .ptr, .nilp, .nilp => some true
  | some .ptr, .nilp, .ptr _ _ => some false
  | some .ptr, .ptr _ _, .nilp => some false
  | some .func, .nilfn, .nilfn => some true
  | some .func, .nilfn, .fn _ _ => some false
  | some .func, .fn _ _, .nilfn => some false
  | some .iface, .nili, .iface _ _ => some false
  | some .iface, .iface _ _, .nili => some false
  | _, .agg xs, .agg ys => aeqAgg C t xs ys
  | _, _, _ => none

def abin (C : Ctx) (op : BinOp) (t : TypeId) (x y : AV) : Option AV :=
  match op, x, y with
  | .shl, .pv (.int k a), .pv (.int _ b) => if b < 0 then none else pint k (k.wrap (a * 2 ^ (min b.toNat k.bits)))
  | .shr, .pv (.int k a), .pv (.int _ b) => if b < 0 then none else pint k (a.fdiv (2 ^ (min b.toNat k.bits)))
  | op, .pv (.int k a), .pv (.int j b) => if k = j then abinInt op k a b else none
  | op, .pv (.str a), .pv (.str b) => abinStr op a b
  | .eql, x, y => (aeql C t x y).bind pb
  | .neq, x, y => (aeql C t x y).bind fun b => pb (!b)
  | _, _, _ => none

def aun (op : UnOp) (x : AV) : Option AV :=
  match op, x with
  | .not, .pv (.bool b) => pb (!b)
  | .neg, .pv (.int k n) => pint k (k.wrap (0 - n))
  | .xor, .pv (.int k n) => pint k (bitsI .xor k (if k.signed then -1 else k.max) n)
  | _, _ => none

def nat? : AV → Option Nat
  | .pv (.int _ n) => if 0 ≤ n then some n.toNat else none
  | _ => none

/-- Have the elements as many cells as they should? -/
def fits (size : Nat) : List PV → Bool
  | [] => true
  | p :: _ => p.cells.length == size

def bnd (x : Option AV) (d : Nat) : Option Nat :=
  match x with
  | some v => nat? v
  | none => some d

def aslice (C : Ctx) (t : TypeId) (x : AV) (lo hi : Option AV) : Option AV :=
  match C.tk t, x with
  | some .str, .pv (.str s) =>
    match bnd hi s.length, bnd lo 0 with
    | some h, some l => if l ≤ h ∧ h ≤ s.length then some (.pv (.str ((s.take h).drop l))) else none
    | _, _ => none
  | some (.slice e), .pv (.sl s) =>
    match C.ti e, bnd hi s.length, bnd lo 0 with
    | some ei, some h, some l => if fits ei.size s ∧ l ≤ h ∧ h ≤ s.length then some (.pv (.sl ((s.take h).drop l))) else none
    | _, _, _ => none
  | _, _ => none

/-- 's[:0:0]': nothing of it, and no room. -/
def aslice0 (C : Ctx) (t : TypeId) (x : AV) (lo hi : Option AV) (m : AV) : Option AV :=
  match C.tk t, x with
  | some (.slice e), .pv (.sl _) => match C.ti e, bnd lo 0, bnd hi 1, nat? m with
    | some _, some l, some h, some k => if l = 0 ∧ h = 0 ∧ k = 0 then some (.own (some e) []) else none
    | _, _, _, _ => none
  | _, _ => none

def afieldAddr (C : Ctx) (t : TypeId) (x : AV) (f : Nat) : Option AV :=
  match C.tk t with
  | some (.struct fs) => match fs[f]? with
    | some (off, ft) => match C.ti ft with
      | some i => if i.size = 0 then none else match x with
        | .ptr o p => some (.ptr o (p + off))
        | .view cs => if off ≤ cs.length then some (.view (cs.drop off)) else none
        | _ => none
      | none => none
    | none => none
  | _ => none

def part (i : TI) (cs : List AV) (off : Nat) : Option AV :=
  if i.k.isAgg then (if off + i.size ≤ cs.length then some (.agg ((cs.drop off).take i.size)) else none)
  else (cs.drop off).head?

def afield (C : Ctx) (t : TypeId) (x : AV) (f : Nat) : Option AV :=
  match C.tk t, x with
  | some (.struct fs), .agg cs => match fs[f]? with
    | some (off, ft) => match C.ti ft with
      | some i => part i cs off
      | none => none
    | none => none
  | _, _ => none

def aindexAddr (C : Ctx) (t : TypeId) (x i : AV) : Option AV :=
  match C.tk t, x, nat? i with
  | some (.slice e), .pv (.sl l), some n => match C.ti e, l[n]? with
    | some ei, some p => if p.cells.length = ei.size then some (.view p.cells) else none
    | _, _ => none
  | some (.array m e), .ptr o off, some n => match C.ti e with
    | some ei => if n < m then some (.ptr o (off + n * ei.size)) else none
    | none => none
  | some (.array m e), .view cs, some n => match C.ti e with
    | some ei => if n < m ∧ n * ei.size ≤ cs.length then some (.view (cs.drop (n * ei.size))) else none
    | none => none
  | _, _, _ => none

def aindex (C : Ctx) (t : TypeId) (x i : AV) : Option AV :=
  match C.tk t, x, nat? i with
  | some .str, .pv (.str s), some n => match s[n]? with
    | some b => pint .u8 b.toNat
    | none => none
  | some (.array m e), .agg cs, some n => match C.ti e with
    | some ei => if n < m then part ei cs (n * ei.size) else none
    | none => none
  | _, _, _ => none

def aextract (x : AV) (i : Nat) : Option AV :=
  match x with
  | .tup cs => cs[i]?
  | _ => none

/-- Whole bytes. -/
def bytes? : List PV → Option (List UInt8)
  | [] => some []
  | .int .u8 n :: r => (bytes? r).map (UInt8.ofNat n.toNat :: ·)
  | _ :: _ => none

def encB (s : List UInt8) : List PV := s.map fun b => .int .u8 b.toNat

def aconvP (C : Ctx) (src dst : TypeId) (x : AV) : Option AV :=
  match C.tk src, C.tk dst, x with
  | some _, some (.int k), .pv (.int _ n) => pint k (k.wrap n)
  | some _, some .str, .pv (.str s) => some (.pv (.str s))
  | some (.slice e), some .str, .pv (.sl l) => match C.tk e with
    | some (.int .u8) => (bytes? l).map fun s => .pv (.str s)
    | _ => none
  | _, _, _ => none

/-- A conversion to a slice of bytes: of a text: in new memory; of what is one already: it may be a constant's. -/
def aconvE (C : Ctx) (src dst : TypeId) (x : AV) : Option AV :=
  match C.tk src, C.tk dst, x with
  | some _, some (.slice e), .pv (.str s) => match C.tk e with
    | some (.int .u8) => some (.pv (.sl (encB s)))
    | _ => none
  | some (.slice e), some (.slice e'), .own (some e'') l => match C.tk e with
    | some (.int .u8) => if src = dst ∧ e = e' ∧ e = e'' ∧ l ≠ [] then some (.pv (.sl l)) else none
    | _ => none
  | _, _, _ => none

def isSlice (C : Ctx) (t : TypeId) : Bool :=
  match C.tk t with
  | some (.slice _) => true
  | _ => false

def aconvert (C : Ctx) (src dst : TypeId) (x : AV) : Option AV :=
  if isSlice C dst then aconvE C src dst x else aconvP C src dst x.down

/-- A type's zero value as an element. -/
def zeroPV (i : TI) : Option PV :=
  match AV.toPVs i.zero with
  | some ps => if i.k.isAgg then some (.agg ps) else ps.head?
  | none => none

def aappend (C : Ctx) (ts : Array TypeId) (x y : AV) : Option AV :=
  match ts[0]?, ts[1]?, x with
  | some t, some u, .own e' l => match C.tk t, C.tk u with
    | some (.slice e), some uk => match C.ti e with
      | some ei =>
        if 0 < ei.size ∧ 0 < ei.bytes ∧ (e' = none ∧ l = [] ∨ e' = some e) then
          (match uk, y with
          | .slice _, .pv (.sl m) => if t = u ∧ fits ei.size m ∧ (l.length + m.length) * ei.bytes ≤ 2 ^ 46 then some (.own (some e) (l ++ m)) else none
          | _, _ => none)
        else none
      | none => none
    | _, _ => none
  | _, _, _ => none

def alen (C : Ctx) (ts : Array TypeId) (x : AV) : Option AV :=
  match ts[0]? with
  | some t => match C.tk t, x with
    | some .str, .pv (.str s) => pint .i64 s.length
    | some (.slice _), .pv (.sl l) => pint .i64 l.length
    | some (.array n _), _ => pint .i64 n
    | _, _ => none
  | none => none

def aminmax (max : Bool) (xs : List AV) : Option AV :=
  match xs with
  | [.pv (.int k a), .pv (.int j b)] => if k = j then pint k (if max then (if a < b then b else a) else (if b < a then b else a)) else none
  | _ => none

/-- All but calls of Go functions: the result, and what the variables hold then. -/
def aop (C : Ctx) (f : FuncId) (t : List AV) (h : H) (o : Oper) : Option (AV × H) :=
  let s := see C t
  let v (x : Option AV) : Option (AV × H) := x.map fun a => (a, h)
  match o.op with
  | .move x => match o.dst with
    | some d => if C.pol.take f d then v (some (aval C t x)) else v (some (s x))
    | none => v (some (s x))
  | .assign x => v (some (aval C t x))
  | .pick c a b => match s c with
    | .pv (.bool true) => v (some (s a))
    | .pv (.bool false) => v (some (s b))
    | _ => none
  | .alloc ty => (C.ti ty).map fun i => (.ptr h.length 0, h ++ [i.zero])
  | .box _ x => ((aval C t x).downN.cells?).map fun cs => (.ptr h.length 0, h ++ [cs])
  | .build ty ps => v (abuild C ty (ps.toList.map fun p => (p.1, (aval C t p.2).downN)))
  | .buildSlice ty n ps => v (abuildSlice C ty n (ps.toList.map fun p => (p.1, s p.2)))
  | .load ty x => match o.dst, s x with
    | some d, .ptr p off => if C.pol.take f d && isSlice C ty then
        (match h[p]? with
        | some cs => match cs[off]? with
          | some a => some (a, h.set p (cs.set off a.down))
          | none => none
        | none => none)
      else v (aload C h ty (s x))
    | _, _ => v (aload C h ty (s x))
  | .store ty x y => (astore C h ty (s x) (aval C t y)).map fun h' => (.tup [], h')
  | .nilCheck x => match s x with
    | .ptr p off => v (some (.ptr p off))
    | .view cs => v (some (.view cs))
    | .fn g caps => v (some (.fn g caps))
    | _ => none
  | .binOp op ty x y _ => v (abin C op ty (s x) (s y))
  | .unOp op _ x => v (aun op (s x))
  | .convert a b x => v (aconvert C a b (aval C t x))
  | .makeFunc (.func g) first caps => if first.size = 0 then v (some (.fn g (caps.toList.map fun x => s x))) else none
  | .slice ty x lo hi none => v (aslice C ty (s x) (lo.map s) (hi.map s))
  | .slice ty x lo hi (some m) => v (aslice0 C ty (s x) (lo.map s) (hi.map s) (s m))
  | .fieldAddr ty x i => v (afieldAddr C ty (s x) i)
  | .field ty x i => v (afield C ty (s x) i)
  | .indexAddr ty x i => v (aindexAddr C ty (s x) (s i))
  | .index ty x i => v (aindex C ty (s x) (s i))
  | .extract x i => v (aextract (s x) i)
  | .call c => match c.callee, c.args.toList with
    | .builtin .append, [x, y] => if c.argTypes.size = 2 then v (aappend C c.argTypes (aval C t x) (s y)) else none
    | .builtin .len, [x] => v (alen C c.argTypes (s x))
    | .builtin .min, [x, y] => v (aminmax false [s x, s y])
    | .builtin .max, [x, y] => v (aminmax true [s x, s y])
    | _, _ => none
  | _ => none

/-- Whose ownership goes on to the result, or into memory. -/
def consumed (C : Ctx) (f : FuncId) (o : Oper) : Option Tmp :=
  match o.op with
  | .move x => match o.dst with
    | some d => if C.pol.take f d then Operand.tmp? x else none
    | none => none
  | .assign x => Operand.tmp? x
  | .store _ _ x => Operand.tmp? x
  | .convert _ _ x => Operand.tmp? x
  | .call c => match c.callee, c.args.toList with
    | .builtin .append, [x, _] => Operand.tmp? x
    | _, _ => none
  | _ => none

inductive AExit where
  | normal
  | exit (id : Nat)
  | ret
  deriving DecidableEq, Inhabited

/-- Is an operation done? -/
def aguard (ops : Array Oper) (t : List AV) (o : Oper) : Option Bool :=
  match o.guard with
  | none => some true
  | some (j, want) => match (ops[j]?).bind (·.dst) with
    | some d => match t.getD d .any with
      | .pv (.bool b) => some (b == want)
      | .tup [] => some false
      | _ => none
    | none => none

abbrev ACall := FuncId → List AV → H → Option (AV × H × List Nat)

/-- Which variable does an operation write that calls nothing? -/
def owr (C : Ctx) (f : FuncId) (t : List AV) (o : Oper) : List Nat :=
  match o.op with
  | .store _ x _ => match see C t x with
    | .ptr p _ => [p]
    | _ => []
  | .load ty x => match see C t x, o.dst with
    | .ptr p _, some d => if C.pol.take f d && isSlice C ty then [p] else []
    | _, _ => []
  | _ => []

/-- Arguments: all but one are only lent. -/
def aargs (C : Ctx) (t : List AV) (own : Option Nat) : Nat → List Operand → List AV
  | _, [] => []
  | i, x :: r => (if own = some i then aval C t x else (aval C t x).deep) :: aargs C t own (i + 1) r

def ownTmp (own : Option Nat) (xs : List Operand) : Option Tmp :=
  match own with
  | some i => (xs[i]?).bind Operand.tmp?
  | none => none

def astep (C : Ctx) (call : ACall) (f : FuncId) (o : Oper) (s : AS) : Option AS :=
  match aop C f s.t s.h o with
  | some (r, h') => some ⟨putT (downT s.t (consumed C f o)) o.dst r, h', owr C f s.t o ++ s.wr⟩
  | none => match o.op with
    | .call c => match c.callee with
      | .value g => match see C s.t g with
        | .fn k caps =>
          match call k (aargs C s.t (C.pol.ownArg k) 0 c.args.toList ++ caps) s.h with
          | some (r, h', L) => some ⟨putT (downT s.t (ownTmp (C.pol.ownArg k) c.args.toList)) o.dst r, h', L ++ s.wr⟩
          | none => none
        | _ => none
      | _ => none
    | _ => none

def aops (C : Ctx) (call : ACall) (f : FuncId) (ops : Array Oper) : List Oper → AS → Option AS
  | [], s => some s
  | o :: r, s => match aguard ops s.t o with
    | some true => match astep C call f o s with
      | some s' => aops C call f ops r s'
      | none => none
    | some false => aops C call f ops r ⟨putT s.t o.dst (.tup []), s.h, s.wr⟩
    | none => none

/-! ### Regions of open order -/

/-- What an operation does with memory. -/
inductive Fp where
  | pure
  | rd (p off n : Nat)
  | wr (p off n : Nat)
  | al (p : Nat)
  | cc (l : List Nat) (n m : Nat)
  | eff
  deriving DecidableEq

mutual
def okA (n : Nat) : AV → Bool
  | .ptr o _ => decide (o < n)
  | .agg cs => okAs n cs
  | .tup cs => okAs n cs
  | .fn _ cs => okAs n cs
  | .iface _ v => okA n v
  | _ => true
def okAs (n : Nat) : List AV → Bool
  | [] => true
  | a :: r => okA n a && okAs n r
end

def okH (n : Nat) : H → Bool
  | [] => true
  | c :: r => okAs n c && okH n r

def fpOf (C : Ctx) (f : FuncId) (t : List AV) (h : H) (o : Oper) (h' : H) (L : List Nat) : Fp :=
  match o.op with
  | .load ty x => match see C t x, C.ti ty, o.dst with
    | .ptr p off, some i, some d => if C.pol.take f d && isSlice C ty then .wr p off 1 else .rd p off i.size
    | .ptr _ _, _, _ => .eff
    | _, _, _ => .pure
  | .store ty x _ => match see C t x, C.ti ty with
    | .ptr p off, some i => .wr p off i.size
    | _, _ => .eff
  | .alloc _ | .box .. => .al h.length
  | .call c => match c.callee with
    | .builtin _ => .pure
    | _ => if h.length ≤ h'.length && (okAs h.length t && okH h.length h) then .cc L h.length h'.length else .eff
  | _ => .pure

def apartR (p off n q off' m : Nat) : Bool := p != q || decide (off + n ≤ off') || decide (off' + m ≤ off)

/-- May the second one be done ahead of the first one? -/
def compat : Fp → Fp → Bool
  | .pure, _ | _, .pure => true
  | .rd .., .rd .. => true
  | .rd p _ _, .cc l n _ | .cc l n _, .rd p _ _ => decide (p < n) && !l.contains p
  | .cc l n m, .cc l' n' m' => l.isEmpty && l'.isEmpty && n == m && n' == m'
  | .rd p a n, .wr q b m | .wr p a n, .rd q b m | .wr p a n, .wr q b m => apartR p a n q b m
  | .rd p _ _, .al q | .wr p _ _, .al q => p != q
  | .al q, .rd p _ _ | .al q, .wr p _ _ => p != q
  | .cc _ n m, .al _ => n == m
  | _, _ => false

def opTmps (o : Oper) : List Tmp := o.op.operands.toList.filterMap Operand.tmp?

def gTmp (ops : Array Oper) (o : Oper) : List Tmp :=
  match o.guard with
  | some (j, _) => ((ops[j]?).bind (·.dst)).toList
  | none => []

def conT (C : Ctx) (f : FuncId) (o : Oper) : List Tmp :=
  match o.op with
  | .call c => match c.callee with
    | .value (.func k) => (ownTmp (C.pol.ownArg k) c.args.toList).toList
    | .builtin _ => (consumed C f o).toList
    | _ => opTmps o
  | _ => (consumed C f o).toList

def wrT (C : Ctx) (f : FuncId) (o : Oper) : List Tmp := o.dst.toList ++ conT C f o
def rdT (ops : Array Oper) (o : Oper) : List Tmp := opTmps o ++ gTmp ops o

def disj (a b : List Tmp) : Bool := a.all fun x => !b.contains x

/-- Do two operations leave each other's temporaries alone? -/
def tindep (C : Ctx) (f : FuncId) (ops : Array Oper) (x y : Oper) : Bool :=
  disj (wrT C f x) (rdT ops y) && disj (wrT C f x) (wrT C f y) && disj (wrT C f y) (rdT ops x)

/-- The text's order, with what each operation does with memory. -/
def adops (C : Ctx) (call : ACall) (f : FuncId) (ops : Array Oper) : List Oper → AS → Option (AS × List Fp)
  | [], s => some (s, [])
  | o :: r, s => match aguard ops s.t o with
    | some true => match astep C call f o ⟨s.t, s.h, []⟩ with
      | some s' => match adops C call f ops r ⟨s'.t, s'.h, s'.wr ++ s.wr⟩ with
        | some (s2, l) => some (s2, fpOf C f s.t s.h o s'.h s'.wr :: l)
        | none => none
      | none => none
    | some false => match adops C call f ops r ⟨putT s.t o.dst (.tup []), s.h, s.wr⟩ with
      | some (s2, l) => some (s2, .pure :: l)
      | none => none
    | none => none

/-- Which operations one must wait for, directly or through others: a set as a number. -/
def bef1 (acc : List Nat) : List Edge → Nat
  | [] => 0
  | e :: r => if Region.binds .any e then 2 ^ e.on ||| acc.getD e.on 0 ||| bef1 acc r else bef1 acc r

def force {α : Type} (n : Nat) (k : Nat → α) : α := match n with | 0 => k 0 | m + 1 => k (m + 1)

def befs : List Oper → List Nat → List Nat
  | [], acc => acc
  | o :: r, acc => force (bef1 acc o.after.toList) fun v => befs r (acc ++ [v])

/-- Nobody waits for a later one. -/
def edgesOk : Nat → List Oper → Bool
  | _, [] => true
  | j, o :: r => o.after.all (fun e => !Region.binds .any e || decide (e.on < j)) && edgesOk (j + 1) r

/-- One operation and those behind it. -/
def drawOk1 (C : Ctx) (f : FuncId) (ops : Array Oper) (b : List Nat) (i : Nat) (x : Oper) (p : Fp) : Nat → List Oper → List Fp → Bool
  | _, [], _ => true
  | _, _ :: _, [] => false
  | j, y :: r, q :: l => ((b.getD j 0).testBit i || tindep C f ops x y && compat p q) && drawOk1 C f ops b i x p (j + 1) r l

def drawOkL (C : Ctx) (f : FuncId) (ops : Array Oper) (b : List Nat) : Nat → List Oper → List Fp → Bool
  | _, [], _ => true
  | _, _ :: _, [] => false
  | i, x :: r, p :: l => drawOk1 C f ops b i x p (i + 1) r l && drawOkL C f ops b (i + 1) r l

/-- Each pair of which neither must wait for the other: in either order the same. -/
def drawOk (C : Ctx) (f : FuncId) (ops : Array Oper) (fps : List Fp) : Bool :=
  Region.noSelect ops && edgesOk 0 ops.toList && drawOkL C f ops (befs ops.toList []) 0 ops.toList fps

/-! ### Code -/

/-- Variables of the call's own that nobody knows any more fall away. -/
def trunc (n : Nat) (t : List AV) (h : H) : H :=
  if okAs n t && okH n (h.take n) then h.take n else h

def keepOnly (live : List Tmp) : Nat → List AV → List AV
  | _, [] => []
  | i, a :: r => (if live.contains i then a else .any) :: keepOnly live (i + 1) r

def cleanS (live : Option (List Tmp × List Nat)) (n : Nat) (s : AS) : AS :=
  match live with
  | some (l, W) => let t := keepOnly l 0 s.t; ⟨t, trunc n t s.h, if s.wr.all W.contains then W else s.wr⟩
  | none => s

def aiter (body : AS → Option (AExit × AS)) (clean cleanX : AS → AS) : Nat → AS → Option (AExit × AS)
  | 0, _ => none
  | n + 1, s => match body (clean s) with
    | some (.normal, s') => aiter body clean cleanX n s'
    | some (.exit i, s') => some (.exit i, cleanX s')
    | some (.ret, s') => some (.ret, cleanX s')
    | none => none

/-- The number of a code's first region. -/
def firstRegion : Code → Nat
  | .region id _ _ => id
  | .seq a _ => firstRegion a
  | .block _ c => firstRegion c
  | .loop c => firstRegion c
  | _ => 0

def aexec (C : Ctx) (call : ACall) (f : FuncId) (n : Nat) : Code → AS → Option (AExit × AS)
  | .skip, s => some (.normal, s)
  | .region _ ops draw, s => if draw then
      (match adops C call f ops ops.toList s with
      | some (s', fps) => if drawOk C f ops fps then some (.normal, s') else none
      | none => none)
    else match aops C call f ops ops.toList s with
    | some s' => some (.normal, s')
    | none => none
  | .seq a b, s => match aexec C call f n a s with
    | some (.normal, s') => aexec C call f n b s'
    | r => r
  | .cond c a b, s => match see C s.t c with
    | .pv (.bool true) => aexec C call f n a s
    | .pv (.bool false) => aexec C call f n b s
    | _ => none
  | .block id c, s => match aexec C call f n c s with
    | some (.exit i, s') => if i = id then some (.normal, s') else some (.exit i, s')
    | r => r
  | .loop c, s => aiter (aexec C call f n c) (cleanS ((C.pol.live f (firstRegion c)).map fun x => (x.1, x.2.2)) s.h.length) (cleanS ((C.pol.live f (firstRegion c)).map fun x => (x.2.1, x.2.2)) s.h.length) n s
  | .scope c, s => aexec C call f n c s
  | .label _, s => some (.normal, s)
  | .exit id, s => some (.exit id, s)
  | .ret, s => some (.ret, s)
  | _, _ => none

def aresult (C : Ctx) (s : AS) : ResultVar → Option AV
  | .tmp i => some (s.t.getD i .any)
  | .cell i ty => aload C s.h ty (s.t.getD i .any)

def aresults (C : Ctx) (s : AS) : List ResultVar → Option (List AV)
  | [] => some []
  | x :: r => match aresult C s x, aresults C s r with
    | some a, some l => some (a :: l)
    | _, _ => none

def single : List AV → AV
  | [.agg cs] => .agg (cs.map .down)
  | [a] => a
  | l => .tup (l.map .deep)

def abody (C : Ctx) (call : ACall) (n : Nat) (f : FuncId) (args : List AV) (h : H) : Option (AV × H × List Nat) :=
  match C.P.funcs[f]? with
  | some fn => match fn.body with
    | some c => match aexec C call f n c ⟨args ++ List.replicate (fn.ntmps - args.length) .any, h, []⟩ with
      | some (.exit _, _) => none
      | some (_, s) => match aresults C s fn.results.toList with
        | some l => some (single l, trunc h.length [single l] s.h, s.wr.filter fun p => decide (p < h.length))
        | none => none
      | none => none
    | none => none
  | none => none

end Go.AM
