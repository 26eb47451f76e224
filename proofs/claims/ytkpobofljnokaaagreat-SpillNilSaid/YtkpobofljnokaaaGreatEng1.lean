/- The engine, first part: an abstract interpreter of the model's code, made for the kernel: values whose addresses are names of blocks, a heap of such blocks, and the run of a function from them. Nothing is proved here. -/
import Derived.Test.YtkpobofljnokaaaGreatEng0
namespace Go.Eng

/-! ### Maps from numbers -/
inductive PM (α : Type) where
  | e
  | n (l : PM α) (v : Option α) (r : PM α)

def PM.get {α : Type} : PM α → Nat → Option α
  | .e, _ => none
  | .n l v r, k => match k with
    | 0 => v
    | k' + 1 => match Nat.beq (k' % 2) 0 with
      | true => l.get (k' / 2)
      | false => r.get (k' / 2)

def PM.setd {α : Type} (x : Option α) : Nat → PM α → Nat → PM α
  | 0, _, _ => .e
  | d + 1, t, k =>
    match t with
    | .e => match k with
      | 0 => .n .e x .e
      | k' + 1 => match Nat.beq (k' % 2) 0 with
        | true => .n (PM.setd x d .e (k' / 2)) none .e
        | false => .n .e none (PM.setd x d .e (k' / 2))
    | .n l v r => match k with
      | 0 => .n l x r
      | k' + 1 => match Nat.beq (k' % 2) 0 with
        | true => .n (PM.setd x d l (k' / 2)) v r
        | false => .n l v (PM.setd x d r (k' / 2))

/-- A key that is too far empties the map: nothing is then known of it. -/
def PM.set {α : Type} (t : PM α) (k : Nat) (x : Option α) : PM α :=
  match Nat.blt k 1073741823 with
  | true => PM.setd x 32 t k
  | false => .e

def nth {α : Type} : List α → Nat → Option α
  | [], _ => none
  | a :: l, i => match i with
    | 0 => some a
    | i + 1 => nth l i

/-! ### Values -/
inductive ACap where
  | ex (n : Nat)
  | el (i : Nat)

inductive AVal where
  | bool (b : Bool)
  | int (k : IntKind) (n : Int)
  | sint (k : IntKind) (t : Tm)
  | str (s : List Nat)
  | ptr (b o : Nat)
  | nilPtr
  | slice (b o len : Nat) (cap : ACap)
  | nilSlice
  | map (r : Nat)
  | nilMap
  | func (f : FuncId) (first captured : List AVal)
  | yield (l : Nat)
  | nilFunc
  | iface (t : TypeId) (v : AVal)
  | nilIface
  | agg (l : List AVal)
  | tuple (l : List AVal)
  | ref (r j : Nat)
  | eptr (r j z : Nat) (i : Tm) (c : Nat)
  deriving Inhabited

structure AEnt where
  key : AVal
  val : AVal
  born : Nat

/-- What a cell of a row holds. -/
inductive Shp where
  | num (k : IntKind)
  | bool
  | sl (row : List Shp)

/-- A slice that is known by its data: of which rows; the data; is there no room behind it? -/
structure PComp where
  sh : List Shp
  t : Tm
  full : Bool

inductive ABlk where
  | cells (l : List AVal) (w : Bool) (sz : Nat)
  | map (es : List AEnt) (clock : Nat)
  | miter (m : Option Nat) (since : Nat) (seen : List Nat) (stepped : Nat)
  | siter (s : List Nat) (pos : Nat)
  | loop (st : LoopState) (pend : Option Code) (n : Nat) (tm : PM AVal) (params : List Tmp) (asg body : Code) (dfr : Nat)
  | dfr (opn : Bool)
  | pack (l : List PComp) (own : Bool)
  | obj (tag : Nat) (t : Tm) (m : Bool)

structure AH where
  next : Nat
  m : PM ABlk

structure Env where
  n : Nat
  m : PM AVal
  marks : List Nat
  inr : Bool

inductive Ext where
  | mapsClone
  | add64

/-- What is known of a function by other means: its value, and the heap that it leaves. -/
abbrev Known := List Fact → List AVal → AH → Option (AVal × AH)

structure Cfg where
  P : Program
  ty : PM TypeInfo
  fn : PM Func
  ext : List (Nat × Ext)
  gam : List Fact
  sum : List (Nat × Known)

def Cfg.info (K : Cfg) (t : TypeId) : Option TypeInfo := K.ty.get t

def undB (K : Cfg) : Option TypeInfo → Option TypeDesc
  | some i => match i.desc with
    | .named _ u => match K.ty.get u with
      | some j => some j.desc
      | none => none
    | d => some d
  | none => none

def Cfg.und (K : Cfg) (t : TypeId) : Option TypeDesc := undB K (K.ty.get t)

def AVal.undef : AVal := .tuple []

def AVal.cells : AVal → List AVal
  | .agg l => l
  | v => [v]

def AVal.isCell : AVal → Bool
  | .agg _ => false
  | .tuple _ => false
  | _ => true

/-! ### Small functions for the kernel -/
def optAll {α β : Type} (f : α → Option β) : List α → Option (List β)
  | [] => some []
  | a :: l => match f a with
    | some b => match optAll f l with
      | some r => some (b :: r)
      | none => none
    | none => none

def allB {α : Type} (f : α → Bool) : List α → Bool
  | [] => true
  | a :: l => match f a with
    | true => allB f l
    | false => false

def ofValue : Nat → Value → Option AVal
  | 0, _ => none
  | d + 1, v => match v with
    | .bool b => some (.bool b)
    | .int k n => some (.int k n)
    | .string s => some (.str (s.data.toList.map UInt8.toNat))
    | .pointer none => some .nilPtr
    | .slice none 0 0 => some .nilSlice
    | .map none => some .nilMap
    | .func (.func f) first captured => match first.toList, captured.toList with
      | [], [] => some (.func f [] [])
      | _, _ => none
    | .nilFunc => some .nilFunc
    | .nilIface => some .nilIface
    | .agg cs => match optAll (ofValue d) cs.toList with
      | some l => some (.agg l)
      | none => none
    | .tuple cs => match optAll (ofValue d) cs.toList with
      | some l => some (.tuple l)
      | none => none
    | _ => none

def opd (m : PM AVal) : Operand → Option AVal
  | .tmp t => m.get t
  | .const v => ofValue 8 v
  | .global _ => none
  | .func f => some (.func f [] [])

def beq2 : Bool → Bool → Bool
  | true, true => true
  | false, false => true
  | _, _ => false

def ile : Int → Int → Bool
  | .ofNat a, .ofNat b => Nat.ble a b
  | .negSucc _, .ofNat _ => true
  | .ofNat _, .negSucc _ => false
  | .negSucc a, .negSucc b => Nat.ble b a

def ieq : Int → Int → Bool
  | .ofNat a, .ofNat b => Nat.beq a b
  | .negSucc a, .negSucc b => Nat.beq a b
  | _, _ => false

def keq : IntKind → IntKind → Bool
  | .i8, .i8 | .i16, .i16 | .i32, .i32 | .i64, .i64 | .u8, .u8 | .u16, .u16 | .u32, .u32 | .u64, .u64 => true
  | _, _ => false

/-- 2 to the bits, 2 to the bits less one. -/
def full : IntKind → Nat
  | .i8 | .u8 => 256
  | .i16 | .u16 => 65536
  | .i32 | .u32 => 4294967296
  | .i64 | .u64 => 18446744073709551616
def half : IntKind → Nat
  | .i8 | .u8 => 128
  | .i16 | .u16 => 32768
  | .i32 | .u32 => 2147483648
  | .i64 | .u64 => 9223372036854775808
def sgn : IntKind → Bool
  | .i8 | .i16 | .i32 | .i64 => true
  | _ => false
def nbits : IntKind → Nat
  | .i8 | .u8 => 8
  | .i16 | .u16 => 16
  | .i32 | .u32 => 32
  | .i64 | .u64 => 64

/-- The wrap, quickly. -/
def fwrap (k : IntKind) (n : Int) : Int :=
  match n with
  | .ofNat m => match sgn k with
    | true => match Nat.blt m (half k) with
      | true => .ofNat m
      | false => k.wrap n
    | false => .ofNat (m % full k)
  | .negSucc m => match sgn k with
    | true => match Nat.blt m (half k) with
      | true => .negSucc m
      | false => k.wrap n
    | false => match Nat.blt m (full k) with
      | true => .ofNat (full k - 1 - m)
      | false => k.wrap n

def quoB (k : IntKind) : Int → Int → Option AVal
  | .ofNat a, .ofNat (b + 1) => some (.int k (fwrap k (.ofNat (a / (b + 1)))))
  | .negSucc a, .ofNat (b + 1) => some (.int k (fwrap k (-(.ofNat ((a + 1) / (b + 1))))))
  | _, _ => none
def remB (k : IntKind) : Int → Int → Option AVal
  | .ofNat a, .ofNat (b + 1) => some (.int k (.ofNat (a % (b + 1))))
  | _, _ => none
def bitsB (f : Nat → Nat → Nat) (k : IntKind) : Int → Int → Option AVal
  | .ofNat a, .ofNat b => match Nat.blt a (full k), Nat.blt b (full k) with
    | true, true => some (.int k (fwrap k (.ofNat (f a b))))
    | _, _ => none
  | _, _ => none
def andNotN (a b : Nat) : Nat := Nat.xor a (Nat.land a b)

/-- A binary operation on two numbers of a kind. -/
def intOp (op : BinOp) (k : IntKind) (x y : Int) : Option AVal :=
  match op with
  | .add => some (.int k (fwrap k (x + y)))
  | .sub => some (.int k (fwrap k (x - y)))
  | .mul => some (.int k (fwrap k (x * y)))
  | .quo => quoB k x y
  | .rem => remB k x y
  | .and => bitsB Nat.land k x y
  | .or => bitsB Nat.lor k x y
  | .xor => bitsB Nat.xor k x y
  | .andNot => bitsB andNotN k x y
  | .eql => some (.bool (ieq x y))
  | .neq => some (.bool (!(ieq x y)))
  | .lss => some (.bool (!(ile y x)))
  | .leq => some (.bool (ile x y))
  | .gtr => some (.bool (!(ile x y)))
  | .geq => some (.bool (ile y x))
  | _ => none

def minN (b n : Nat) : Nat :=
  match Nat.ble b n with
  | true => b
  | false => n

def shiftOp (op : BinOp) (k : IntKind) (x y : Int) : Option AVal :=
  match x, y with
  | .ofNat a, .ofNat b => match op with
    | .shl => some (.int k (fwrap k (.ofNat (Nat.shiftLeft a (minN b (nbits k))))))
    | .shr => some (.int k (.ofNat (Nat.shiftRight a (minN b (nbits k)))))
    | _ => none
  | _, _ => none

def leq : List Nat → List Nat → Bool
  | [], [] => true
  | a :: x, b :: y => match Nat.beq a b with
    | true => leq x y
    | false => false
  | _, _ => false

def lls : List Nat → List Nat → Bool
  | _, [] => false
  | [], _ :: _ => true
  | a :: x, b :: y => match Nat.blt a b with
    | true => true
    | false => match Nat.beq a b with
      | true => lls x y
      | false => false

def strOK (s : List Nat) : Bool := allB (fun b => Nat.blt b 256) s

def strCmp (op : BinOp) (x y : List Nat) : Option AVal :=
  match op with
  | .eql => some (.bool (leq x y))
  | .neq => some (.bool (!(leq x y)))
  | .lss => some (.bool (lls x y))
  | .leq => some (.bool (lls x y || leq x y))
  | .gtr => some (.bool (!(lls x y || leq x y)))
  | .geq => some (.bool (!(lls x y)))
  | _ => none

def strOp (op : BinOp) (x y : List Nat) : Option AVal :=
  match op with
  | .add => match Nat.blt (x.length + y.length) 1000000000 with
    | true => some (.str (x ++ y))
    | false => none
  | op => match strOK x, strOK y with
    | true, true => strCmp op x y
    | _, _ => none

def leqS (x y : List Nat) : Option Bool :=
  match strOK x, strOK y with
  | true, true => some (leq x y)
  | _, _ => none

/-! ### Types -/
def aggB (K : Cfg) (t : TypeId) : Option Bool :=
  match K.und t with
  | some (.struct _) => some true
  | some (.array _ _) => some true
  | some _ => some false
  | none => none

def szB (K : Cfg) (t : TypeId) : Option Nat :=
  match K.info t with
  | some i => some i.size
  | none => none

def zeroB (K : Cfg) (t : TypeId) : Option AVal :=
  match K.info t with
  | some i => match i.zero with
    | some v => ofValue 8 v
    | none => none
  | none => none

/-- A part of a struct's or an array's cells. -/
def partB (K : Cfg) (t : TypeId) (cs : List AVal) (off : Nat) : Option AVal :=
  match aggB K t with
  | some true => match szB K t with
    | some n => some (.agg ((cs.drop off).take n))
    | none => none
  | some false => nth cs off
  | none => none

def eqParts (K : Cfg) (eq : TypeId → AVal → AVal → Option Bool) (xs ys : List AVal) : List (TypeId × Nat) → Option Bool
  | [] => some true
  | (t, off) :: l => match partB K t xs off, partB K t ys off with
    | some a, some b => match eq t a b with
      | some true => eqParts K eq xs ys l
      | some false => some false
      | none => none
    | _, _ => none

def arrParts (e z : Nat) : Nat → Nat → List (TypeId × Nat)
  | 0, _ => []
  | n + 1, i => (e, i * z) :: arrParts e z n (i + 1)

def fldParts : List Field → List (TypeId × Nat)
  | [] => []
  | f :: l => match f.name == "_" with
    | true => fldParts l
    | false => (f.type, f.offset) :: fldParts l

def eqSym2 (g : List Fact) (k k' : IntKind) (a b : Tm) : Option Bool :=
  match keq k k' with
  | true => cmpT g .eql a b
  | false => none
def eqSym (g : List Fact) (k : IntKind) (a : Tm) : AVal → Option Bool
  | .int k' n => eqSym2 g k k' a (.lit n)
  | .sint k' b => eqSym2 g k k' a b
  | _ => none

/-- The equality of two values of a type. -/
def eqB (K : Cfg) : Nat → TypeId → AVal → AVal → Option Bool
  | 0, _, _, _ => none
  | d + 1, t, x, y =>
    match K.und t, x, y with
    | some .bool, .bool a, .bool b => some (beq2 a b)
    | some (.int _), .int k a, .int k' b => match keq k k' with
      | true => some (ieq a b)
      | false => none
    | some (.int _), .sint k a, y => eqSym K.gam k a y
    | some (.int _), .int k a, .sint k' b => eqSym K.gam k (.lit a) (.sint k' b)
    | some .string, .str a, .str b => leqS a b
    | some (.pointer _), .nilPtr, .nilPtr => some true
    | some (.pointer _), .nilPtr, .ptr _ _ => some false
    | some (.pointer _), .ptr _ _, .nilPtr => some false
    | some (.interface _), .nilIface, .iface _ _ => some false
    | some (.interface _), .iface _ _, .nilIface => some false
    | some (.slice _), .nilSlice, .nilSlice => some true
    | some (.slice _), .nilSlice, .slice _ _ _ _ => some false
    | some (.slice _), .slice _ _ _ _, .nilSlice => some false
    | some (.map _ _), .nilMap, .nilMap => some true
    | some (.map _ _), .nilMap, .map _ => some false
    | some (.map _ _), .map _, .nilMap => some false
    | some (.func _ _ _), .nilFunc, .nilFunc => some true
    | some (.func _ _ _), .nilFunc, .func _ _ _ => some false
    | some (.func _ _ _), .func _ _ _, .nilFunc => some false
    | some (.array n e), .agg xs, .agg ys => match szB K e with
      | some z => eqParts K (eqB K d) xs ys (arrParts e z n 0)
      | none => none
    | some (.struct fs), .agg xs, .agg ys => match K.P.stoodInHeld t with
      | false => eqParts K (eqB K d) xs ys (fldParts fs.toList)
      | true => none
    | _, _, _ => none

/-! ### Symbols -/
def isShift : BinOp → Bool
  | .shl => true
  | .shr => true
  | _ => false
def isEq : BinOp → Bool
  | .eql => true
  | .neq => true
  | _ => false

def eqV : Option Bool → Bool → Option AVal
  | some b, false => some (.bool b)
  | some b, true => some (.bool (!b))
  | none, _ => none

def P_eqGuard (K : Cfg) (t : TypeId) : Bool := K.P.eqGuardType K.P.depth t

def binInt (op : BinOp) (k k' : IntKind) (a b : Int) : Option AVal :=
  match isShift op with
  | true => shiftOp op k a b
  | false => match keq k k' with
    | true => intOp op k a b
    | false => none

def boolB : Option Bool → Option AVal
  | some b => some (.bool b)
  | none => none

/-- A sum, a difference, a product: bare, where it is known to be of its kind. -/
def arithT (g : List Fact) (op : BinOp) (o : BOp) (k : IntKind) (a b : Tm) : AVal :=
  match known (.rng k (.op o [a, b])) g with
  | true => .sint k (.op o [a, b])
  | false => .sint k (.op (.bin op k) [a, b])

def nonzT (g : List Fact) : Tm → Bool
  | .lit (.ofNat (_ + 1)) => true
  | t => known (.ne t (.lit 0)) g

def divT (g : List Fact) (op : BinOp) (k : IntKind) (a b : Tm) : Option AVal :=
  match nonzT g b with
  | true => some (.sint k (.op (.bin op k) [a, b]))
  | false => none

def symOp (g : List Fact) (op : BinOp) (k : IntKind) (a b : Tm) : Option AVal :=
  match op with
  | .add => some (arithT g .add .add k a b)
  | .sub => some (arithT g .sub .sub k a b)
  | .mul => some (arithT g .mul .mul k a b)
  | .quo => divT g .quo k a b
  | .rem => divT g .rem k a b
  | .and => some (.sint k (.op (.bin .and k) [a, b]))
  | .or => some (.sint k (.op (.bin .or k) [a, b]))
  | .xor => some (.sint k (.op (.bin .xor k) [a, b]))
  | .andNot => some (.sint k (.op (.bin .andNot k) [a, b]))
  | op => boolB (cmpT g op a b)

def nonnT (g : List Fact) : Tm → Bool
  | .lit (.ofNat _) => true
  | t => known (.le (.lit 0) t) g

def symShift (g : List Fact) (op : BinOp) (k : IntKind) (a b : Tm) : Option AVal :=
  match nonnT g b with
  | true => some (.sint k (.op (.bin op k) [a, b]))
  | false => none

def binSym (g : List Fact) (op : BinOp) (k k' : IntKind) (a b : Tm) : Option AVal :=
  match isShift op with
  | true => symShift g op k a b
  | false => match keq k k' with
    | true => symOp g op k a b
    | false => none

def binEq (K : Cfg) (op : BinOp) (t : TypeId) (x y : AVal) : Option AVal :=
  match op with
  | .eql => eqV (eqB K 6 t x y) false
  | .neq => eqV (eqB K 6 t x y) true
  | _ => none

def binAgg (K : Cfg) (op : BinOp) (t : TypeId) (x y : AVal) : Option AVal :=
  match P_eqGuard K t with
  | false => binEq K op t x y
  | true => none

def binB (K : Cfg) (op : BinOp) (t : TypeId) (x y : AVal) : Option AVal :=
  match x, y with
  | .int k a, .int k' b => binInt op k k' a b
  | .str a, .str b => strOp op a b
  | .sint k a, .int k' n => binSym K.gam op k k' a (.lit n)
  | .int k n, .sint k' b => binSym K.gam op k k' (.lit n) b
  | .agg a, .agg b => binAgg K op t (.agg a) (.agg b)
  | .nilIface, .nilIface => none
  | .sint k a, .sint k' b => binSym K.gam op k k' a b
  | x, y => binEq K op t x y

def unB (g : List Fact) (op : UnOp) (x : AVal) : Option AVal :=
  match op, x with
  | .neg, .int k n => some (.int k (fwrap k (0 - n)))
  | .neg, .sint k a => some (arithT g .sub .sub k (.lit 0) a)
  | .xor, .int k n => match sgn k, n with
    | false, .ofNat a => match Nat.blt a (full k) with
      | true => some (.int k (.ofNat (full k - 1 - a)))
      | false => none
    | _, _ => none
  | .not, .bool b => some (.bool (!b))
  | _, _ => none

/-! ### Slices that are known by their data -/
def tmOf : AVal → Option (IntKind × Tm)
  | .int k n => some (k, .lit n)
  | .sint k t => some (k, t)
  | _ => none

def compAt (H : AH) (r j : Nat) : Option (PComp × Bool) :=
  match H.m.get r with
  | some (.pack l own) => match nth l j with
    | some c => some (c, own)
    | none => none
  | _ => none

def lenT (t : Tm) : Tm := .op .len [t]

/-- Is a term a place among so many? -/
def idxT (g : List Fact) (i t : Tm) : Bool :=
  match nonnT g i with
  | true => known (.lt i (lenT t)) g
  | false => false

def atT (t i : Tm) (c : Nat) : Tm := .op (.at c) [t, i]

/-- A bool that data tell. -/
def boolT (g : List Fact) (t : Tm) : Option Bool :=
  match known (.eq t (.lit 1)) g with
  | true => some true
  | false => match known (.eq t (.lit 0)) g with
    | true => some false
    | false => none

/-- A row's cells, from a place on: their values; slices among them are parts of a new block. -/
def cellsT (g : List Fact) (id : Nat) (t i : Tm) : List Shp → Nat → Nat → Option (List AVal × List PComp)
  | [], _, _ => some ([], [])
  | s :: l, c, m => match s with
    | .num k => match cellsT g id t i l (c + 1) m with
      | some (vs, ps) => some (.sint k (atT t i c) :: vs, ps)
      | none => none
    | .bool => match boolT g (atT t i c), cellsT g id t i l (c + 1) m with
      | some b, some (vs, ps) => some (.bool b :: vs, ps)
      | _, _ => none
    | .sl row => match cellsT g id t i l (c + 1) (m + 1) with
      | some (vs, ps) => some (.ref id m :: vs, ⟨row, atT t i c, false⟩ :: ps)
      | none => none

/-- Cells of an element: the element's own row ends where they do, or behind them. -/
def elemT (K : Cfg) (id : Nat) (c : PComp) (z : Nat) (i : Tm) (o n : Nat) : Option (List AVal × List PComp) :=
  match Nat.beq z c.sh.length, idxT K.gam i c.t, Nat.ble (o + n) z with
  | true, true, true => cellsT K.gam id c.t i ((c.sh.drop o).take n) o 0
  | _, _, _ => none

def elemAt (K : Cfg) (H : AH) (id r j z : Nat) (i : Tm) (o n : Nat) : Option (List AVal × List PComp) :=
  match compAt H r j with
  | some (c, _) => elemT K id c z i o n
  | none => none

def packB (own : Bool) : List PComp → Option ABlk
  | [] => none
  | l => some (.pack l own)

/-! ### Operations that change nothing -/
def cellsAt (H : AH) (b : Nat) : Option (List AVal × Bool × Nat) :=
  match H.m.get b with
  | some (.cells l w z) => some (l, w, z)
  | _ => none

def bytesOf : List AVal → Option (List Nat)
  | [] => some []
  | .int .u8 (.ofNat n) :: l => match Nat.blt n 256 with
    | true => match bytesOf l with
      | some r => some (n :: r)
      | none => none
    | false => none
  | _ => none

def strOf : Option (List Nat) → Option AVal
  | some s => some (.str s)
  | none => none

def convBytes (H : AH) : AVal → Option AVal
  | .nilSlice => some (.str [])
  | .slice b o len _ => match cellsAt H b with
    | some (l, _, _) => match Nat.ble (o + len) l.length with
      | true => strOf (bytesOf ((l.drop o).take len))
      | false => none
    | none => none
  | _ => none

def isU8 : Option TypeDesc → Bool
  | some (.int .u8) => true
  | _ => false

def convSame (H : AH) (src dst b o n : Nat) (c : ACap) : Option AVal :=
  match Nat.beq src dst, cellsAt H b with
  | true, some (_, true, _) => some (.slice b o n c)
  | _, _ => none

def wrapT (g : List Fact) (k : IntKind) (a : Tm) : Tm :=
  match known (.rng k a) g with
  | true => a
  | false => .op (.wrap k) [a]

def convB (K : Cfg) (H : AH) (src dst : TypeId) (x : AVal) : Option AVal :=
  match K.und src, K.und dst, x with
  | some _, some (.int k), .int _ n => some (.int k (fwrap k n))
  | some _, some (.int k), .sint _ a => some (.sint k (wrapT K.gam k a))
  | some .string, some .string, .str s => some (.str s)
  | some (.slice _), some (.slice e), .slice b o n c => match isU8 (K.und e) with
    | true => convSame H src dst b o n c
    | false => none
  | some (.slice e), some .string, x => match isU8 (K.und e) with
    | true => convBytes H x
    | false => none
  | _, _, _ => none

def natOf : AVal → Option Nat
  | .int _ (.ofNat n) => some n
  | _ => none

/-! The bounds of a slice, of what has len elements, and room for cap (so many at least). -/
def boundB (y : Nat) (v : AVal) : Option Nat :=
  match natOf v with
  | some m => match Nat.ble m y with
    | true => some m
    | false => none
  | none => none

def topB (cap : Nat) : Option AVal → Option Nat
  | some v => boundB cap v
  | none => some cap

def highB (len m : Nat) : Option AVal → Option AVal → Option Nat
  | some v, _ => boundB m v
  | none, none => some len
  | none, some _ => none

def lowB (h : Nat) : Option AVal → Option Nat
  | some v => boundB h v
  | none => some 0

def bounds2 (m : Nat) (lo : Option AVal) : Option Nat → Option (Nat × Nat × Nat)
  | some h => match lowB h lo with
    | some l => some (l, h, m)
    | none => none
  | none => none

def boundsB (len : Nat) (cap : Nat) (lo hi mx : Option AVal) : Option (Nat × Nat × Nat) :=
  match topB cap mx with
  | some m => bounds2 m lo (highB len m hi mx)
  | none => none

/-- A slice whose room is known. -/
def sliceEx (b o z : Nat) : Option (Nat × Nat × Nat) → Option AVal
  | some (l, h, m) => match Nat.beq m l with
    | true => some (.slice b o (h - l) (.ex (m - l)))
    | false => some (.slice b (o + l * z) (h - l) (.ex (m - l)))
  | none => none

def sliceEl (id b o z i l h : Nat) : AVal :=
  match l with
  | 0 => .slice b o h (.el i)
  | l + 1 => match Nat.beq h (l + 1) with
    | true => .slice id 0 0 (.el 0)
    | false => .slice b (o + (l + 1) * z) (h - (l + 1)) (.el (i + (l + 1)))

def sliceEl2 (id b o z i known : Nat) : Option (Nat × Nat × Nat) → Option AVal
  | some (l, h, _) => match Nat.ble h known with
    | true => some (sliceEl id b o z i l h)
    | false => none
  | none => none

/-- One whose room isn't known: so many elements are known. -/
def sliceEl1 (id b o z i known len : Nat) (lo hi mx : Option AVal) : Option AVal :=
  match mx with
  | some v => sliceEx b o z (boundsB len known lo hi (some v))
  | none => sliceEl2 id b o z i known (boundsB len known lo hi none)

def sliceElB (H : AH) (id b o len i : Nat) (lo hi mx : Option AVal) : Option Nat → Option AVal
  | some (z + 1) => match cellsAt H b with
    | some (cs, _, z') => match Nat.beq (z + 1) z' with
      | true => sliceEl1 id b o (z + 1) i (cs.length / (z + 1) - i) len lo hi mx
      | false => none
    | none => none
  | _ => none

def sliceStr (s : List Nat) : Option (Nat × Nat × Nat) → Option AVal
  | some (l, h, _) => some (.str ((s.drop l).take (h - l)))
  | none => none

def sliceNil : Option (Nat × Nat × Nat) → Option Nat → Option AVal
  | some _, some _ => some .nilSlice
  | _, _ => none

def sliceZ (b o : Nat) (q : Option (Nat × Nat × Nat)) : Option Nat → Option AVal
  | some z => sliceEx b o z q
  | none => none

/-- A slice of a slice, a string, or an array's address; 'id' is the name of the block that a slice without elements, whose place isn't known, is given. -/
def sliceB (K : Cfg) (H : AH) (id : Nat) (t : TypeId) (x : AVal) (lo hi mx : Option AVal) : Option AVal :=
  match K.und t, x with
  | some (.array n e), .ptr b o => sliceZ b o (boundsB n n lo hi mx) (szB K e)
  | some .string, .str s => match mx with
    | some _ => none
    | none => sliceStr s (boundsB s.length s.length lo hi none)
  | some (.slice e), .nilSlice => sliceNil (boundsB 0 0 lo hi mx) (szB K e)
  | some (.slice e), .slice b o len (.ex c) => sliceZ b o (boundsB len c lo hi mx) (szB K e)
  | some (.slice e), .slice b o len (.el i) => sliceElB H id b o len i lo hi mx (szB K e)
  | _, _ => none

def keyEq : AVal → AVal → Option Bool
  | .int k a, .int k' b => match keq k k' with
    | true => some (ieq a b)
    | false => none
  | .str a, .str b => leqS a b
  | .bool a, .bool b => some (beq2 a b)
  | _, _ => none

/-- Does a value suit a key's type of the plain kinds? -/
def keyFits1 (K : Cfg) (t : TypeId) (k : AVal) : Bool :=
  match K.und t, k with
  | some (.int k), .int k' _ => keq k' k
  | some .string, .str _ => true
  | some .bool, .bool _ => true
  | _, _ => false

def keyFits (K : Cfg) (t : TypeId) (k : AVal) : Bool := keyFits1 K t k

def findB (k : AVal) : List AEnt → Nat → Option (Option (Nat × AEnt))
  | [], _ => some none
  | e :: es, i => match keyEq k e.key with
    | some true => some (some (i, e))
    | some false => findB k es (i + 1)
    | none => none

def mapAt (H : AH) (r : Nat) : Option (List AEnt × Nat) :=
  match H.m.get r with
  | some (.map es c) => some (es, c)
  | _ => none

def mapEnts (H : AH) : AVal → Option (List AEnt)
  | .nilMap => some []
  | .map r => match mapAt H r with
    | some (es, _) => some es
    | none => none
  | _ => none

def okB (ok : Bool) (b : Bool) (v : AVal) : AVal :=
  match ok with
  | true => .tuple [v, .bool b]
  | false => v

def lookF (K : Cfg) (et : TypeId) (ok : Bool) : Option (Option (Nat × AEnt)) → Option AVal
  | some (some (_, e)) => some (okB ok true e.val)
  | some none => match zeroB K et with
    | some z => some (okB ok false z)
    | none => none
  | none => none

def lookE (K : Cfg) (et : TypeId) (ok : Bool) (k : AVal) : Option (List AEnt) → Option AVal
  | some es => lookF K et ok (findB k es 0)
  | none => none

def lookupB (K : Cfg) (H : AH) (t : TypeId) (x k : AVal) (ok : Bool) : Option AVal :=
  match K.und t with
  | some (.map kt et) => match keyFits K kt k with
    | true => lookE K et ok k (mapEnts H x)
    | false => none
  | _ => none

def fillB (place : Nat → Option (Nat × Nat)) (cells : List AVal) : List (Nat × AVal) → Option (List AVal)
  | [] => some cells
  | (i, v) :: rest => match place i with
    | none => none
    | some (off, size) => match Nat.beq v.cells.length size, Nat.ble (off + size) cells.length with
      | true, true => fillB place (cells.take off ++ v.cells ++ cells.drop (off + size)) rest
      | _, _ => none

def partsB (ρ : Operand → Option AVal) : List (Nat × Operand) → Option (List (Nat × AVal))
  | [] => some []
  | (i, x) :: l => match ρ x with
    | some v => match partsB ρ l with
      | some r => some ((i, v) :: r)
      | none => none
    | none => none

def placesB (K : Cfg) : List Field → Option (List (Nat × Nat))
  | [] => some []
  | f :: l => match szB K f.type with
    | some s => match placesB K l with
      | some r => some ((f.offset, s) :: r)
      | none => none
    | none => none

def buildB (K : Cfg) (ρ : Operand → Option AVal) (t : TypeId) (parts : List (Nat × Operand)) : Option AVal :=
  match zeroB K t, partsB ρ parts with
  | some z, some ps => match K.und t with
    | some (.struct fs) => match placesB K fs.toList with
      | some pl => match fillB (nth pl) z.cells ps with
        | some cs => some (.agg cs)
        | none => none
      | none => none
    | some (.array _ e) => match szB K e with
      | some s => match fillB (fun i => some (i * s, s)) z.cells ps with
        | some cs => some (.agg cs)
        | none => none
      | none => none
    | _ => none
  | _, _ => none

def lenB (K : Cfg) (H : AH) (t : TypeId) (x : AVal) : Option AVal :=
  match K.und t, x with
  | some .string, .str s => some (.int .i64 (.ofNat s.length))
  | some (.array n _), _ => some (.int .i64 (.ofNat n))
  | some (.pointer a), _ => match K.und a with
    | some (.array n _) => some (.int .i64 (.ofNat n))
    | _ => none
  | some (.slice _), .slice _ _ n _ => some (.int .i64 (.ofNat n))
  | some (.slice _), .nilSlice => some (.int .i64 (.ofNat 0))
  | some (.slice _), .ref r j => match compAt H r j with
    | some (c, _) => some (.sint .i64 (lenT c.t))
    | none => none
  | some (.map _ _), .nilMap => some (.int .i64 (.ofNat 0))
  | some (.map _ _), .map r => match mapAt H r with
    | some (es, _) => some (.int .i64 (.ofNat es.length))
    | none => none
  | _, _ => none

def pickT (x y : AVal) : Option Bool → Option AVal
  | some true => some x
  | some false => some y
  | none => none

def maxS (g : List Fact) (k k' : IntKind) (a b : Tm) (x y : AVal) : Option AVal :=
  match keq k k' with
  | true => pickT x y (cmpT g .geq a b)
  | false => none
def minS (g : List Fact) (k k' : IntKind) (a b : Tm) (x y : AVal) : Option AVal :=
  match keq k k' with
  | true => pickT x y (cmpT g .leq a b)
  | false => none

def maxB (K : Cfg) : AVal → AVal → Option AVal
  | .int k x, .int k' y => match keq k k' with
    | true => some (.int k (match ile y x with | true => x | false => y))
    | false => none
  | .sint k a, .int k' n => maxS K.gam k k' a (.lit n) (.sint k a) (.int k' n)
  | .int k n, .sint k' b => maxS K.gam k k' (.lit n) b (.int k n) (.sint k' b)
  | .sint k a, .sint k' b => maxS K.gam k k' a b (.sint k a) (.sint k' b)
  | _, _ => none
def minB (K : Cfg) : AVal → AVal → Option AVal
  | .int k x, .int k' y => match keq k k' with
    | true => some (.int k (match ile x y with | true => x | false => y))
    | false => none
  | .sint k a, .int k' n => minS K.gam k k' a (.lit n) (.sint k a) (.int k' n)
  | .int k n, .sint k' b => minS K.gam k k' (.lit n) b (.int k n) (.sint k' b)
  | .sint k a, .sint k' b => minS K.gam k k' a b (.sint k a) (.sint k' b)
  | _, _ => none

def foldB (f : AVal → AVal → Option AVal) : AVal → List AVal → Option AVal
  | x, [] => some x
  | x, y :: l => match f x y with
    | some z => foldB f z l
    | none => none

def fieldB (K : Cfg) (s : TypeId) (f : Nat) : Option Field :=
  match K.und s with
  | some (.struct fs) => nth fs.toList f
  | _ => none

def backL : List Nat → Option Nat
  | [] => none
  | [a] => some a
  | _ :: l => backL l

def bornB (n : Nat) : List AEnt → Option AEnt
  | [] => none
  | e :: l => match Nat.beq e.born n with
    | true => some e
    | false => bornB n l

def optOpd (ρ : Operand → Option AVal) : Option Operand → Option (Option AVal)
  | none => some none
  | some x => match ρ x with
    | some v => some (some v)
    | none => none

/-! The value of an operation that changes nothing, kind by kind (each a function of its own: the kernel lays a function's whole body at each call). -/
def vPick (ρ : Operand → Option AVal) (c a b : Operand) : Option AVal :=
  match ρ c with
  | some (.bool true) => ρ a
  | some (.bool false) => ρ b
  | _ => none

/-- What a variable of a type holds. -/
def loadB (K : Cfg) (H : AH) (t : TypeId) (b o : Nat) : Option AVal :=
  match cellsAt H b with
  | some (l, _, _) => match aggB K t, szB K t with
    | some true, some n => match Nat.ble (o + n) l.length with
      | true => some (.agg ((l.drop o).take n))
      | false => none
    | some false, some _ => nth l o
    | _, _ => none
  | none => none

def vLoad (K : Cfg) (H : AH) (t : TypeId) : Option AVal → Option AVal
  | some (.ptr b o) => loadB K H t b o
  | _ => none

def loadE (K : Cfg) (H : AH) (id : Nat) (t : TypeId) (r j z : Nat) (i : Tm) (o : Nat) : Option (Bool × List AVal × List PComp) :=
  match aggB K t, szB K t with
  | some true, some n => match elemAt K H id r j z i o n with
    | some (l, ps) => some (true, l, ps)
    | none => none
  | some false, some 1 => match elemAt K H id r j z i o 1 with
    | some (l, ps) => some (false, l, ps)
    | none => none
  | _, _ => none

def vElem : Option (Bool × List AVal × List PComp) → Option AVal
  | some (true, l, _) => some (.agg l)
  | some (false, [v], _) => some v
  | _ => none

def bElem : Option (Bool × List AVal × List PComp) → Option (Option ABlk)
  | some (_, _, ps) => some (packB false ps)
  | none => none

def vLoad2 (K : Cfg) (H : AH) (id : Nat) (t : TypeId) : Option AVal → Option AVal
  | some (.eptr r j z i o) => vElem (loadE K H id t r j z i o)
  | x => vLoad K H t x

def bLoad (K : Cfg) (H : AH) (id : Nat) (t : TypeId) : Option AVal → Option (Option ABlk)
  | some (.eptr r j z i o) => bElem (loadE K H id t r j z i o)
  | _ => some none

def vNil : Option AVal → Option AVal
  | some .nilPtr => none
  | some .nilIface => none
  | some .nilFunc => none
  | v => v

def vBin (K : Cfg) (op : BinOp) (t : TypeId) : Option AVal → Option AVal → Option AVal
  | some a, some b => binB K op t a b
  | _, _ => none

/-- A slice that has elements isn't nil. -/
def someT (g : List Fact) : Option (PComp × Bool) → Bool
  | some (c, _) => known (.lt (.lit 0) (lenT c.t)) g || known (.le (.lit 1) (lenT c.t)) g
  | none => false

def isSliceD : Option TypeDesc → Bool
  | some (.slice _) => true
  | _ => false

def vBin2 (K : Cfg) (H : AH) (op : BinOp) (t : TypeId) (x y : Option AVal) : Option AVal :=
  match x, y with
  | some (.ref r j), some .nilSlice => match isSliceD (K.und t), someT K.gam (compAt H r j) with
    | true, true => match op with
      | .eql => some (.bool false)
      | .neq => some (.bool true)
      | _ => none
    | _, _ => none
  | x, y => vBin K op t x y

def vUn (g : List Fact) (op : UnOp) : Option AVal → Option AVal
  | some a => unB g op a
  | none => none

def vConv (K : Cfg) (H : AH) (s d : TypeId) : Option AVal → Option AVal
  | some a => convB K H s d a
  | none => none

def vIface (K : Cfg) (t : TypeId) (x : Option AVal) : Option AVal :=
  match K.und t with
  | some (.interface _) => none
  | none => none
  | some _ => match x with
    | some v => some (.iface t v)
    | none => none

def vFunc (ρ : Operand → Option AVal) (f : FuncId) (first captured : Array Operand) : Option AVal :=
  match optAll ρ first.toList, optAll ρ captured.toList with
  | some a, some b => some (.func f a b)
  | _, _ => none

def vMakeFunc (ρ : Operand → Option AVal) (fn : Fn) (first captured : Array Operand) : Option AVal :=
  match fn with
  | .func f => vFunc ρ f first captured
  | _ => none

def vMakeMap (K : Cfg) (id : Nat) (ρ : Operand → Option AVal) (t : TypeId) : Option Operand → Option AVal
  | none => some (.map id)
  | some h => match K.und t, ρ h with
    | some (.map _ _), some (.int _ _) => some (.map id)
    | _, _ => none

/-- The form of a type's cells. -/
def shpFields (f : TypeId → Option (List Shp)) : List Field → Option (List Shp)
  | [] => some []
  | x :: l => match f x.type, shpFields f l with
    | some a, some b => some (a ++ b)
    | _, _ => none

def shpOf (K : Cfg) : Nat → TypeId → Option (List Shp)
  | 0, _ => none
  | d + 1, t => match K.und t with
    | some (.int k) => some [.num k]
    | some .bool => some [.bool]
    | some (.slice e) => match shpOf K d e with
      | some r => some [.sl r]
      | none => none
    | some (.struct fs) => shpFields (shpOf K d) fs.toList
    | _ => none

def zeroOK1 : Shp → AVal → Bool
  | .num k, .int k' (.ofNat 0) => keq k k'
  | .bool, .bool false => true
  | .sl _, .nilSlice => true
  | _, _ => false
def zeroOK : List Shp → List AVal → Bool
  | [], [] => true
  | s :: ss, v :: vs => match zeroOK1 s v with
    | true => zeroOK ss vs
    | false => false
  | _, _ => false

def zeroDat : List Shp → List Dat
  | [] => []
  | .sl _ :: l => .a [] :: zeroDat l
  | _ :: l => .n 0 :: zeroDat l

def madeT (g : List Fact) (i : TypeInfo) (n : Tm) (sh : List Shp) (z : AVal) : Option PComp :=
  match Nat.beq z.cells.length i.size, zeroOK sh z.cells, Nat.ble i.bytes 65536, nonnT g n, known (.le n (.lit 1000000)) g with
  | true, true, true, true, true => some ⟨sh, .op (.zeros (zeroDat sh)) [n], true⟩
  | _, _, _, _, _ => none

def madeE (K : Cfg) (e : TypeId) (n : Tm) : Option PComp :=
  match K.info e, shpOf K 6 e, zeroB K e with
  | some i, some sh, some z => madeT K.gam i n sh z
  | _, _, _ => none

/-- A slice made of so many zeros. -/
def makeT (K : Cfg) (t : TypeId) : Option AVal → Option AVal → Option PComp
  | some (.sint .i64 n), some (.sint .i64 m) => match teq n m, K.und t with
    | true, some (.slice e) => madeE K e n
    | _, _ => none
  | _, _ => none

def vMakeSlice (id : Nat) : Option AVal → Option AVal → Option AVal
  | some (.int .i64 (.ofNat a)), some (.int .i64 (.ofNat b)) => some (.slice id 0 a (.ex b))
  | _, _ => none

def vSlice (K : Cfg) (H : AH) (id : Nat) (t : TypeId) : Option AVal → Option (Option AVal) → Option (Option AVal) → Option (Option AVal) → Option AVal
  | some v, some a, some b, some c => sliceB K H id t v a b c
  | _, _, _, _ => none

/-! A part of a slice that is known by its data, and isn't the caller's own. -/
def bndT : Tm → Option AVal → Option Tm
  | d, none => some d
  | _, some v => match tmOf v with
    | some (_, t) => some t
    | none => none

def leT (g : List Fact) (a b : Tm) : Bool :=
  match teq a b with
  | true => true
  | false => known (.le a b) g

def partT (t lo hi : Tm) (whole : Bool) : Tm :=
  match whole with
  | true => t
  | false => .op .sl [t, lo, hi]

def isL0 : Tm → Bool
  | .lit (.ofNat 0) => true
  | _ => false

/-- The part's data, and is there no room behind it? -/
def cutT (g : List Fact) (c : PComp) (lo hi : Tm) : Option AVal → Option PComp
  | none => match nonnT g lo, leT g lo hi, leT g hi (lenT c.t) with
    | true, true, true => some ⟨c.sh, partT c.t lo hi (match isL0 lo with | true => teq hi (lenT c.t) | false => false), false⟩
    | _, _, _ => none
  | some m => match tmOf m, nonnT g lo, leT g lo hi, leT g hi (lenT c.t) with
    | some (_, m'), true, true, true => match teq m' hi with
      | true => some ⟨c.sh, partT c.t lo hi (match isL0 lo with | true => teq hi (lenT c.t) | false => false), true⟩
      | false => none
    | _, _, _, _ => none

def cut1 (g : List Fact) (c : PComp) (mx : Option AVal) : Option Tm → Option Tm → Option PComp
  | some lo, some hi => cutT g c lo hi mx
  | _, _ => none

def maxOK : Option AVal → Option AVal → Bool
  | some _, none => false
  | _, _ => true

def cutB (K : Cfg) (t : TypeId) (lo hi mx : Option AVal) : Option (PComp × Bool) → Option PComp
  | some (c, false) => match K.und t with
    | some (.slice e) => match szB K e with
      | some (z + 1) => match Nat.beq (z + 1) c.sh.length, maxOK mx hi with
        | true, true => cut1 K.gam c mx (bndT (.lit 0) lo) (bndT (lenT c.t) hi)
        | _, _ => none
      | _ => none
    | _ => none
  | _ => none

def cutOf (K : Cfg) (H : AH) (t : TypeId) (r j : Nat) : Option (Option AVal) → Option (Option AVal) → Option (Option AVal) → Option PComp
  | some a, some b, some c => cutB K t a b c (compAt H r j)
  | _, _, _ => none

def vMake (id : Nat) (x y : Option AVal) : Option PComp → Option AVal
  | some _ => some (.ref id 0)
  | none => vMakeSlice id x y
def bOwn : Option PComp → Option (Option ABlk)
  | some c => some (some (.pack [c] true))
  | none => none

def vCut (id : Nat) : Option PComp → Option AVal
  | some _ => some (.ref id 0)
  | none => none
def bCut : Option PComp → Option (Option ABlk)
  | some c => some (some (.pack [c] false))
  | none => none

def vSlice2 (K : Cfg) (H : AH) (id : Nat) (t : TypeId) (x : Option AVal) (a b c : Option (Option AVal)) : Option AVal :=
  match x with
  | some (.ref r j) => vCut id (cutOf K H t r j a b c)
  | x => vSlice K H id t x a b c

def vFieldAddr (K : Cfg) (s : TypeId) (f : Nat) : Option AVal → Option AVal
  | some (.ptr b o) => match fieldB K s f with
    | some fd => match szB K fd.type with
      | some (_ + 1) => some (.ptr b (o + fd.offset))
      | _ => none
    | none => none
  | some (.eptr r j z i o) => match fieldB K s f with
    | some fd => match szB K fd.type with
      | some (_ + 1) => some (.eptr r j z i (o + fd.offset))
      | _ => none
    | none => none
  | _ => none

def vField (K : Cfg) (s : TypeId) (f : Nat) : Option AVal → Option AVal
  | some (.agg cs) => match fieldB K s f with
    | some fd => partB K fd.type cs fd.offset
    | none => none
  | _ => none

def idxAddr (K : Cfg) (t : TypeId) (x : Option AVal) (i : Nat) : Option AVal :=
  match K.und t, x with
  | some (.array n e), some (.ptr b o) => match Nat.blt i n, szB K e with
    | true, some z => some (.ptr b (o + i * z))
    | _, _ => none
  | some (.slice e), some (.slice b o n _) => match Nat.blt i n, szB K e with
    | true, some z => some (.ptr b (o + i * z))
    | _, _ => none
  | _, _ => none

def vIndexAddr (K : Cfg) (t : TypeId) (x : Option AVal) : Option AVal → Option AVal
  | some (.int _ (.ofNat i)) => idxAddr K t x i
  | _ => none

def idxE (K : Cfg) (t : TypeId) (r j : Nat) : Option (IntKind × Tm) → Option (PComp × Bool) → Option AVal
  | some (_, i), some (c, _) => match K.und t with
    | some (.slice e) => match szB K e, idxT K.gam i c.t with
      | some (z + 1), true => match Nat.beq (z + 1) c.sh.length with
        | true => some (.eptr r j (z + 1) i 0)
        | false => none
      | _, _ => none
    | _ => none
  | _, _ => none

def vIndexAddr2 (K : Cfg) (H : AH) (t : TypeId) (x ix : Option AVal) : Option AVal :=
  match x, ix with
  | some (.ref r j), some y => idxE K t r j (tmOf y) (compAt H r j)
  | x, ix => vIndexAddr K t x ix

def byteB : Option Nat → Option AVal
  | some b => match Nat.blt b 256 with
    | true => some (.int .u8 (.ofNat b))
    | false => none
  | none => none

def idxVal (K : Cfg) (t : TypeId) (x : Option AVal) (i : Nat) : Option AVal :=
  match K.und t, x with
  | some (.array n e), some (.agg cs) => match Nat.blt i n, szB K e with
    | true, some z => partB K e cs (i * z)
    | _, _ => none
  | some .string, some (.str s) => byteB (nth s i)
  | _, _ => none

def vIndex (K : Cfg) (t : TypeId) (x : Option AVal) : Option AVal → Option AVal
  | some (.int _ (.ofNat i)) => idxVal K t x i
  | _ => none

def vLookup (K : Cfg) (H : AH) (t : TypeId) (ok : Bool) : Option AVal → Option AVal → Option AVal
  | some a, some b => lookupB K H t a b ok
  | _, _ => none

def vAssert (K : Cfg) (t : TypeId) (ok : Bool) : Option AVal → Option AVal
  | some (.iface u v) => match K.und t with
    | some (.interface _) => none
    | none => none
    | some _ => match Nat.beq u t with
      | true => some (okB ok true v)
      | false => none
  | _ => none

def vExtract (i : Nat) : Option AVal → Option AVal
  | some (.tuple l) => nth l i
  | _ => none

def entB (seen : List Nat) (st : Nat) : Option (List AEnt × Nat) → Option AVal
  | some (es, c) => match backL seen, Nat.beq c st with
    | some s, true => match bornB s es with
      | some e => some (.tuple [e.key, e.val])
      | none => none
    | _, _ => none
  | none => none

def vEntry (H : AH) : Option AVal → Option AVal
  | some (.ptr r 0) => match H.m.get r with
    | some (.miter (some mm) _ seen st) => entB seen st (mapAt H mm)
    | _ => none
  | _ => none

def capB (K : Cfg) (t : TypeId) (x : AVal) : Option AVal :=
  match K.und t, x with
  | some (.slice _), .slice _ _ _ (.ex n) => some (.int .i64 (.ofNat n))
  | some (.slice _), .nilSlice => some (.int .i64 (.ofNat 0))
  | _, _ => none

def vLen (K : Cfg) (H : AH) : List TypeId → Option (List AVal) → Option AVal
  | [t], some [v] => lenB K H t v
  | _, _ => none
def vCap (K : Cfg) : List TypeId → Option (List AVal) → Option AVal
  | [t], some [v] => capB K t v
  | _, _ => none
def vFold (f : AVal → AVal → Option AVal) : Option (List AVal) → Option AVal
  | some (x :: l) => foldB f x l
  | _ => none

def vBuiltin (K : Cfg) (H : AH) (ts : List TypeId) (args : Option (List AVal)) : Builtin → Option AVal
  | .len => vLen K H ts args
  | .cap => vCap K ts args
  | .max => vFold (maxB K) args
  | .min => vFold (minB K) args
  | _ => none

def vCall (K : Cfg) (H : AH) (ρ : Operand → Option AVal) (c : Call) : Option AVal :=
  match c.callee with
  | .builtin b => vBuiltin K H c.argTypes.toList (optAll ρ c.args.toList) b
  | _ => none

/-- The value of an operation that changes nothing (but that it may make a block with the name 'id': 'blkB'). -/
def valB (K : Cfg) (H : AH) (id : Nat) (ρ : Operand → Option AVal) (o : Oper) : Option AVal :=
  match o.op with
  | .move x => ρ x
  | .assign x => ρ x
  | .pick c a b => vPick ρ c a b
  | .alloc _ => some (.ptr id 0)
  | .box _ _ => some (.ptr id 0)
  | .build t ps => buildB K ρ t ps.toList
  | .buildSlice _ n _ => some (.slice id 0 n (.ex n))
  | .load t a => vLoad2 K H id t (ρ a)
  | .nilCheck x => vNil (ρ x)
  | .binOp op t x y _ => vBin2 K H op t (ρ x) (ρ y)
  | .unOp op _ x => vUn K.gam op (ρ x)
  | .convert s d x => vConv K H s d (ρ x)
  | .makeInterface t x => vIface K t (ρ x)
  | .makeFunc fn first captured => vMakeFunc ρ fn first captured
  | .makeMap t h => vMakeMap K id ρ t h
  | .makeSlice t l c => vMake id (ρ l) (ρ c) (makeT K t (ρ l) (ρ c))
  | .slice t x lo hi mx => vSlice2 K H id t (ρ x) (optOpd ρ lo) (optOpd ρ hi) (optOpd ρ mx)
  | .fieldAddr s x f => vFieldAddr K s f (ρ x)
  | .field s x f => vField K s f (ρ x)
  | .indexAddr t x ix => vIndexAddr2 K H t (ρ x) (ρ ix)
  | .index t x ix => vIndex K t (ρ x) (ρ ix)
  | .lookup t x k ok => vLookup K H t ok (ρ x) (ρ k)
  | .typeAssert x _ t ok => vAssert K t ok (ρ x)
  | .extract x i => vExtract i (ρ x)
  | .entry it => vEntry H (ρ it)
  | .call c => vCall K H ρ c
  | _ => none

def zrep (z : List AVal) : Nat → List AVal
  | 0 => []
  | n + 1 => z ++ zrep z n

/-! The block that such an operation makes: 'some none': none. -/
def bAlloc : Option AVal → Option (Option ABlk)
  | some z => some (some (.cells z.cells true 0))
  | none => none

def bRow : Option (List AVal) → Option (Option ABlk)
  | some cs => some (some (.cells cs true 0))
  | none => none

def rowB (s n : Nat) (z : List AVal) (l : List (Nat × AVal)) : Option (List AVal) :=
  match Nat.beq z.length s, Nat.ble (n * s) 16777216 with
  | true, true => fillB (fun i => some (i * s, s)) (zrep z n) l
  | _, _ => none

def bRowOf (n : Nat) (l : List (Nat × AVal)) : Option Nat → Option AVal → Option (Option ABlk)
  | some s, some z => bRow (rowB s n z.cells l)
  | _, _ => none

def bBuildSlice (K : Cfg) (t : TypeId) (n : Nat) : Option (List (Nat × AVal)) → Option (Option ABlk)
  | some l => match K.und t with
    | some (.slice e) => bRowOf n l (szB K e) (zeroB K e)
    | _ => none
  | none => none

def bMade (l c : Nat) : Option TypeInfo → Option AVal → Option (Option ABlk)
  | some i, some z => match Nat.beq z.cells.length i.size, Nat.ble (i.bytes * c) 1000000000, Nat.blt c 1000000000, Nat.ble l c with
    | true, true, true, true => some (some (.cells (zrep z.cells c) true 0))
    | _, _, _, _ => none
  | _, _ => none

def bMakeSlice (K : Cfg) (t : TypeId) : AVal → Option (Option ABlk)
  | .slice _ _ l (.ex c) => match K.und t with
    | some (.slice e) => bMade l c (K.info e) (zeroB K e)
    | _ => none
  | _ => none

def bSlice (id : Nat) : AVal → Option (Option ABlk)
  | .slice b _ _ (.el 0) => match Nat.beq b id with
    | true => some (some (.cells [] false 0))
    | false => some none
  | _ => some none

def bMakeSlice2 (K : Cfg) (t : TypeId) (v : AVal) (x y : Option AVal) : Option (Option ABlk) :=
  match v with
  | .ref _ _ => bOwn (makeT K t x y)
  | v => bMakeSlice K t v

def bSlice2 (K : Cfg) (H : AH) (id : Nat) (t : TypeId) (v : AVal) (x : Option AVal) (a b c : Option (Option AVal)) : Option (Option ABlk) :=
  match x with
  | some (.ref r j) => bCut (cutOf K H t r j a b c)
  | _ => bSlice id v

def blkB (K : Cfg) (H : AH) (id : Nat) (ρ : Operand → Option AVal) (o : Oper) (v : AVal) : Option (Option ABlk) :=
  match o.op with
  | .alloc t => bAlloc (zeroB K t)
  | .box _ x => bAlloc (ρ x)
  | .buildSlice t n ps => bBuildSlice K t n (partsB ρ ps.toList)
  | .makeMap _ _ => some (some (.map [] 0))
  | .makeSlice t l c => bMakeSlice2 K t v (ρ l) (ρ c)
  | .slice t x lo hi mx => bSlice2 K H id t v (ρ x) (optOpd ρ lo) (optOpd ρ hi) (optOpd ρ mx)
  | .load t a => bLoad K H id t (ρ a)
  | _ => some none

/-! ### Operations that change the heap; calls -/
inductive Job where
  | code (c : Code) (e : Env)
  | call (f : FuncId) (args : List AVal)
  | round (l : Nat) (args : List AVal)

inductive AExit where
  | normal
  | exit (id : Nat)
  | ret

inductive Out where
  | done (x : AExit) (e : Env)
  | val (v : AVal)

def AH.alloc (H : AH) (b : ABlk) : AH := ⟨H.next + 1, H.m.set H.next (some b)⟩
def AH.put (H : AH) (id : Nat) (b : ABlk) : AH := ⟨H.next, H.m.set id (some b)⟩
def AH.drop (H : AH) (id : Nat) : AH := ⟨H.next, H.m.set id none⟩

/-- Cells written from a place on. -/
def splice (l : List AVal) (o : Nat) (vs : List AVal) : Option (List AVal) :=
  match Nat.ble (o + vs.length) l.length, allB AVal.isCell vs with
  | true, true => some (l.take o ++ vs ++ l.drop (o + vs.length))
  | _, _ => none

def storeB (H : AH) (b o : Nat) (vs : List AVal) : Option AH :=
  match H.m.get b with
  | some (.cells l true z) => match splice l o vs with
    | some l' => some (H.put b (.cells l' true z))
    | none => none
  | _ => none

/-- What is appended: its cells, how many elements. -/
def srcB (H : AH) (z : Nat) : AVal → Option (List AVal × Nat)
  | .nilSlice => some ([], 0)
  | .slice b o n _ => match n with
    | 0 => some ([], 0)
    | n + 1 => match cellsAt H b with
      | some (l, _, _) => match Nat.ble (o + (n + 1) * z) l.length with
        | true => some ((l.drop o).take ((n + 1) * z), n + 1)
        | false => none
      | none => none
  | _ => none

/-- A new array: of cells, of elements of z cells. -/
def grown (H : AH) (z : Nat) (cs : List AVal) (n : Nat) : AVal × AH :=
  (.slice H.next 0 n (.el 0), H.alloc (.cells cs true z))

def isIntD : TypeDesc → Bool
  | .int _ => true
  | _ => false

def zerosSrc (zv : List AVal) (n : Nat) : Option (List AVal × Nat) :=
  match Nat.blt n 1000000 with
  | true => some (zrep zv n, n)
  | false => none

def zerosOf (zv : List AVal) : AVal → Option (List AVal × Nat)
  | .int .i64 (.ofNat n) => zerosSrc zv n
  | _ => none

def appSrc (H : AH) (z : Nat) (zv : List AVal) (d1 : TypeDesc) (x : AVal) : Option (List AVal × Nat) :=
  match isIntD d1 with
  | true => zerosOf zv x
  | false => srcB H z x

def appGrow (H : AH) (z b o l : Nat) (cs : List AVal) (n : Nat) : Option (AVal × AH) :=
  match Nat.blt (l + n) 1000000, cellsAt H b with
  | true, some (old, _, _) => match Nat.ble (o + l * z) old.length with
    | true => some (grown H z ((old.drop o).take (l * z) ++ cs) (l + n))
    | false => none
  | _, _ => none

def appPut (H : AH) (z b o l : Nat) (cs : List AVal) (n : Nat) (c : ACap) : Option (AVal × AH) :=
  match storeB H b (o + l * z) cs with
  | some H' => some (.slice b o (l + n) c, H')
  | none => none

def appEx (H : AH) (z b o l c : Nat) (cs : List AVal) (n : Nat) : Option (AVal × AH) :=
  match Nat.ble (l + n) c with
  | true => appPut H z b o l cs n (.ex c)
  | false => match l with
    | 0 => match Nat.blt n 1000000 with
      | true => some (grown H z cs n)
      | false => none
    | l + 1 => appGrow H z b o (l + 1) cs n

def appEl (H : AH) (z b o l j : Nat) (cs : List AVal) (n : Nat) : Option (AVal × AH) :=
  match cellsAt H b with
  | some (old, true, z') => match Nat.beq z' z, Nat.ble ((j + l + n) * z) old.length with
    | true, true => appPut H z b o l cs n (.el j)
    | true, false => match Nat.ble (o + l * z) old.length, Nat.blt (l + n) 1000000, Nat.beq o (j * z) with
      | true, true, true => some (grown (H.drop b) z ((old.drop o).take (l * z) ++ cs) (l + n))
      | _, _, _ => none
    | _, _ => none
  | _ => none

def appTo (H : AH) (z : Nat) (cs : List AVal) (n : Nat) : AVal → Option (AVal × AH)
  | .nilSlice => match Nat.blt n 1000000 with
    | true => some (grown H z cs n)
    | false => none
  | .slice b o l (.ex c) => appEx H z b o l c cs n
  | .slice b o l (.el j) => appEl H z b o l j cs n
  | _ => none

def appNoneEl (H : AH) (z b o l j : Nat) : Option (AVal × AH) :=
  match cellsAt H b with
  | some (old, _, z') => match Nat.beq z' z, Nat.ble ((j + l) * z) old.length with
    | true, true => some (.slice b o l (.el j), H)
    | _, _ => none
  | none => none

/-- Nothing is appended. -/
def appNone (H : AH) (z : Nat) : AVal → Option (AVal × AH)
  | .nilSlice => some (.nilSlice, H)
  | .slice b o l (.ex c) => match Nat.ble l c with
    | true => some (.slice b o l (.ex c), H)
    | false => none
  | .slice b o 0 (.el j) => some (.slice b o 0 (.el j), H)
  | .slice b o (l + 1) (.el j) => appNoneEl H z b o (l + 1) j
  | _ => none

def app2 (H : AH) (z : Nat) (s : AVal) : Option (List AVal × Nat) → Option (AVal × AH)
  | some (cs, n) => match n, allB AVal.isCell cs with
    | 0, _ => appNone H z s
    | n + 1, true => appTo H z cs (n + 1) s
    | _, _ => none
  | none => none

def app1 (H : AH) (d1 : TypeDesc) (s x : AVal) : Option TypeInfo → Option AVal → Option (AVal × AH)
  | some i, some zv => match i.size, Nat.beq zv.cells.length i.size, Nat.ble i.bytes 65536 with
    | z + 1, true, true => app2 H (z + 1) s (appSrc H (z + 1) zv.cells d1 x)
    | _, _, _ => none
  | _, _ => none

/-! Appends to, or of, slices that are known by their data. -/
def isRef : AVal → Bool
  | .ref _ _ => true
  | _ => false

mutual
def shEq : Shp → Shp → Bool
  | .num k, .num k' => keq k k'
  | .bool, .bool => true
  | .sl l, .sl r => shEqs l r
  | _, _ => false
def shEqs : List Shp → List Shp → Bool
  | [], [] => true
  | a :: l, b :: r => match shEq a b with
    | true => shEqs l r
    | false => false
  | _, _ => false
end

def numTm (k : IntKind) : Option (IntKind × Tm) → Option Tm
  | some (k', t) => match keq k k' with
    | true => some t
    | false => none
  | none => none

def slTm (row : List Shp) : Option (PComp × Bool) → Option Tm
  | some (c, false) => match shEqs row c.sh with
    | true => some c.t
    | false => none
  | _ => none

/-- A cell's data. -/
def cellTm (H : AH) (s : Shp) (v : AVal) : Option Tm :=
  match s with
  | .num k => numTm k (tmOf v)
  | .bool => match v with
    | .bool true => some (.lit 1)
    | .bool false => some (.lit 0)
    | _ => none
  | .sl row => match v with
    | .ref r j => slTm row (compAt H r j)
    | .nilSlice => some (.op (.rows 0 0) [])
    | _ => none

def rowTm (H : AH) : List Shp → List AVal → Option (List Tm)
  | [], [] => some []
  | s :: ss, v :: vs => match cellTm H s v, rowTm H ss vs with
    | some t, some l => some (t :: l)
    | _, _ => none
  | _, _ => none

/-- So many rows' cells. -/
def rowsTm (H : AH) (sh : List Shp) : Nat → List AVal → Option (List Tm)
  | 0, [] => some []
  | 0, _ => none
  | n + 1, vs => match rowTm H sh (vs.take sh.length), rowsTm H sh n (vs.drop sh.length) with
    | some l, some r => some (l ++ r)
    | _, _ => none

def rowsSrc (H : AH) (sh : List Shp) (z : Nat) : Option (List AVal × Nat) → Option Tm
  | some (cs, n) => match rowsTm H sh n cs with
    | some l => some (.op (.rows n z) l)
    | none => none
  | none => none

/-- The data of what is appended. -/
def srcT (H : AH) (sh : List Shp) (z : Nat) : AVal → Option Tm
  | .ref r j => match compAt H r j with
    | some (c, _) => match shEqs sh c.sh with
      | true => some c.t
      | false => none
    | none => none
  | x => rowsSrc H sh z (srcB H z x)

def emptyT : Tm → Bool
  | .op .sl [_, lo, hi] => teq lo hi
  | .op (.rows 0 _) _ => true
  | _ => false

/-- To what is appended: its rows' form, its data; is it one's own, is there no room behind it; what is known no more then. -/
structure Dst where
  sh : List Shp
  t : Tm
  own : Bool
  full : Bool
  gone : Option Nat

def dstRef (r : Nat) : Option (PComp × Bool) → Option Dst
  | some (c, own) => some ⟨c.sh, c.t, own, c.full, match own with | true => some r | false => none⟩
  | none => none

def dstNil : AVal → AH → Option Dst
  | .ref r j, H => match compAt H r j with
    | some (c, _) => some ⟨c.sh, .op (.rows 0 0) [], true, true, none⟩
    | none => none
  | _, _ => none

def dstT (H : AH) (s x : AVal) : Option Dst :=
  match s with
  | .ref r j => dstRef r (compAt H r j)
  | .nilSlice => dstNil x H
  | .slice _ _ 0 (.ex 0) => dstNil x H
  | _ => none

def catT (t t2 : Tm) : Tm :=
  match emptyT t with
  | true => t2
  | false => .op .cat [t, t2]

def ownT (g : List Fact) (d : Dst) (t2 : Tm) : Bool :=
  match d.own with
  | true => true
  | false => match emptyT d.t with
    | true => true
    | false => known (.lt (.lit 0) (lenT t2)) g

def goneH (H : AH) : Option Nat → AH
  | some r => H.drop r
  | none => H

def sumT (t t2 : Tm) : Tm := .op .add [lenT t, lenT t2]

def appT2 (g : List Fact) (H : AH) (d : Dst) (t2 : Tm) : Option (AVal × AH) :=
  match d.own || d.full, known (.le (sumT d.t t2) (.lit 1000000)) g with
  | true, true => some (.ref H.next 0, (goneH H d.gone).alloc (.pack [⟨d.sh, catT d.t t2, false⟩] (ownT g d t2)))
  | _, _ => none

def appT1 (g : List Fact) (H : AH) (z : Nat) (x : AVal) : Option Dst → Option (AVal × AH)
  | some d => match Nat.beq d.sh.length z, srcT H d.sh z x with
    | true, some t2 => appT2 g H d t2
    | _, _ => none
  | none => none

def appT (g : List Fact) (H : AH) (d1 : TypeDesc) (s x : AVal) : Option TypeInfo → Option AVal → Option (AVal × AH)
  | some i, some zv => match i.size, Nat.beq zv.cells.length i.size, Nat.ble i.bytes 65536, isIntD d1 with
    | z + 1, true, true, false => appT1 g H (z + 1) x (dstT H s x)
    | _, _, _, _ => none
  | _, _ => none

def appAny (g : List Fact) (H : AH) (d1 : TypeDesc) (s x : AVal) (i : Option TypeInfo) (zv : Option AVal) : Option (AVal × AH) :=
  match isRef s || isRef x with
  | true => appT g H d1 s x i zv
  | false => app1 H d1 s x i zv

def appendB (K : Cfg) (H : AH) (t0 t1 : TypeId) (s x : AVal) : Option (AVal × AH) :=
  match K.und t0, K.und t1 with
  | some (.slice e), some d1 => appAny K.gam H d1 s x (K.info e) (zeroB K e)
  | _, _ => none

def setNth {α : Type} : List α → Nat → α → List α
  | [], _, _ => []
  | a :: l, i, x => match i with
    | 0 => x :: l
    | i + 1 => a :: setNth l i x

def updB (K : Cfg) (H : AH) (t : TypeId) (x k v : AVal) : Option AH :=
  match K.und t, x with
  | some (.map kt _), .map r => match keyFits K kt k, mapAt H r with
    | true, some (es, c) => match findB k es 0 with
      | some (some (i, e)) => some (H.put r (.map (setNth es i ⟨k, v, e.born⟩) c))
      | some none => some (H.put r (.map (es ++ [⟨k, v, c⟩]) (c + 1)))
      | none => none
    | _, _ => none
  | _, _ => none

def eraseNth {α : Type} : List α → Nat → List α
  | [], _ => []
  | a :: l, i => match i with
    | 0 => l
    | i + 1 => a :: eraseNth l i

def delB (K : Cfg) (H : AH) (t : TypeId) (x k : AVal) : Option AH :=
  match K.und t with
  | some (.map kt _) => match keyFits K kt k with
    | true => match x with
      | .nilMap => some H
      | .map r => match mapAt H r with
        | some (es, c) => match findB k es 0 with
          | some (some (i, _)) => some (H.put r (.map (eraseNth es i) c))
          | some none => some H
          | none => none
        | none => none
      | _ => none
    | false => none
  | _ => none

def memN (n : Nat) : List Nat → Bool
  | [] => false
  | a :: l => match Nat.beq n a with
    | true => true
    | false => memN n l

def leftB (seen : List Nat) : List AEnt → List AEnt
  | [] => []
  | e :: l => match memN e.born seen with
    | true => leftB seen l
    | false => e :: leftB seen l

/-- Is every entry old (made ahead of the range), and, if one was met, was one of them there at the last step? -/
def olds (since : Nat) : List AEnt → Bool
  | [] => true
  | e :: l => match Nat.blt e.born since with
    | true => olds since l
    | false => false

def nextB (H : AH) (it : AVal) (isStr : Bool) : Option (AVal × AH) :=
  match it with
  | .ptr r 0 => match H.m.get r, isStr with
    | some (.siter s p), true => match nth s p with
      | some c => match Nat.blt c 128 with
        | true => some (.tuple [.bool true, .int .i64 (.ofNat p), .int .i32 (.ofNat c)], H.put r (.siter s (p + 1)))
        | false => none
      | none => some (.tuple [.bool false], H)
    | some (.miter none _ _ _), false => some (.tuple [.bool false], H)
    | some (.miter (some mm) since seen st), false => match mapAt H mm with
      | some (es, c) => match Nat.beq c since, Nat.beq st since with
        | true, true => match olds since es, leftB seen es with
          | true, [] => some (.tuple [.bool false], H)
          | true, [e] => some (.tuple [.bool true, e.key, e.val], H.put r (.miter (some mm) since (seen ++ [e.born]) c))
          | _, _ => none
        | _, _ => none
      | none => none
    | _, _ => none
  | _ => none

def rangeB (K : Cfg) (H : AH) (t : TypeId) (x : AVal) : Option (AVal × AH) :=
  match K.und t, x with
  | some .string, .str s => some (.ptr H.next 0, H.alloc (.siter s 0))
  | some (.map _ _), .nilMap => some (.ptr H.next 0, H.alloc (.miter none 0 [] 0))
  | some (.map _ _), .map r => match mapAt H r with
    | some (_, c) => some (.ptr H.next 0, H.alloc (.miter (some r) c [] c))
    | none => none
  | _, _ => none

def extOf : List (Nat × Ext) → Nat → Option Ext
  | [], _ => none
  | (g, e) :: l, f => match Nat.beq g f with
    | true => some e
    | false => extOf l f

def extB (H : AH) (e : Ext) (args : List AVal) : Option (AVal × AH) :=
  match e, args with
  | .mapsClone, [.iface t (.map r)] => match mapAt H r with
    | some (es, c) => some (.iface t (.map H.next), H.alloc (.map es c))
    | none => none
  | .add64, [.int .u64 (.ofNat x), .int .u64 (.ofNat y), .int .u64 (.ofNat c)] => match Nat.ble c 1 with
    | true => some (.tuple [.int .u64 (.ofNat ((x + y + c) % 18446744073709551616)), .int .u64 (.ofNat ((x + y + c) / 18446744073709551616))], H)
    | false => none
  | _, _ => none

/-- What a call by name comes to: a function of the program, or one of the outside. -/
def callB (K : Cfg) (H : AH) (f : FuncId) (args : List AVal) : Option (Job ⊕ (AVal × AH)) :=
  match extOf K.ext f with
  | some e => match extB H e args with
    | some r => some (.inr r)
    | none => none
  | none => some (.inl (.call f args))

def strEq (a b : String) : Bool := a == b

def methB (name : String) : List Method → Option Method
  | [] => none
  | m :: l => match strEq m.name name with
    | true => some m
    | false => methB name l

/-- The receiver of a method that is called through an interface. -/
def recvB (K : Cfg) (H : AH) (t : TypeId) (v : AVal) (ptr : Bool) : Option AVal :=
  match K.und t, ptr with
  | some (.pointer _), true => some v
  | some (.pointer e), false => match v with
    | .ptr b o => match cellsAt H b with
      | some (l, _, _) => match aggB K e, szB K e with
        | some true, some n => match Nat.ble (o + n) l.length with
          | true => some (.agg ((l.drop o).take n))
          | false => none
        | some false, some _ => nth l o
        | _, _ => none
      | none => none
    | _ => none
  | some _, false => some v
  | _, _ => none

def invokeB (K : Cfg) (H : AH) (t : TypeId) (v : AVal) (name : String) (args : List AVal) : Option (Job ⊕ (AVal × AH)) :=
  match K.info t with
  | some i => match methB name i.methods.toList with
    | some me => match me.path.toList, me.func with
      | [], some (f, ptr) => match recvB K H t v ptr with
        | some r => callB K H f (r :: args)
        | none => none
      | _, _ => none
    | none => none
  | none => none

/-! An operation that may change the heap: a call, or a value and the heap. -/
abbrev Eff := Option (Job ⊕ (AVal × AH))

def effV : Option (AVal × AH) → Eff
  | some r => some (.inr r)
  | none => none
def effU : Option AH → Eff
  | some H => some (.inr (.undef, H))
  | none => none
def effT : Option AH → Eff
  | some H => some (.inr (.tuple [], H))
  | none => none

/-- Numbers and bools that are stored into an element's cells. -/
def updT (t i : Tm) : Nat → List Shp → List AVal → Option Tm
  | _, [], [] => some t
  | o, s :: ss, v :: vs => match s with
    | .num k => match numTm k (tmOf v) with
      | some x => updT (.op (.upd o) [t, i, x]) i (o + 1) ss vs
      | none => none
    | .bool => match v with
      | .bool true => updT (.op (.upd o) [t, i, .lit 1]) i (o + 1) ss vs
      | .bool false => updT (.op (.upd o) [t, i, .lit 0]) i (o + 1) ss vs
      | _ => none
    | .sl _ => none
  | _, _, _ => none

def ownOne : Option ABlk → Option PComp
  | some (.pack [c] true) => some c
  | _ => none

def storeE (g : List Fact) (H : AH) (r j z : Nat) (i : Tm) (o : Nat) (vs : List AVal) : Option PComp → Option AH
  | some c => match j, Nat.beq z c.sh.length, idxT g i c.t, Nat.ble (o + vs.length) z with
    | 0, true, true, true => match updT c.t i o ((c.sh.drop o).take vs.length) vs with
      | some t => some (H.put r (.pack [⟨c.sh, t, c.full⟩] true))
      | none => none
    | _, _, _, _ => none
  | none => none

def eStore (g : List Fact) (H : AH) : Option AVal → Option AVal → Option Nat → Eff
  | some (.ptr b q), some v, some z => match Nat.beq v.cells.length z with
    | true => effU (storeB H b q v.cells)
    | false => none
  | some (.eptr r j z i o), some v, some n => match Nat.beq v.cells.length n with
    | true => effU (storeE g H r j z i o v.cells (ownOne (H.m.get r)))
    | false => none
  | _, _, _ => none

def eUpd (K : Cfg) (H : AH) (t : TypeId) : Option AVal → Option AVal → Option AVal → Eff
  | some a, some b, some c => effU (updB K H t a b c)
  | _, _, _ => none

def eRange (K : Cfg) (H : AH) (t : TypeId) : Option AVal → Eff
  | some v => effV (rangeB K H t v)
  | none => none

def eNext (H : AH) (s : Bool) : Option AVal → Eff
  | some v => effV (nextB H v s)
  | none => none

def eAppend (K : Cfg) (H : AH) : List TypeId → Option (List AVal) → Eff
  | [t0, t1], some [s, x] => effV (appendB K H t0 t1 s x)
  | _, _ => none

def eDelete (K : Cfg) (H : AH) : List TypeId → Option (List AVal) → Eff
  | t :: _, some [x, k] => effT (delB K H t x k)
  | _, _ => none

def zerosB (K : Cfg) (t : TypeId) (n : Nat) : Option (List AVal) :=
  match K.und t with
  | some (.slice e) => match zeroB K e with
    | some z => some (zrep z.cells n)
    | none => none
  | _ => none

def clearS (H : AH) (b o : Nat) : Option (List AVal) → Option AH
  | some l => storeB H b o l
  | none => none

def clearM (H : AH) (r : Nat) : Option (List AEnt × Nat) → Option AH
  | some (_, c) => some (H.put r (.map [] c))
  | none => none

def clearB (K : Cfg) (H : AH) (t : TypeId) : AVal → Option AH
  | .nilMap => some H
  | .nilSlice => some H
  | .map r => clearM H r (mapAt H r)
  | .slice b o n _ => match n with
    | 0 => some H
    | n + 1 => clearS H b o (zerosB K t (n + 1))
  | _ => none

def eClear (K : Cfg) (H : AH) : List TypeId → Option (List AVal) → Eff
  | [t], some [v] => match K.und t with
    | some _ => effT (clearB K H t v)
    | none => none
  | _, _ => none

def eCall (K : Cfg) (H : AH) : Option AVal → Option (List AVal) → Eff
  | some (.func g first captured), some args => callB K H g (first ++ args ++ captured)
  | some (.yield l), some args => some (.inl (.round l args))
  | _, _ => none

def eInvoke (K : Cfg) (H : AH) (name : String) : Option AVal → Option (List AVal) → Eff
  | some (.iface t v), some args => invokeB K H t v name args
  | _, _ => none

def eBuiltin (K : Cfg) (H : AH) (ts : List TypeId) (args : Option (List AVal)) : Builtin → Eff
  | .append => eAppend K H ts args
  | .delete => eDelete K H ts args
  | .clear => eClear K H ts args
  | _ => none

def eCallee (K : Cfg) (H : AH) (ρ : Operand → Option AVal) (ts : List TypeId) (args : Option (List AVal)) : Callee → Eff
  | .builtin b => eBuiltin K H ts args b
  | .value f => eCall K H (ρ f) args
  | .invoke r name => eInvoke K H name (ρ r) args

def effB (K : Cfg) (H : AH) (ρ : Operand → Option AVal) (o : Oper) : Eff :=
  match o.op with
  | .store t a x => eStore K.gam H (ρ a) (ρ x) (szB K t)
  | .mapUpdate t x k v => eUpd K H t (ρ x) (ρ k) (ρ v)
  | .insert t x k v => eUpd K H t (ρ x) (ρ k) (ρ v)
  | .range t x => eRange K H t (ρ x)
  | .next it s => eNext H s (ρ it)
  | .call c => eCallee K H ρ c.argTypes.toList (optAll ρ c.args.toList) c.callee
  | _ => none

def effCallee : Callee → Bool
  | .builtin b => match b with
    | .len => false
    | .cap => false
    | .max => false
    | .min => false
    | _ => true
  | _ => true

def isEff (o : Oper) : Bool :=
  match o.op with
  | .store _ _ _ => true
  | .mapUpdate _ _ _ _ => true
  | .insert _ _ _ _ => true
  | .range _ _ => true
  | .next _ _ => true
  | .call c => effCallee c.callee
  | _ => false

end Go.Eng
