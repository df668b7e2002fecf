import Derived.Calls
import Derived.Defers
import Derived.Recover
import Derived.Orders
import Derived.Below
/-
  An abstract run of the model's code: values with block numbers of its own; where Go leaves something open (a capacity, an order) the abstract run does not look.
-/
namespace Go.Eng

/-- A table by numbers. -/
inductive Tr (α : Type) where
  | lf
  | nd (v : Option α) (l r : Tr α)

def Tr.get {α : Type} : Tr α → Nat → Option α
  | .lf, _ => none
  | .nd v l r, k => cond (Nat.beq k 0) v (cond (Nat.beq (Nat.mod k 2) 1) (l.get (Nat.div k 2)) (r.get (Nat.sub (Nat.div k 2) 1)))

def Tr.setF {α : Type} (v : Option α) : Nat → Tr α → Nat → Tr α
  | 0, t, _ => t
  | n + 1, .lf, k => cond (Nat.beq k 0) (.nd v .lf .lf) (cond (Nat.beq (Nat.mod k 2) 1) (.nd none (setF v n .lf (Nat.div k 2)) .lf) (.nd none .lf (setF v n .lf (Nat.sub (Nat.div k 2) 1))))
  | n + 1, .nd u l r, k => cond (Nat.beq k 0) (.nd v l r) (cond (Nat.beq (Nat.mod k 2) 1) (.nd u (setF v n l (Nat.div k 2)) r) (.nd u l (setF v n r (Nat.sub (Nat.div k 2) 1))))

def Tr.set {α : Type} (t : Tr α) (k : Nat) (v : α) : Tr α := Tr.setF (some v) (Nat.succ k) t k

def Tr.ofListFrom {α : Type} : Nat → List α → Tr α → Tr α
  | _, [], t => t
  | k, x :: xs, t => Tr.ofListFrom (Nat.succ k) xs (t.set k x)

/-- An abstract value. -/
inductive SV where
  | bool (b : Bool)
  | int (k : IntKind) (n : Int)
  | str (len n : Nat)
  | nilp
  | ptr (id off : Nat)
  | gptr (b off : Nat)
  | nils
  | sl (id off len : Nat) (cap : Option Nat)
  | sle
  | nilm
  | mp (id : Nat)
  | fn (f : Fn) (first captured : List SV)
  | nilf
  | ifc (t : TypeId) (v : SV)
  | nili
  | agg (cs : List SV)
  | tup (vs : List SV)
  | op (i : Nat)
  | any
  deriving Inhabited

inductive Rs (α : Type) where
  | ok (a : α)
  | er (s : String) (v : List SV)

@[inline] def Rs.bind {α β : Type} : Rs α → (α → Rs β) → Rs β
  | .ok a, f => f a
  | .er s v, _ => .er s v

instance : Monad Rs where
  pure := Rs.ok
  bind := Rs.bind

/-- The bytes of a text, from the number that they are in base 256. -/
def bytesOf (len n : Nat) : List UInt8 := (List.range len).map fun i => UInt8.ofNat (n / 256 ^ (len - 1 - i))
def mkStr (len n : Nat) : ByteArray := ⟨(bytesOf len n).toArray⟩

def numOf : List UInt8 → Nat → Nat
  | [], n => n
  | b :: bs, n => numOf bs (Nat.add (Nat.mul n 256) b.toNat)
def lenOf {α : Type} : List α → Nat → Nat
  | [], n => n
  | _ :: bs, n => lenOf bs (Nat.succ n)

mutual
/-- A closed value as an abstract one. -/
def ofValue : Value → Rs SV
  | .bool b => .ok (.bool b)
  | .int k n => .ok (.int k n)
  | .string s => .ok (.str (lenOf s.data.toList 0) (numOf s.data.toList 0))
  | .pointer none => .ok .nilp
  | .slice none 0 0 => .ok .nils
  | .map none => .ok .nilm
  | .nilFunc => .ok .nilf
  | .nilIface => .ok .nili
  | .agg ⟨cs⟩ => (ofValues cs).bind fun l => .ok (.agg l)
  | .tuple ⟨cs⟩ => (ofValues cs).bind fun l => .ok (.tup l)
  | _ => .er "ofValue" []
def ofValues : List Value → Rs (List SV)
  | [] => .ok []
  | v :: vs => (ofValue v).bind fun x => (ofValues vs).bind fun xs => .ok (x :: xs)
end

def kindEq : IntKind → IntKind → Bool
  | .i8, .i8 | .i16, .i16 | .i32, .i32 | .i64, .i64 | .u8, .u8 | .u16, .u16 | .u32, .u32 | .u64, .u64 => true
  | _, _ => false

def intEq : Int → Int → Bool
  | .ofNat a, .ofNat b => Nat.beq a b
  | .negSucc a, .negSucc b => Nat.beq a b
  | _, _ => false
def intLe : Int → Int → Bool
  | .ofNat a, .ofNat b => Nat.ble a b
  | .negSucc _, .ofNat _ => true
  | .ofNat _, .negSucc _ => false
  | .negSucc a, .negSucc b => Nat.ble b a
def intLt (a b : Int) : Bool := not (intLe b a)

mutual
def SV.beq : SV → SV → Bool
  | .bool a, .bool b => cond a b (not b)
  | .int k n, .int k' n' => kindEq k k' && intEq n n'
  | .str l n, .str l' n' => Nat.beq l l' && Nat.beq n n'
  | .nilp, .nilp | .nils, .nils | .nilm, .nilm | .nilf, .nilf | .nili, .nili => true
  | .ptr i o, .ptr i' o' | .gptr i o, .gptr i' o' => Nat.beq i i' && Nat.beq o o'
  | .sl i o l none, .sl i' o' l' none => Nat.beq i i' && Nat.beq o o' && Nat.beq l l'
  | .sl i o l (some c), .sl i' o' l' (some c') => Nat.beq i i' && Nat.beq o o' && Nat.beq l l' && Nat.beq c c'
  | .mp i, .mp i' | .op i, .op i' => Nat.beq i i'
  | .fn (.func f) a c, .fn (.func f') a' c' => Nat.beq f f' && SV.beqs a a' && SV.beqs c c'
  | .ifc t v, .ifc t' v' => Nat.beq t t' && SV.beq v v'
  | .agg a, .agg b | .tup a, .tup b => SV.beqs a b
  | _, _ => false
def SV.beqs : List SV → List SV → Bool
  | [], [] => true
  | a :: as, b :: bs => SV.beq a b && SV.beqs as bs
  | _, _ => false
end

/-- What is known of a row's marks ("frozen"). -/
inductive Fz where
  | no                 -- no cell is
  | below (k : Nat)    -- none from k on is
  | behind             -- none that lies in the row is; some mark stands behind it
  | some               -- nothing is known

structure Ent where
  key : SV
  val : SV
  born : Nat

inductive SO where
  | row (elem : TypeId) (n : Nat) (cells : Tr SV) (exact : Bool) (fz : Fz)
  | map (es : List Ent) (clock : Nat)
  | sit (len n pos : Nat)
  | dead

structure SD where
  fn : Fn
  captured : List SV
  args : List SV

structure FS where
  sz : Nat
  tm : Tr SV
  df : List SD

structure Mem where
  nx : Nat
  hp : Tr SO

structure SP where
  v : SV
  recovered : Bool

inductive XE where
  | normal
  | exit (id : Nat)
  | goto (l : Nat)
  | ret
  | panic (chain : List SP)

/-- Facts on what is not known: an operation on such values, and what it comes to. -/
inductive Key where
  | bin (op : BinOp) (t : TypeId) (a b : SV)
  | len (t : TypeId) (a : SV)
  | idx (t : TypeId) (a i : SV)
  | slc (t : TypeId) (a : SV) (lo hi : Option SV)
  | conv (s d : TypeId) (a : SV)
  | un (op : UnOp) (a : SV)
  | load (b off : Nat)
  | iadr (t : TypeId) (a i : SV)
  | ld (t : TypeId) (a : SV)
  | skey (a b : SV)
  | call (f : FuncId) (args : List SV)

structure Fact where
  key : Key
  val : SV

def binEq : BinOp → BinOp → Bool
  | .add, .add | .sub, .sub | .mul, .mul | .quo, .quo | .rem, .rem | .and, .and | .or, .or | .xor, .xor | .shl, .shl | .shr, .shr | .andNot, .andNot
  | .eql, .eql | .neq, .neq | .lss, .lss | .leq, .leq | .gtr, .gtr | .geq, .geq => true
  | _, _ => false

def unEq : UnOp → UnOp → Bool
  | .neg, .neg | .xor, .xor | .not, .not | .plus, .plus => true
  | _, _ => false

def optEq : Option SV → Option SV → Bool
  | none, none => true
  | some a, some b => SV.beq a b
  | _, _ => false

def Key.beq : Key → Key → Bool
  | .bin o t a b, .bin o' t' a' b' => binEq o o' && Nat.beq t t' && SV.beq a a' && SV.beq b b'
  | .len t a, .len t' a' => Nat.beq t t' && SV.beq a a'
  | .idx t a i, .idx t' a' i' => Nat.beq t t' && SV.beq a a' && SV.beq i i'
  | .slc t a l h, .slc t' a' l' h' => Nat.beq t t' && SV.beq a a' && optEq l l' && optEq h h'
  | .skey a b, .skey a' b' => SV.beq a a' && SV.beq b b'
  | .conv s d a, .conv s' d' a' => Nat.beq s s' && Nat.beq d d' && SV.beq a a'
  | .un o a, .un o' a' => unEq o o' && SV.beq a a'
  | .load b o, .load b' o' => Nat.beq b b' && Nat.beq o o'
  | .iadr t a i, .iadr t' a' i' => Nat.beq t t' && SV.beq a a' && SV.beq i i'
  | .ld t a, .ld t' a' => Nat.beq t t' && SV.beq a a'
  | .call f a, .call f' a' => Nat.beq f f' && SV.beqs a a'
  | _, _ => false

def findFact : List Fact → Key → Rs SV
  | [], k => .er "no fact" (match k with | .bin _ _ a b => [a, b] | .len _ a => [a] | .idx _ a i => [a, i] | .slc _ a _ _ => [a] | .skey a b => [a, b] | .conv _ _ a => [a] | .un _ a => [a] | .load b o => [.gptr b o] | .iadr _ a i => [a, i] | .ld _ a => [a] | .call f a => .op f :: a)
  | f :: fs, k => cond (Key.beq f.key k) (.ok f.val) (findFact fs k)

inductive Ext where
  | indexByteString | countString | noEscape | makeNoZero (elem : TypeId) | add64 | cmpString

/-- What the run goes by. -/
structure Cx where
  P : Program
  funcs : Tr Func
  types : Tr TypeInfo
  exts : List (Nat × Ext)
  facts : List Fact

variable (C : Cx)

def Cx.info (t : TypeId) : Rs TypeInfo := match C.types.get t with | some i => .ok i | none => .er "no type" []
def Cx.und (t : TypeId) : Rs TypeDesc := match C.types.get t with
  | some i => (match i.desc with | .named _ u => (match C.types.get u with | some j => .ok j.desc | none => .er "no type" []) | d => .ok d)
  | none => .er "no type" []
def Cx.size (t : TypeId) : Rs Nat := match C.types.get t with | some i => .ok i.size | none => .er "no type" []
def Cx.zero (t : TypeId) : Rs SV := match C.types.get t with | some i => (match i.zero with | some v => ofValue v | none => .er "no zero" []) | none => .er "no type" []

def SV.cells : SV → List SV
  | .agg cs => cs
  | v => [v]

def FS.get (s : FS) (t : Nat) : SV := match s.tm.get t with | some v => v | none => .tup []
def FS.put (s : FS) (d : Option Tmp) (v : SV) : Rs FS := match d with
  | none => .ok s
  | some d => cond (Nat.blt d s.sz) (.ok { s with tm := s.tm.set d v }) (.er "put" [])

def FS.ev (s : FS) : Operand → Rs SV
  | .tmp t => .ok (s.get t)
  | .const v => ofValue v
  | .global g => .ok (.gptr g 0)
  | .func f => .ok (.fn (.func f) [] [])

def FS.evs (s : FS) : List Operand → Rs (List SV)
  | [] => .ok []
  | x :: xs => (s.ev x).bind fun v => (s.evs xs).bind fun vs => .ok (v :: vs)

/-- A row from a list of cells. -/
def rowOf (l : List SV) : Tr SV := Tr.ofListFrom 0 l .lf

def Mem.new (m : Mem) (o : SO) : Nat × Mem := (m.nx, ⟨Nat.succ m.nx, m.hp.set m.nx o⟩)

/-- Cells of a row. -/
def cellsOf (cells : Tr SV) : (n off : Nat) → Rs (List SV)
  | 0, _ => .ok []
  | n + 1, off => match cells.get off with
    | some v => (cellsOf cells n (Nat.succ off)).bind fun vs => .ok (v :: vs)
    | none => .er "cell" []

def Mem.cells (m : Mem) (id off n : Nat) : Rs (List SV) := match m.hp.get id with
  | some (.row _ k cells _ _) => cond (Nat.ble (Nat.add off n) k) (cellsOf cells n off) (.er "cells: range" [.ptr id off])
  | _ => .er "cells: no row" [.ptr id off]

def globCells (C : Cx) : (b off n : Nat) → Rs (List SV)
  | _, _, 0 => .ok []
  | b, off, n + 1 => (findFact C.facts (.load b off)).bind fun v => (globCells C b (Nat.succ off) n).bind fun vs => .ok (v :: vs)

def isAgg : TypeDesc → Bool
  | .struct _ | .array _ _ => true
  | _ => false

def head1 : List SV → Rs SV
  | [v] => .ok v
  | _ => .er "head1" []

def Cx.load (m : Mem) (t : TypeId) : SV → Rs SV
  | .ptr id off => (C.info t).bind fun i => (C.und t).bind fun d =>
      cond (isAgg d) ((m.cells id off i.size).bind fun l => .ok (.agg l)) ((m.cells id off 1).bind head1)
  | .gptr b off => (C.info t).bind fun i => (C.und t).bind fun d =>
      cond (isAgg d) ((globCells C b off i.size).bind fun l => .ok (.agg l)) ((globCells C b off 1).bind head1)
  | v => .er "load" [v]

def setCells : List SV → Nat → Tr SV → Tr SV
  | [], _, t => t
  | v :: vs, off, t => setCells vs (Nat.succ off) (t.set off v)

def mayWrite : Fz → Nat → Bool
  | .no, _ | .behind, _ => true
  | .below k, off => Nat.ble k off
  | .some, _ => false

def notAny : SV → Bool
  | .any => false
  | _ => true

def noAggO : List SV → Bool
  | [] => true
  | v :: vs => (match v with | .agg _ | .tup _ | .any => false | _ => true) && noAggO vs

def Mem.put (m : Mem) (id off : Nat) (vs : List SV) : Rs Mem := match m.hp.get id with
  | some (.row e k cells x fz) =>
    cond (Nat.ble (Nat.add off (lenOf vs 0)) k && mayWrite fz off && noAggO vs) (.ok { m with hp := m.hp.set id (.row e k (setCells vs off cells) x fz) }) (.er "put: range or mark" [.ptr id off])
  | _ => .er "put: no row" [.ptr id off]

def Cx.store (m : Mem) (t : TypeId) (a v : SV) : Rs Mem := match a with
  | .ptr id off => (C.size t).bind fun s => cond (notAny v && Nat.beq (lenOf v.cells 0) s) (m.put id off v.cells) (.er "store: size" [v])
  | _ => .er "store" [a]

def fillAt : List SV → Nat → List SV → List SV
  | cs, 0, new => fillNow cs new
  | [], _, _ => []
  | c :: cs, n + 1, new => c :: fillAt cs n new
where
  fillNow : List SV → List SV → List SV
  | cs, [] => cs
  | [], _ => []
  | _ :: cs, v :: vs => v :: fillNow cs vs

/-- Parts laid at their places. -/
def fillS (place : Nat → Option (Nat × Nat)) : List SV → List (Nat × SV) → Rs (List SV)
  | cs, [] => .ok cs
  | cs, (i, v) :: rest => match place i with
    | some (off, z) => cond (notAny v && Nat.beq (lenOf v.cells 0) z && Nat.ble (Nat.add off z) (lenOf cs 0)) (fillS place (fillAt cs off v.cells) rest) (.er "fill" [v])
    | none => .er "fill: field" []

def placesS (C : Cx) : List Field → Rs (List (Nat × Nat))
  | [] => .ok []
  | f :: fs => (C.size f.type).bind fun z => (placesS C fs).bind fun l => .ok ((f.offset, z) :: l)

def FS.evParts (s : FS) : List (Nat × Operand) → Rs (List (Nat × SV))
  | [] => .ok []
  | (i, x) :: xs => (s.ev x).bind fun v => (s.evParts xs).bind fun vs => .ok ((i, v) :: vs)

def repeatL (l : List SV) : Nat → List SV
  | 0 => []
  | n + 1 => l ++ repeatL l n

def wrapS (k : IntKind) (n : Int) : Int := match k, n with
  | .i64, .ofNat m => cond (Nat.blt m 9223372036854775808) n (k.wrap n)
  | .i64, .negSucc m => cond (Nat.blt m 9223372036854775808) n (k.wrap n)
  | .u8, .ofNat m => .ofNat (Nat.mod m 256)
  | .i32, .ofNat m => cond (Nat.blt m 2147483648) n (k.wrap n)
  | .u64, .ofNat m => .ofNat (Nat.mod m 18446744073709551616)
  | .u32, .ofNat m => .ofNat (Nat.mod m 4294967296)
  | k, n => k.wrap n

def addI : Int → Int → Int
  | .ofNat a, .ofNat b => .ofNat (Nat.add a b)
  | a, b => a + b
def subI : Int → Int → Int
  | .ofNat a, .ofNat b => cond (Nat.ble b a) (.ofNat (Nat.sub a b)) (.negSucc (Nat.sub (Nat.sub b a) 1))
  | a, b => a - b
def mulI : Int → Int → Int
  | .ofNat a, .ofNat b => .ofNat (Nat.mul a b)
  | a, b => a * b
def quoI : Int → Int → Int
  | .ofNat a, .ofNat b => .ofNat (Nat.div a b)
  | a, b => a.tdiv b
def remI : Int → Int → Int
  | .ofNat a, .ofNat b => .ofNat (Nat.mod a b)
  | a, b => a.tmod b
def isZero : Int → Bool
  | .ofNat n => Nat.beq n 0
  | _ => false
def bitsI (k : IntKind) (f : Nat → Nat → Nat) (g : Int → Int → Int) : Int → Int → Int
  | .ofNat a, .ofNat b => cond (Nat.blt a (2 ^ (k.bits - 1)) && Nat.blt b (2 ^ (k.bits - 1))) (.ofNat (f a b)) (g (.ofNat a) (.ofNat b))
  | a, b => g a b
def bvG (k : IntKind) (f : BitVec k.bits → BitVec k.bits → BitVec k.bits) (a b : Int) : Int := k.wrap (f (BitVec.ofInt k.bits a) (BitVec.ofInt k.bits b)).toNat

def binInt (op : BinOp) (k : IntKind) (a b : Int) : Rs SV := match op with
  | .add => .ok (.int k (wrapS k (addI a b)))
  | .sub => .ok (.int k (wrapS k (subI a b)))
  | .mul => .ok (.int k (wrapS k (mulI a b)))
  | .quo => cond (isZero b) (.er "div" []) (.ok (.int k (wrapS k (quoI a b))))
  | .rem => cond (isZero b) (.er "div" []) (.ok (.int k (remI a b)))
  | .and => .ok (.int k (bitsI k Nat.land (bvG k (· &&& ·)) a b))
  | .or => .ok (.int k (bitsI k Nat.lor (bvG k (· ||| ·)) a b))
  | .xor => .ok (.int k (bitsI k Nat.xor (bvG k (· ^^^ ·)) a b))
  | .andNot => .ok (.int k (bvG k (fun x y => x &&& ~~~y) a b))
  | .eql => .ok (.bool (intEq a b))
  | .neq => .ok (.bool (not (intEq a b)))
  | .lss => .ok (.bool (intLt a b))
  | .leq => .ok (.bool (intLe a b))
  | .gtr => .ok (.bool (intLt b a))
  | .geq => .ok (.bool (intLe b a))
  | _ => .er "binInt" []

def shiftS (op : BinOp) (k : IntKind) (a b : Int) : Rs SV := match op, b with
  | .shl, .ofNat n => .ok (.int k (wrapS k (mulI a (.ofNat (Nat.pow 2 (min n k.bits))))))
  | .shr, .ofNat n => .ok (.int k (match a with | .ofNat m => .ofNat (Nat.div m (Nat.pow 2 (min n k.bits))) | a => a.fdiv (2 ^ (min n k.bits))))
  | _, _ => .er "shift" []

def catS (l n l' n' : Nat) : SV := .str (Nat.add l l') (Nat.add (Nat.mul n (Nat.pow 256 l')) n')
def ltS (l n l' n' : Nat) : Bool := Op.bytesLess (bytesOf l n) (bytesOf l' n')
def eqS (l n l' n' : Nat) : Bool := Nat.beq l l' && Nat.beq n n'

def binStr (op : BinOp) (l n l' n' : Nat) : Rs SV := match op with
  | .add => cond (Nat.ble (Nat.add l l') 9223372036854775807) (.ok (catS l n l' n')) (.er "cat" [])
  | .eql => .ok (.bool (eqS l n l' n'))
  | .neq => .ok (.bool (not (eqS l n l' n')))
  | .lss => .ok (.bool (ltS l n l' n'))
  | .leq => .ok (.bool (ltS l n l' n' || eqS l n l' n'))
  | .gtr => .ok (.bool (not (ltS l n l' n' || eqS l n l' n')))
  | .geq => .ok (.bool (not (ltS l n l' n')))
  | _ => .er "binStr" []

/-- Are two values of a type equal? -/
def eqIn (C : Cx) : Nat → TypeId → SV → SV → Rs Bool
  | 0, _, _, _ => .er "eqIn: depth" []
  | d + 1, t, x, y => (C.und t).bind fun u => match u, x, y with
    | .bool, .bool a, .bool b => .ok (cond a b (not b))
    | .int _, .int k a, .int k' b => cond (kindEq k k') (.ok (intEq a b)) (.er "eqIn: kinds" [])
    | .string, .str l n, .str l' n' => .ok (eqS l n l' n')
    | .pointer e, .ptr i o, .ptr i' o' => (C.size e).bind fun z => cond (Nat.beq i i' && Nat.blt 0 z) (.ok (Nat.beq o o')) (.er "eqIn: pointers" [x, y])
    | .pointer _, .nilp, .nilp => .ok true
    | .pointer _, .nilp, .ptr _ _ | .pointer _, .ptr _ _, .nilp | .pointer _, .nilp, .gptr _ _ | .pointer _, .gptr _ _, .nilp => .ok false
    | .interface _, .nili, .nili => .ok true
    | .interface _, .nili, .ifc _ _ | .interface _, .ifc _ _, .nili => .ok false
    | .interface _, .ifc tx vx, .ifc ty vy => cond (Nat.beq tx ty) ((C.info tx).bind fun i => cond i.comparable (eqIn C d tx vx vy) (.er "eqIn: uncomparable" [])) (.ok false)
    | .slice _, .nils, .nils => .ok true
    | .slice _, .nils, .sl _ _ _ _ | .slice _, .sl _ _ _ _, .nils | .slice _, .nils, .sle | .slice _, .sle, .nils => .ok false
    | .map _ _, .nilm, .nilm => .ok true
    | .map _ _, .nilm, .mp _ | .map _ _, .mp _, .nilm => .ok false
    | .func _ _ _, .nilf, .nilf => .ok true
    | .func _ _ _, .nilf, .fn _ _ _ | .func _ _ _, .fn _ _ _, .nilf => .ok false
    | _, x, y => .er "eqIn" [x, y]

def bothNil : SV → SV → Bool
  | .nili, .nili => true
  | _, _ => false

def eqV (op : BinOp) (t : TypeId) (x y : SV) : Rs SV := match op with
  | .eql => (eqIn C 10000 t x y).bind fun b => .ok (.bool b)
  | .neq => (eqIn C 10000 t x y).bind fun b => .ok (.bool (not b))
  | _ => .er "bin" [x, y]

def binS (op : BinOp) (t : TypeId) (cst : Bool) (x y : SV) : Rs SV := match x, y with
  | .int k a, .int k' b => (match op with
    | .shl | .shr => shiftS op k a b
    | _ => cond (kindEq k k') (binInt op k a b) (.er "bin: kinds" []))
  | .str l n, .str l' n' => binStr op l n l' n'
  | .op _, _ | _, .op _ => findFact C.facts (.bin op t x y)
  | _, _ => cond (cst || not (bothNil x y)) (eqV C op t x y) (.er "bin: two nil values" [])

def unS (op : UnOp) : SV → Rs SV
  | .bool b => (match op with | .not => .ok (.bool (not b)) | _ => .er "un" [])
  | .int k n => (match op with
    | .neg => .ok (.int k (wrapS k (subI 0 n)))
    | .xor => .ok (.int k (bvG k (· ^^^ ·) (if k.signed then -1 else k.max) n))
    | _ => .er "un" [])
  | .op i => findFact C.facts (.un op (.op i))
  | v => .er "un" [v]

def asNat : SV → Rs Nat
  | .int _ (.ofNat n) => .ok n
  | v => .er "asNat" [v]

def isConst : Operand → Bool
  | .const _ => true
  | _ => false

def sizeField (C : Cx) (t : TypeId) (f : Nat) : Rs (Field × Nat) := (C.und t).bind fun u => match u with
  | .struct fs => (match fs.toList[f]? with | some f => (C.size f.type).bind fun s => .ok (f, s) | none => .er "field" [])
  | _ => .er "field: no struct" []

def partS (C : Cx) (t : TypeId) (cs : List SV) (off : Nat) : Rs SV := (C.und t).bind fun d =>
  cond (isAgg d) ((C.size t).bind fun s => .ok (.agg ((cs.drop off).take s))) (match cs[off]? with | some v => .ok v | none => .er "part" [])

def strAt (l n i : Nat) : Nat := Nat.mod (Nat.div n (Nat.pow 256 (Nat.sub (Nat.sub l 1) i))) 256
def strCut (l n lo hi : Nat) : SV := .str (Nat.sub hi lo) (Nat.mod (Nat.div n (Nat.pow 256 (Nat.sub l hi))) (Nat.pow 256 (Nat.sub hi lo)))

def optNat : Option SV → Nat → Rs Nat
  | none, d => .ok d
  | some v, _ => asNat v

def FS.evO (s : FS) : Option Operand → Rs (Option SV)
  | none => .ok none
  | some x => (s.ev x).bind fun v => .ok (some v)

def isOp : SV → Bool
  | .op _ => true
  | _ => false
def isOpO : Option SV → Bool
  | some (.op _) => true
  | _ => false

/-- The bounds of a cut of something with len elements, of which lim are there. -/
def boundsS (len lim : Nat) (lo hi : Option SV) : Rs (Nat × Nat) := match hi with
  | none => (optNat lo 0).bind fun l => cond (Nat.ble l len) (.ok (l, len)) (.er "bounds" [])
  | some h => (asNat h).bind fun h => (optNat lo 0).bind fun l => cond (Nat.ble l h && Nat.ble h lim) (.ok (l, h)) (.er "bounds" [])

def sliceS (m : Mem) (t : TypeId) (x : SV) (lo hi mx : Option SV) : Rs SV :=
  cond (isOp x || isOpO lo || isOpO hi) (match mx with | none => findFact C.facts (.slc t x lo hi) | _ => .er "slice: op" [x]) <|
  (C.und t).bind fun u => match u, x, mx with
  | .string, .str l n, none => (boundsS l l lo hi).bind fun (lo, h) => cond (Nat.ble lo h && Nat.ble h l) (.ok (strCut l n lo h)) (.er "slice" [x])
  | .slice e, .sl id off len (some c), none => (C.size e).bind fun s => (boundsS len c lo hi).bind fun (l, h) =>
      cond (Nat.ble h c && Nat.ble l h) (.ok (.sl id (cond (Nat.beq c l) off (Nat.add off (Nat.mul l s))) (Nat.sub h l) (some (Nat.sub c l)))) (.er "slice" [x])
  | .slice e, .sl id off len (some c0), some mx => (C.size e).bind fun s => (asNat mx).bind fun c => (match hi with
      | none => .er "slice: max" [x]
      | some _ => (boundsS len c lo hi).bind fun (l, h) =>
        cond (Nat.ble c c0) (.ok (.sl id (cond (Nat.beq c l) off (Nat.add off (Nat.mul l s))) (Nat.sub h l) (some (Nat.sub c l)))) (.er "slice" [x]))
  | .slice e, .sl id off len none, none => (C.size e).bind fun s => (match m.hp.get id with
    | some (.row e' n _ _ _) =>
      let there := Nat.div (Nat.sub n off) s
      (boundsS len there lo hi).bind fun (l, h) => cond (Nat.blt 0 s && Nat.beq e e' && Nat.ble off n && Nat.ble h there && Nat.ble l h)
        (cond (Nat.beq l 0) (.ok (.sl id off h none)) (cond (Nat.blt l there) (.ok (.sl id (Nat.add off (Nat.mul l s)) (Nat.sub h l) none)) (.ok .sle)))
        (.er "slice" [x])
    | _ => .er "slice: row" [x])
  | .slice e, .nils, none => (C.size e).bind fun _ => (boundsS 0 0 lo hi).bind fun (l, h) => cond (Nat.beq l 0 && Nat.beq h 0) (.ok .nils) (.er "slice" [x])
  | .slice e, .sle, none => (C.size e).bind fun _ => (boundsS 0 0 lo hi).bind fun (l, h) => cond (Nat.beq l 0 && Nat.beq h 0) (.ok .sle) (.er "slice" [x])
  | .array k e, .ptr id off, none => (C.size e).bind fun s => (boundsS k k lo hi).bind fun (l, h) =>
      cond (Nat.ble h k && Nat.ble l h) (.ok (.sl id (cond (Nat.beq k l) off (Nat.add off (Nat.mul l s))) (Nat.sub h l) (some (Nat.sub k l)))) (.er "slice" [x])
  | _, x, _ => .er "slice" [x]

def plainKey : TypeDesc → Bool
  | .int _ | .string => true
  | _ => false

def bytesNum : List SV → Nat → Rs Nat
  | [], n => .ok n
  | .int .u8 (.ofNat b) :: l, n => cond (Nat.blt b 256) (bytesNum l (Nat.add (Nat.mul n 256) b)) (.er "byte" [])
  | v :: _, _ => .er "byte" [v]

def findKeyS (C : Cx) (ku : TypeDesc) (k : SV) : List Ent → Nat → Rs (Option (Nat × SV))
  | [], _ => .ok none
  | e :: es, i => match ku, k, e.key with
    | .int _, .int a x, .int b y => cond (kindEq a b) (cond (intEq x y) (.ok (some (i, e.val))) (findKeyS C ku k es (Nat.succ i))) (.er "key" [])
    | .string, .str a x, .str b y => cond (eqS a x b y) (.ok (some (i, e.val))) (findKeyS C ku k es (Nat.succ i))
    | .string, a, b => (findFact C.facts (.skey a b)).bind fun r => (match r with | .bool true => .ok (some (i, e.val)) | .bool false => findKeyS C ku k es (Nat.succ i) | v => .er "key" [v])
    | _, a, b => .er "key" [a, b]

def okS (ok : Bool) (v : SV) (b : Bool) : SV := cond ok (.tup [v, .bool b]) v

def lookupS (C : Cx) (m : Mem) (ku : TypeDesc) (et : TypeId) (ok : Bool) (k : SV) : SV → Rs SV
  | .nilm => (C.zero et).bind fun z => .ok (okS ok z false)
  | .mp id => (match m.hp.get id with
    | some (.map es _) => (findKeyS C ku k es 0).bind fun r => (match r with
      | some (_, v) => .ok (okS ok v true)
      | none => (C.zero et).bind fun z => .ok (okS ok z false))
    | _ => .er "lookup" [.mp id])
  | v => .er "lookup" [v]

def buildS (C : Cx) (z : SV) (ps : List (Nat × SV)) : TypeDesc → Rs SV
  | .struct fs => (placesS C fs.toList).bind fun pl => (fillS (fun i => pl[i]?) z.cells ps).bind fun l => .ok (.agg l)
  | .array _ e => (C.size e).bind fun s => (fillS (fun i => some (Nat.mul i s, s)) z.cells ps).bind fun l => .ok (.agg l)
  | _ => .er "build" []

def convS (C : Cx) (m : Mem) (src dst : TypeId) (a b : TypeDesc) (v : SV) : Rs SV := match a, b, v with
    | .int _, .int k, .int _ n => .ok (.int k (wrapS k n))
    | _, _, .op _ => findFact C.facts (.conv src dst v)
    | .string, .string, .str _ _ => .ok v
    | .slice e, .string, .nils => (C.und e).bind fun u => (match u with | .int .u8 => .ok (.str 0 0) | _ => .er "convert" [v])
    | .slice e, .string, .sl id off len _ => (C.und e).bind fun u => (match u with
      | .int .u8 => (m.cells id off len).bind fun l => (bytesNum l 0).bind fun n => .ok (.str len n)
      | _ => .er "convert" [v])
    | .pointer t, .unsafePointer, .ptr id off => (match m.hp.get id with
      | some (.row _ n _ _ _) => (C.size t).bind fun s => cond (Nat.blt off n && Nat.blt 0 s) (.ok v) (.er "raw" [])
      | _ => .er "raw" [])
    | .unsafePointer, .pointer u, .ptr id off => (match m.hp.get id with
      | some (.row e n _ true _) => (C.size u).bind fun s => cond (Nat.beq off 0 && Nat.beq e u && Nat.beq n s && Nat.blt 0 s) (.ok v) (.er "raw" [])
      | _ => .er "raw" [])
    | _, _, v => .er "convert" [v]

def lenS (C : Cx) (m : Mem) (t : TypeId) (u : TypeDesc) (v : SV) : Rs SV := match u, v with
  | _, .op _ => findFact C.facts (.len t v)
  | .string, .str l _ => .ok (.int .i64 (.ofNat l))
  | .slice _, .nils => .ok (.int .i64 (.ofNat 0))
  | .slice _, .sle => .ok (.int .i64 (.ofNat 0))
  | .map _ _, .nilm => .ok (.int .i64 (.ofNat 0))
  | .slice _, .sl _ _ l _ => .ok (.int .i64 (.ofNat l))
  | .map _ _, .mp id => (match m.hp.get id with | some (.map es _) => .ok (.int .i64 (.ofNat (lenOf es 0))) | _ => .er "len" [v])
  | .array n _, _ => .ok (.int .i64 (.ofNat n))
  | _, v => .er "len" [v]

def capS (u : TypeDesc) (v : SV) : Rs SV := match u, v with
  | .slice _, .nils => .ok (.int .i64 (.ofNat 0))
  | .slice _, .sl _ _ _ (some c) => .ok (.int .i64 (.ofNat c))
  | _, v => .er "cap" [v]

def dataS (m : Mem) : SV → Rs SV
  | .nils => .ok .nilp
  | .sl id off _ (some c) => cond (Nat.blt 0 c) (.ok (.ptr id off)) (.er "sliceData" [])
  | .sl id off _ none => (match m.hp.get id with | some (.row _ n _ _ _) => cond (Nat.blt off n) (.ok (.ptr id off)) (.er "sliceData" []) | _ => .er "sliceData" [])
  | v => .er "sliceData" [v]

def builtS (C : Cx) (m : Mem) (b : Builtin) (T : List TypeId) (vs : List SV) : Rs SV := match b, vs with
  | .len, [v] => (match T with | t :: _ => (C.und t).bind fun u => lenS C m t u v | [] => .er "len" [v])
  | .cap, [v] => (match T with | t :: _ => (C.und t).bind fun u => capS u v | [] => .er "cap" [v])
  | .max, [.int k a, .int _ b] => .ok (.int k (cond (intLt a b) b a))
  | .min, [.int k a, .int _ b] => .ok (.int k (cond (intLt b a) b a))
  | .unsafeSliceData, [v] => dataS m v
  | _, vs => .er "builtin" vs

/-- Operations that change no memory. -/
def lightS (C : Cx) (s : FS) (m : Mem) : Op → Rs SV
  | .move x | .assign x => s.ev x
  | .pick c a b => (s.ev c).bind fun c => match c with
    | .bool t => cond t (s.ev a) (s.ev b)
    | v => .er "pick" [v]
  | .load t a => (s.ev a).bind fun a => cond (isOp a) (findFact C.facts (.ld t a)) (C.load m t a)
  | .nilCheck x => (s.ev x).bind fun v => match v with
    | .ptr _ _ | .gptr _ _ | .fn (.func _) _ _ => .ok v
    | v => .er "nilCheck" [v]
  | .binOp op t x y _ => (s.ev x).bind fun a => (s.ev y).bind fun b => binS C op t (isConst x || isConst y) a b
  | .unOp op _ x => (s.ev x).bind fun v => unS C op v
  | .convert src dst x => (s.ev x).bind fun v => (C.und src).bind fun a => (C.und dst).bind fun b => convS C m src dst a b v
  | .makeInterface t x => (s.ev x).bind fun v => (C.und t).bind fun u => match u with
    | .interface _ => .er "makeInterface" []
    | _ => .ok (.ifc t v)
  | .makeFunc f a b => (s.evs a.toList).bind fun a => (s.evs b.toList).bind fun b => .ok (.fn f a b)
  | .fieldAddr t x f => (s.ev x).bind fun v => (sizeField C t f).bind fun (f, z) => cond (Nat.beq z 0) (.er "fieldAddr: no cells" []) (match v with
    | .ptr id off => .ok (.ptr id (Nat.add off f.offset))
    | .gptr b off => .ok (.gptr b (Nat.add off f.offset))
    | v => .er "fieldAddr" [v])
  | .field t x f => (s.ev x).bind fun v => (sizeField C t f).bind fun (f, _) => (match v with
    | .agg cs => partS C f.type cs f.offset
    | v => .er "field" [v])
  | .indexAddr t x i => (s.ev x).bind fun v => (s.ev i).bind fun i => cond (isOp v || isOp i) (findFact C.facts (.iadr t v i)) <| (C.und t).bind fun u => (match u, v with
    | .slice e, .sl id off len _ => (asNat i).bind fun k => (C.size e).bind fun s => cond (Nat.blt k len) (.ok (.ptr id (Nat.add off (Nat.mul k s)))) (.er "index" [v, i])
    | .array len e, .ptr id off => (asNat i).bind fun k => (C.size e).bind fun s => cond (Nat.blt k len) (.ok (.ptr id (Nat.add off (Nat.mul k s)))) (.er "index" [v, i])
    | .array len e, .gptr id off => (asNat i).bind fun k => (C.size e).bind fun s => cond (Nat.blt k len) (.ok (.gptr id (Nat.add off (Nat.mul k s)))) (.er "index" [v, i])
    | _, _ => .er "indexAddr" [v, i])
  | .index t x i => (s.ev x).bind fun v => (s.ev i).bind fun i => cond (isOp v || isOp i) (findFact C.facts (.idx t v i)) ((C.und t).bind fun u => (match u, v with
    | .string, .str l n => (asNat i).bind fun k => cond (Nat.blt k l) (.ok (.int .u8 (.ofNat (strAt l n k)))) (.er "index" [v, i])
    | .array len e, .agg cs => (asNat i).bind fun k => (C.size e).bind fun s => cond (Nat.blt k len) (partS C e cs (Nat.mul k s)) (.er "index" [i])
    | _, _ => .er "index" [v, i]))
  | .slice t x lo hi mx => (s.ev x).bind fun v => (s.evO lo).bind fun lo => (s.evO hi).bind fun hi => (s.evO mx).bind fun mx => sliceS C m t v lo hi mx
  | .extract x i => (s.ev x).bind fun v => match v with
    | .tup vs => (match vs[i]? with | some v => .ok v | none => .er "extract" [])
    | v => .er "extract" [v]
  | .build t ps => (s.evParts ps.toList).bind fun ps => (C.zero t).bind fun z => cond (notAny z) ((C.und t).bind fun u => buildS C z ps u) (.er "build" [])
  | .typeAssert x _ asserted ok => (s.ev x).bind fun v => (C.und asserted).bind fun u => (match u, v with
    | .interface _, v => .er "typeAssert: interface" [v]
    | _, .ifc t w => cond (Nat.beq t asserted) (.ok (cond ok (.tup [w, .bool true]) w)) (cond ok ((C.zero asserted).bind fun z => .ok (.tup [z, .bool false])) (.er "typeAssert" [v]))
    | _, .nili => cond ok ((C.zero asserted).bind fun z => .ok (.tup [z, .bool false])) (.er "typeAssert" [v])
    | _, v => .er "typeAssert" [v])
  | .lookup t x i ok => (s.ev x).bind fun mv => (s.ev i).bind fun k => (C.und t).bind fun u => (match u with
    | .map kt et => (C.und kt).bind fun ku => cond (plainKey ku) (lookupS C m ku et ok k mv) (.er "lookup: key" [])
    | _ => .er "lookup" [])
  | .call { callee := .builtin b, args, argTypes } => (s.evs args.toList).bind fun vs => builtS C m b argTypes.toList vs
  | _ => .er "light" []

/-- What an operation comes to. -/
inductive OR where
  | val (v : SV) (m : Mem)
  | defer (d : SD) (m : Mem)
  | panic (chain : List SP) (m : Mem)

inductive CO where
  | ret (v : SV)
  | pan (chain : List SP)

structure Run where
  code : Code → FS → Mem → Rs (XE × FS × Mem)
  scope : Code → Code → FS → Mem → Rs (XE × FS × Mem)
  call : Nat → List SV → Mem → Rs (CO × Mem)

def strCells : Nat → Nat → List SV → List SV
  | 0, _, acc => acc
  | l + 1, n, acc => strCells l (Nat.div n 256) (.int .u8 (.ofNat (Nat.mod n 256)) :: acc)

/-- The cells that are appended, and how many elements they are. -/
def appended (m : Mem) (s : Nat) : SV → Rs (Nat × List SV)
  | .str l n => cond (Nat.beq s 1) (.ok (l, strCells l n [])) (.er "append" [])
  | .nils | .sle => .ok (0, [])
  | .sl id off len _ => (m.cells id off (Nat.mul len s)).bind fun l => .ok (len, l)
  | v => .er "append" [v]

def mayGrow : Fz → Bool
  | .no | .behind => true
  | _ => false

def newGrown (m : Mem) (e : TypeId) (cells : List SV) (len : Nat) (fz : Fz) : OR :=
  let r := m.new (.row e (lenOf cells 0) (rowOf cells) false fz)
  .val (.sl r.1 0 len none) r.2

def growOk (need bytes : Nat) : Bool := Nat.ble (Nat.mul (Nat.add (Nat.mul 2 need) 1000) bytes) 281474976710656 && Nat.ble need 9223372036854775807

def appendTo (m : Mem) (e : TypeId) (s bytes k : Nat) (new : List SV) : SV → Rs OR
  | .nils => cond (Nat.beq k 0) (.ok (.val .nils m)) (cond (growOk k bytes) (.ok (newGrown m e new k .behind)) (.er "append: size" []))
  | .sle => cond (Nat.beq k 0) (.ok (.val .sle m)) (.er "append: sle" [])
  | .sl id off len (some c) => cond (Nat.ble (Nat.add len k) c)
      ((m.put id (Nat.add off (Nat.mul len s)) new).bind fun m => .ok (.val (.sl id off (Nat.add len k) (some c)) m))
      (cond (growOk (Nat.add len k) bytes) ((m.cells id off (Nat.mul len s)).bind fun old => .ok (newGrown m e (old ++ new) (Nat.add len k) .behind)) (.er "append: size" []))
  | .sl id off len none => (match m.hp.get id with
    | some (.row e' n _ _ fz) => cond (Nat.beq e e') (cond (Nat.ble (Nat.add off (Nat.mul (Nat.add len k) s)) n)
        ((m.put id (Nat.add off (Nat.mul len s)) new).bind fun m => .ok (.val (.sl id off (Nat.add len k) none) m))
        (cond (mayGrow fz && growOk (Nat.add len k) bytes) ((m.cells id off (Nat.mul len s)).bind fun old => .ok (newGrown ⟨m.nx, m.hp.set id .dead⟩ e (old ++ new) (Nat.add len k) .behind)) (.er "append: marks" [])))
        (.er "append: element" [])
    | _ => .er "append: row" [])
  | v => .er "append" [v]

def isIntD : TypeDesc → Bool
  | .int _ => true
  | _ => false

def appendS (C : Cx) (m : Mem) (argTypes : List TypeId) (x y : SV) : Rs OR := match argTypes with
  | [sT, xT] => (C.und sT).bind fun u => (C.und xT).bind fun xu => (match u with
    | .slice e => cond (isIntD xu) (.er "append: make" []) ((C.info e).bind fun i => (C.zero e).bind fun z => cond (notAny z && Nat.beq (lenOf z.cells 0) i.size && Nat.blt 0 i.size)
        ((appended m i.size y).bind fun (k, new) => appendTo m e i.size i.bytes k new x) (.er "append: element" []))
    | _ => .er "append: type" [])
  | _ => .er "append: types" []

def freezeFz : Fz → Nat → Fz
  | .no, k => .below k
  | .below j, k => .below (cond (Nat.ble j k) k j)
  | _, _ => .some

def setVal (es : List Ent) : Nat → SV → List Ent
  | i, v => match es, i with
    | [], _ => []
    | e :: es, 0 => { e with val := v } :: es
    | e :: es, i + 1 => e :: setVal es i v

def addEnt (es : List Ent) (e : Ent) : List Ent := es ++ [e]

def mapSet (C : Cx) (m : Mem) (t : TypeId) (x k v : SV) : Rs Mem := (C.und t).bind fun u => match u, x with
  | .map kt _, .mp id => (C.und kt).bind fun ku => (match m.hp.get id with
    | some (.map es clock) => cond (not (plainKey ku)) (.er "mapSet: key" []) <| (findKeyS C ku k es 0).bind fun r => (match r with
      | some (i, _) => .ok { m with hp := m.hp.set id (.map (setVal es i v) clock) }
      | none => .ok { m with hp := m.hp.set id (.map (addEnt es ⟨k, v, clock⟩) (Nat.succ clock)) })
    | _ => .er "mapSet" [x])
  | _, _ => .er "mapSet" [x]

def findExt : List (Nat × Ext) → Nat → Option Ext
  | [], _ => none
  | (g, e) :: l, f => cond (Nat.beq f g) (some e) (findExt l f)

/-- The block that an operation makes, and its address. -/
def objRow (e : TypeId) (cells : List SV) (f : Nat → SV) : Rs (SO × (Nat → SV)) := cond (noAggO cells) (.ok (.row e (lenOf cells 0) (rowOf cells) true .no, f)) (.er "row" cells)
def objS (C : Cx) (s : FS) : Op → Rs (SO × (Nat → SV))
  | .alloc t => (C.zero t).bind fun z => objRow t z.cells fun id => .ptr id 0
  | .box t x => (s.ev x).bind fun v => cond (notAny v) (objRow t v.cells fun id => .ptr id 0) (.er "box" [v])
  | .buildSlice t len ps => (s.evParts ps.toList).bind fun ps => (C.und t).bind fun u => (match u with
    | .slice e => (C.size e).bind fun z => (C.zero e).bind fun v => cond (notAny v && Nat.beq (lenOf v.cells 0) z && Nat.blt 0 z && Nat.ble (Nat.mul len z) 16777216) ((fillS (fun i => some (Nat.mul i z, z)) (repeatL v.cells len) ps).bind fun cells => objRow e cells fun id => .sl id 0 len (some len)) (.er "buildSlice" [])
    | _ => .er "buildSlice" [])
  | _ => .er "obj" []

end Go.Eng
