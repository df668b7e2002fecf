import Derived.Test.YtjnejkmcmmablaaGreatDoorEngDefs
/-
  The abstract run: operations, regions, code, calls.
-/
namespace Go.Eng

def findByte (n c : Nat) (len : Nat) : Nat → Nat → Option Nat
  | 0, _ => none
  | k + 1, i => cond (Nat.beq (strAt len n i) c) (some i) (findByte n c len k (Nat.succ i))
def countByte (c : Nat) : Nat → Nat → Nat → Nat
  | 0, _, acc => acc
  | l + 1, n, acc => countByte c l (Nat.div n 256) (cond (Nat.beq (Nat.mod n 256) c) (Nat.succ acc) acc)

def anyN : Nat → List SV
  | 0 => []
  | n + 1 => .any :: anyN n

def extS (m : Mem) : Ext → List SV → Rs OR
  | .indexByteString, [.str l n, .int .u8 (.ofNat c)] => .ok (.val (.int .i64 (match findByte n (Nat.mod c 256) l l 0 with | some i => .ofNat i | none => .negSucc 0)) m)
  | .countString, [.str l n, .int .u8 (.ofNat c)] => .ok (.val (.int .i64 (.ofNat (countByte (Nat.mod c 256) l n 0))) m)
  | .noEscape, [v] => .ok (.val v m)
  | .add64, [.int .u64 (.ofNat x), .int .u64 (.ofNat y), .int .u64 (.ofNat c)] => cond (Nat.ble c 1) (.ok (.val (.tup [.int .u64 (.ofNat (Nat.mod (Nat.add (Nat.add x y) c) 18446744073709551616)), .int .u64 (.ofNat (Nat.div (Nat.add (Nat.add x y) c) 18446744073709551616))]) m)) (.er "add64" [])
  | .cmpString, [.str l n, .str l' n'] => .ok (.val (.int .i64 (cond (ltS l n l' n') (.negSucc 0) (cond (eqS l n l' n') (.ofNat 0) (.ofNat 1)))) m)
  | .makeNoZero e, [.int .i64 (.ofNat n)] => cond (Nat.ble n 1000000) (.ok (newGrown m e (anyN n) n .behind)) (.er "makeNoZero" [])
  | _, vs => .er "extern" vs

def callS (C : Cx) (ih : Run) (m : Mem) (f : Nat) (args : List SV) : Rs OR :=
  match findFact C.facts (.call f args) with
  | .ok v => .ok (.val v m)
  | .er _ _ => match findExt C.exts f with
    | some e => extS m e args
    | none => (ih.call f args m).bind fun (o, m) => match o with
      | .ret v => .ok (.val v m)
      | .pan ch => .ok (.panic ch m)

def makeSliceS (C : Cx) (m : Mem) (t : TypeId) (l c : SV) : Rs OR := (asNat l).bind fun l => (asNat c).bind fun c => (C.und t).bind fun u => (match u with
    | .slice e => (C.zero e).bind fun v => (C.info e).bind fun i => cond (Nat.ble l c && Nat.ble (Nat.mul c i.bytes) 281474976710656 && Nat.ble c 9223372036854775807 && notAny v && Nat.beq (lenOf v.cells 0) i.size && Nat.blt 0 i.size)
        ((objRow e (repeatL v.cells c) fun id => .sl id 0 l (some c)).bind fun (o, f) => .ok (.val (f m.nx) (m.new o).2)) (.er "makeSlice" [])
    | _ => .er "makeSlice" [])

def toBytesS (C : Cx) (m : Mem) (e : TypeId) (l n : Nat) : Rs OR := (C.und e).bind fun u => (C.size e).bind fun z => (match u with
  | .int .u8 => cond (Nat.beq z 1) (.ok (newGrown m e (strCells l n []) l .behind)) (.er "convert: bytes" [])
  | _ => .er "convert: runes" [])

def unsafeStringS (C : Cx) (m : Mem) (T : List TypeId) (vs : List SV) : Rs OR := match T, vs with
  | [pt, _], [.ptr id off, .int _ (.ofNat n)] => (C.und pt).bind fun pu => (match pu, m.hp.get id with
    | .pointer e', some (.row e k cells x fz) => (C.size e).bind fun z => cond (Nat.beq e e' && Nat.beq z 1 && Nat.ble n 9223372036854775807)
        (cond (Nat.beq n 0) (.ok (.val (.str 0 0) m)) ((m.cells id off n).bind fun l => (bytesNum l 0).bind fun v =>
          .ok (.val (.str n v) { m with hp := m.hp.set id (.row e k cells x (freezeFz fz (Nat.add off n))) }))) (.er "rawString" vs)
    | _, _ => .er "rawString" vs)
  | [_, _], [.nilp, .int _ (.ofNat 0)] => .ok (.val (.str 0 0) m)
  | _, vs => .er "rawString" vs

def panicS (m : Mem) : SV → Rs OR
  | .ifc t w => .ok (.panic [⟨.ifc t w, false⟩] m)
  | v => .er "panic" [v]

def deferS (m : Mem) (args : List SV) : SV → Rs OR
  | .fn fn first captured => .ok (.defer ⟨fn, captured, first ++ args⟩ m)
  | v => .er "defer" [v]

def enterS (C : Cx) (ih : Run) (m : Mem) (args : List SV) : SV → Rs OR
  | .fn (.func f) first captured => callS C ih m f (first ++ args ++ captured)
  | v => .er "call" [v]

def appendA (C : Cx) (m : Mem) (T : List TypeId) : List SV → Rs OR
  | [x, y] => appendS C m T x y
  | _ => .er "append" []

def isStrBytes : TypeDesc → TypeDesc → SV → Bool
  | .string, .slice _, .str _ _ => true
  | _, _, _ => false
def convB (C : Cx) (m : Mem) : TypeDesc → SV → Rs OR
  | .slice e, .str l n => toBytesS C m e l n
  | _, v => .er "convert" [v]

inductive Cl where
  | append | unsafeString | light | value (f : Operand) | no
def clOf : Callee → Cl
  | .builtin .append => .append
  | .builtin .unsafeString => .unsafeString
  | .builtin _ => .light
  | .value f => .value f
  | .invoke _ _ => .no

def opS (C : Cx) (ih : Run) (s : FS) (m : Mem) (o : Op) : Rs OR := match o with
  | .alloc _ | .box _ _ | .buildSlice _ _ _ => (objS C s o).bind fun (o, f) => .ok (.val (f m.nx) (m.new o).2)
  | .store t a x => (s.ev a).bind fun a => (s.ev x).bind fun v => (C.store m t a v).bind fun m => .ok (.val (.tup []) m)
  | .makeMap _ none => .ok (.val (.mp m.nx) (m.new (.map [] 0)).2)
  | .insert t x k v | .mapUpdate t x k v => (s.ev x).bind fun x => (s.ev k).bind fun k => (s.ev v).bind fun v => (mapSet C m t x k v).bind fun m => .ok (.val (.tup []) m)
  | .makeSlice t l c => (s.ev l).bind fun l => (s.ev c).bind fun c => makeSliceS C m t l c
  | .convert src dst x => (s.ev x).bind fun v => (C.und src).bind fun a => (C.und dst).bind fun b => cond (isStrBytes a b v) (convB C m b v) ((lightS C s m o).bind fun v => .ok (.val v m))
  | .panic x => (s.ev x).bind fun v => panicS m v
  | .defer c => (s.evs c.args.toList).bind fun args => (match c.callee with
    | .value f => (s.ev f).bind fun f => deferS m args f
    | _ => .er "defer" [])
  | .call c => (match clOf c.callee with
    | .append => (s.evs c.args.toList).bind fun vs => appendA C m c.argTypes.toList vs
    | .unsafeString => (s.evs c.args.toList).bind fun vs => unsafeStringS C m c.argTypes.toList vs
    | .light => (lightS C s m o).bind fun v => .ok (.val v m)
    | .value f => (s.ev f).bind fun f => (s.evs c.args.toList).bind fun args => enterS C ih m args f
    | .no => .er "invoke" [])
  | _ => (lightS C s m o).bind fun v => .ok (.val v m)

def guardOk (all : List Oper) (s : FS) (o : Oper) : Rs Bool := match o.guard with
  | none => .ok true
  | some (j, want) => match all[j]? with
    | some p => (match p.dst with
      | some d => (match s.get d with
        | .bool b => .ok (cond b want (not want))
        | .tup [] => .ok false
        | v => .er "guard" [v])
      | none => .er "guard" [])
    | none => .er "guard" []

def opsS (C : Cx) (ih : Run) (all : List Oper) : List Oper → FS → Mem → Rs (XE × FS × Mem)
  | [], s, m => .ok (.normal, s, m)
  | o :: os, s, m => (guardOk all s o).bind fun g => cond g
      ((opS C ih s m o.op).bind fun r => match r with
        | .val v m => (s.put o.dst v).bind fun s => opsS C ih all os s m
        | .defer d m => (FS.put { s with df := d :: s.df } o.dst (.tup [])).bind fun s => opsS C ih all os s m
        | .panic ch m => .ok (.panic ch, s, m))
      ((s.put o.dst (.tup [])).bind fun s => opsS C ih all os s m)


/- A region whose order is open: its plan. -/

def edgesOk (i : Nat) : List Edge → Bool
  | [] => true
  | e :: es => (cond (Region.binds .any e) (Nat.blt e.on i) true) && edgesOk i es
def edgeMask (tab : Tr Nat) : List Edge → Nat → Nat
  | [], acc => acc
  | e :: es, acc => edgeMask tab es (cond (Region.binds .any e) (Nat.lor acc (Nat.lor (Nat.pow 2 e.on) (match tab.get e.on with | some k => k | none => 0))) acc)
def masksOf : List Oper → Nat → Tr Nat → Tr Nat
  | [], _, tab => tab
  | o :: os, i, tab => masksOf os (Nat.succ i) (tab.set i (edgeMask tab o.after.toList 0))
def maskAt (tab : Tr Nat) (i : Nat) : Nat := match tab.get i with | some k => k | none => 0

def writersOf : List Oper → Nat → Tr Nat → Rs (Tr Nat)
  | [], _, tab => .ok tab
  | o :: os, i, tab => match o.dst with
    | none => writersOf os (Nat.succ i) tab
    | some d => match tab.get d with
      | some _ => .er "draw: written twice" []
      | none => writersOf os (Nat.succ i) (tab.set d i)

def undT (T : Tr TypeInfo) (t : TypeId) : Rs TypeDesc := match T.get t with
  | some i => (match i.desc with | .named _ u => (match T.get u with | some j => .ok j.desc | none => .er "no type" []) | d => .ok d)
  | none => .er "no type" []

/-- 0: it changes no memory; 1: it makes a block; 2: all others. -/
def opClass (T : Tr TypeInfo) : Op → Nat
  | .alloc _ | .box _ _ | .buildSlice _ _ _ => 1
  | .move _ | .assign _ | .pick _ _ _ | .load _ _ | .nilCheck _ | .binOp _ _ _ _ _ | .unOp _ _ _ | .makeInterface _ _ | .makeFunc _ _ _ | .fieldAddr _ _ _ | .field _ _ _
  | .indexAddr _ _ _ | .index _ _ _ | .slice _ _ _ _ _ | .extract _ _ | .build _ _ | .typeAssert _ _ _ _ | .lookup _ _ _ _ => 0
  | .convert _ dst _ => (match undT T dst with | .ok (.slice _) => 2 | _ => 0)
  | .call c => (match c.callee with | .builtin .len | .builtin .cap | .builtin .max | .builtin .min | .builtin .unsafeSliceData => 0 | _ => 2)
  | _ => 2

structure DI where
  ix : Nat
  o : Oper
  cls : Nat
  lo : Nat
  hi : Nat

def heaviesOf (T : Tr TypeInfo) : List Oper → Nat → List Nat
  | [], _ => []
  | o :: os, i => cond (Nat.beq (opClass T o.op) 2) (i :: heaviesOf T os (Nat.succ i)) (heaviesOf T os (Nat.succ i))

/-- Each one stands behind the one ahead of it. -/
def chained (tab : Tr Nat) : List Nat → Bool
  | h :: g :: l => Nat.testBit (maskAt tab g) h && chained tab (g :: l)
  | _ => true

/-- How many of the heavy ones stand ahead of i for sure. -/
def loOf (mask : Nat) : List Nat → Nat → Nat → Nat
  | [], _, acc => acc
  | h :: hs, a, acc => loOf mask hs (Nat.succ a) (cond (Nat.testBit mask h) (Nat.succ a) acc)
/-- How many of them may stand ahead of i. -/
def hiOf (tab : Tr Nat) (i : Nat) : List Nat → Nat → Nat
  | [], a => a
  | h :: hs, a => cond (Nat.testBit (maskAt tab h) i) a (hiOf tab i hs (Nat.succ a))

def looksOk (wr tab : Tr Nat) (i : Nat) : List Tmp → Bool
  | [] => true
  | t :: ts => (match wr.get t with | none => true | some j => Nat.testBit (maskAt tab i) j) && looksOk wr tab i ts

def itemsOf (T : Tr TypeInfo) (ops : Array Oper) (wr tab : Tr Nat) (hs : List Nat) : List Oper → Nat → Rs (List DI)
  | [], _ => .ok []
  | o :: os, i => cond (edgesOk i o.after.toList && looksOk wr tab i (o.looksAt ops))
      ((itemsOf T ops wr tab hs os (Nat.succ i)).bind fun l => .ok (⟨i, o, opClass T o.op, loOf (maskAt tab i) hs 0 0, hiOf tab i hs 0⟩ :: l))
      (.er "draw: an operand's order" [])

structure Plan where
  items : List DI
  hs : List Nat

def planOf (T : Tr TypeInfo) (ops : Array Oper) : Rs Plan :=
  let tab := masksOf ops.toList 0 .lf
  let hs := heaviesOf T ops.toList 0
  (writersOf ops.toList 0 .lf).bind fun wr => cond (chained tab hs)
    ((itemsOf T ops wr tab hs ops.toList 0).bind fun l => .ok ⟨l, hs⟩) (.er "draw: not chained" [])

/-- The plan of a region: of the types alone. -/
def Cx.plan (C : Cx) (ops : Array Oper) : Rs Plan := match C with
  | ⟨_, _, T, _, _⟩ => planOf T ops

def idOf : SV → Rs Nat
  | .ptr id _ | .sl id _ _ _ => .ok id
  | v => .er "idOf" [v]

structure St where
  mem : Mem          -- what is there ahead of the stage's heavy operation
  hv : Option (DI × FS × SV × Mem)

/-- What stands in a stage, but for its heavy operation. -/
def stageS (C : Cx) (all : List Oper) (k : Nat) : List DI → FS → Mem → Rs (FS × Mem)
  | [], s, m => .ok (s, m)
  | d :: ds, s, m => cond (Nat.beq d.lo k && Nat.blt d.cls 2)
      ((guardOk all s d.o).bind fun g => cond g
        (cond (Nat.beq d.cls 1)
          ((objS C s d.o.op).bind fun (o, f) => (s.put d.o.dst (f m.nx)).bind fun s => stageS C all k ds s (m.new o).2)
          ((lightS C s m d.o.op).bind fun v => (s.put d.o.dst v).bind fun s => stageS C all k ds s m))
        ((s.put d.o.dst (.tup [])).bind fun s => stageS C all k ds s m))
      (stageS C all k ds s m)

def anyDst : List DI → FS → Rs FS
  | [], s => .ok s
  | d :: ds, s => (s.put d.o.dst .any).bind fun s => anyDst ds s

def dstV (s : FS) (o : Oper) : SV := match o.dst with
  | some t => s.get t
  | none => .any

def stagesS (C : Cx) (ih : Run) (all : List Oper) (items : List DI) : List Nat → Nat → FS → Mem → List St → Rs (XE × FS × Mem × List St)
  | [], k, s, m, acc => (stageS C all k items s m).bind fun (s, m) => .ok (.normal, s, m, ⟨m, none⟩ :: acc)
  | i :: hs, k, s, m, acc => (stageS C all k items s m).bind fun (s, m) => match items[i]? with
    | none => .er "draw: items" []
    | some d => (guardOk all s d.o).bind fun g => cond g
        ((opS C ih s m d.o.op).bind fun r => match r with
          | .val v m' => (s.put d.o.dst v).bind fun s' => stagesS C ih all items hs (Nat.succ k) s' m' (⟨m, some (d, s, v, m')⟩ :: acc)
          | .panic ch m' => .ok (.panic ch, s, m', ⟨m, some (d, s, dstV s d.o, m')⟩ :: acc)
          | .defer _ _ => .er "draw: defer" [])
        ((s.put d.o.dst (.tup [])).bind fun s' => stagesS C ih all items hs (Nat.succ k) s' m (⟨m, some (d, s, .tup [], m)⟩ :: acc))

def cellsBeq (a b : Tr SV) : Nat → Bool
  | 0 => true
  | n + 1 => (match a.get n, b.get n with | some x, some y => SV.beq x y | _, _ => false) && cellsBeq a b n
def fzNo : Fz → Bool
  | .no => true
  | _ => false

/-- Is a block as it was made? -/
def sameRow : SO → Option SO → Bool
  | .row e n c true .no, some (.row e' n' c' true .no) => Nat.beq e e' && Nat.beq n n' && cellsBeq c c' n
  | _, _ => false

def dstIs (s : FS) (o : Oper) (v : SV) : Bool := match o.dst with
  | none => true
  | some d => SV.beq (s.get d) v

/-- Does an item that is no heavy one come to the same in a stage? -/
def sameIn (C : Cx) (all : List Oper) (s : FS) (d : DI) (m : Mem) : Bool := match guardOk all s d.o with
  | .ok true => cond (Nat.beq d.cls 1)
      (match objS C s d.o.op, d.o.dst with
        | .ok (o, f), some t => (match idOf (s.get t) with | .ok id => SV.beq (s.get t) (f id) && sameRow o (m.hp.get id) && Nat.blt id m.nx | .er _ _ => false)
        | _, _ => false)
      (match lightS C s m d.o.op with | .ok v => dstIs s d.o v | .er _ _ => false)
  | .ok false => dstIs s d.o (.tup [])
  | .er _ _ => false

/-- The stages from lo to hi. -/
def allIn (C : Cx) (all : List Oper) (s : FS) (d : DI) : List St → Nat → Bool
  | [], _ => true
  | t :: ts, k => (cond (Nat.ble d.lo k && Nat.ble k d.hi) (sameIn C all s d t.mem) true) && allIn C all s d ts (Nat.succ k)

def looksSame (s s' : FS) : List Tmp → Bool
  | [] => true
  | t :: ts => SV.beq (s.get t) (s'.get t) && looksSame s s' ts

/-- The number of the block that an item has made, if it has. -/
def madeId (all : List Oper) (s : FS) (d : DI) : Option Nat := cond (Nat.beq d.cls 1)
  (match guardOk all s d.o, d.o.dst with
    | .ok true, some t => (match idOf (s.get t) with | .ok id => some id | .er _ _ => none)
    | _, _ => none) none

def madeIds (all : List Oper) (s : FS) : List DI → List Nat
  | [] => []
  | d :: ds => match madeId all s d with | some id => id :: madeIds all s ds | none => madeIds all s ds

def notIn (n : Nat) : List Nat → Bool
  | [] => true
  | k :: ks => not (Nat.beq n k) && notIn n ks
def apart : List Nat → Bool
  | [] => true
  | k :: ks => notIn k ks && apart ks

/-- None of the blocks that the items make lies among those that the heavy operation of a stage made. -/
def noneMade (lo hi : Nat) : List Nat → Bool
  | [] => true
  | k :: ks => (Nat.blt k lo || Nat.ble hi k) && noneMade lo hi ks

def stOk (all : List Oper) (ops : Array Oper) (sF : FS) (made : List Nat) : List St → Bool
  | [] => true
  | t :: ts => (match t.hv with
      | some (d, s, v, m') => dstIs sF d.o v && looksSame s sF (d.o.looksAt ops) && noneMade t.mem.nx m'.nx made
      | none => true) && stOk all ops sF made ts

def itemsOk (C : Cx) (all : List Oper) (sF : FS) (sts : List St) : List DI → Bool
  | [] => true
  | d :: ds => (cond (Nat.blt d.cls 2) (allIn C all sF d sts 0) true) && itemsOk C all sF sts ds

def upTo (k : Nat) : List DI → List DI
  | [] => []
  | d :: ds => cond (Nat.ble d.lo k) (d :: upTo k ds) (upTo k ds)

def dstsOk (n : Nat) : List DI → Bool
  | [] => true
  | d :: ds => (match d.o.dst with | some t => Nat.blt t n | none => true) && dstsOk n ds

/-- Do all orders come to the same? (sF: what the run in one of them has laid; m: where the region begins.) -/
def drawOk (C : Cx) (ops : Array Oper) (sF : FS) (m : Mem) (items : List DI) (sts : List St) : Bool :=
  let made := madeIds ops.toList sF items
  dstsOk sF.sz items && itemsOk C ops.toList sF sts items && stOk ops.toList ops sF made sts && apart made && noneMade 0 m.nx made

def drawS (C : Cx) (ih : Run) (ops : Array Oper) (s : FS) (m : Mem) : Rs (XE × FS × Mem) :=
  (C.plan ops).bind fun p => (stagesS C ih ops.toList p.items p.hs 0 s m []).bind fun (e, sF, mF, sts) =>
    cond (drawOk C ops sF m (upTo (Nat.pred (lenOf sts 0)) p.items) sts.reverse) (match e with
      | .normal => .ok (.normal, sF, mF)
      | .panic ch => (anyDst p.items s).bind fun s' => .ok (.panic ch, s', mF)
      | _ => .er "draw" []) (.er "draw: it hangs on the order" [])

def codeS (C : Cx) (ih : Run) (c : Code) (s : FS) (m : Mem) : Rs (XE × FS × Mem) := match c with
  | .skip | .label _ => .ok (.normal, s, m)
  | .region _ ops d => cond d (drawS C ih ops s m) (opsS C ih ops.toList ops.toList s m)
  | .seq a b => (ih.code a s m).bind fun (e, s, m) => (match e with
    | .normal => ih.code b s m
    | e => .ok (e, s, m))
  | .cond x a b => (s.ev x).bind fun v => (match v with
    | .bool t => cond t (ih.code a s m) (ih.code b s m)
    | v => .er "cond" [v])
  | .block id c => (ih.code c s m).bind fun (e, s, m) => (match e with
    | .exit i => cond (Nat.beq i id) (.ok (.normal, s, m)) (.ok (.exit i, s, m))
    | e => .ok (e, s, m))
  | .loop c => (ih.code c s m).bind fun (e, s, m) => (match e with
    | .normal => ih.code (.loop c) s m
    | e => .ok (e, s, m))
  | .exit id => .ok (.exit id, s, m)
  | .goto l => .ok (.goto l, s, m)
  | .ret => .ok (.ret, s, m)
  | .scope c => ih.scope c c s m
  | .rangeFunc .. => .er "rangeFunc" []
  | .refuse w => .er w []

/-- A scope's code, from a place of it on. -/
def scopeS (ih : Run) (c cur : Code) (s : FS) (m : Mem) : Rs (XE × FS × Mem) := (ih.code cur s m).bind fun (e, s, m) => (match e with
  | .goto l => (match findLabel c l with
    | some rest => ih.scope c rest s m
    | none => .ok (.goto l, s, m))
  | e => .ok (e, s, m))

/-- The 'recover' that a region begins with. -/
def recTmp : Oper → Option Tmp
  | { dst := some t, op := .call { callee := .builtin .recover, .. }, guard := none, .. } => some t
  | _ => none
def recAt : Bool → List Oper → Option (Tmp × List Oper)
  | false, o :: os => (match recTmp o with | some t => some (t, os) | none => none)
  | _, _ => none
def recS : Option (List SP) → Rs (SV × Option (List SP))
  | some (⟨v, false⟩ :: older) => .ok (v, some (⟨v, true⟩ :: older))
  | u => .ok (.nili, u)

/-- A deferred call's code, which may ask whether its caller is panicking ('none': it returns). -/
def codeD (C : Cx) (ih : Run) : Code → FS → Option (List SP) → Mem → Rs (XE × FS × Option (List SP) × Mem)
  | .seq a b, s, u, m => (codeD C ih a s u m).bind fun (e, s, u, m) => (match e with
    | .normal => codeD C ih b s u m
    | e => .ok (e, s, u, m))
  | .cond x a b, s, u, m => (s.ev x).bind fun v => (match v with
    | .bool t => cond t (codeD C ih a s u m) (codeD C ih b s u m)
    | v => .er "cond" [v])
  | .region i ops d, s, u, m => (match recAt d ops.toList with
    | some (t, os) => (recS u).bind fun (v, u) => (s.put (some t) v).bind fun s => (opsS C ih ops.toList os s m).bind fun (e, s, m) => .ok (e, s, u, m)
    | none => (ih.code (.region i ops d) s m).bind fun (e, s, m) => .ok (e, s, u, m))
  | c, s, u, m => (ih.code c s m).bind fun (e, s, m) => .ok (e, s, u, m)

def putArgs : List SV → Nat → Tr SV → Tr SV
  | [], _, t => t
  | v :: vs, k, t => putArgs vs (Nat.succ k) (t.set k v)

def frame (fn : Func) (args : List SV) : FS := ⟨cond (Nat.ble fn.ntmps (lenOf args 0)) (lenOf args 0) fn.ntmps, putArgs args 0 .lf, []⟩

def resS (C : Cx) (s : FS) (m : Mem) : List ResultVar → Rs (List SV)
  | [] => .ok []
  | .tmp t :: l => (resS C s m l).bind fun vs => .ok (s.get t :: vs)
  | .cell a t :: l => (C.load m t (s.get a)).bind fun v => (resS C s m l).bind fun vs => .ok (v :: vs)
def resOne : List SV → SV
  | [v] => v
  | vs => .tup vs

def settleS : Option (List SP) → Option (List SP)
  | some (⟨_, true⟩ :: _) => none
  | u => u
def raisedS (u : Option (List SP)) (ch : List SP) : Option (List SP) := match u with
  | some old => some (ch ++ old)
  | none => some ch

def callD (C : Cx) (ih : Run) (d : SD) (u : Option (List SP)) (m : Mem) : Rs (Option (List SP) × Mem) := match d.fn with
  | .func f => (match C.funcs.get f with
    | some fn => (match fn.body with
      | some c => (codeD C ih c (frame fn (d.args ++ d.captured)) u m).bind fun (e, s, u, m) => (match s.df with
        | [] => (match e with
          | .normal | .ret => (resS C s m fn.results.toList).bind fun _ => .ok (settleS u, m)
          | .panic ch => .ok (raisedS u ch, m)
          | _ => .er "callD: exit" [])
        | _ => .er "callD: defers" [])
      | none => .er "callD: no body" [])
    | none => .er "callD: no function" [])
  | _ => .er "callD: fn" []

def leaveS (C : Cx) (ih : Run) (fn : Func) (s : FS) : List SD → Option (List SP) → Mem → Rs (CO × Mem)
  | [], none, m => (resS C s m fn.results.toList).bind fun vs => .ok (.ret (resOne vs), m)
  | [], some ch, m => .ok (.pan ch, m)
  | d :: ds, u, m => (callD C ih d u m).bind fun (u, m) => leaveS C ih fn s ds u m

def fnS (C : Cx) (ih : Run) (f : Nat) (args : List SV) (m : Mem) : Rs (CO × Mem) := match C.funcs.get f with
  | some fn => (match fn.body with
    | some c => (ih.code c (frame fn args) m).bind fun (e, s, m) => (match e with
      | .normal | .ret => leaveS C ih fn s s.df none m
      | .panic ch => leaveS C ih fn s s.df (some ch) m
      | _ => .er "exit" [])
    | none => .er "no body" [.int .i64 (.ofNat f)])
  | none => .er "no function" [.int .i64 (.ofNat f)]

def stepR (C : Cx) (ih : Run) : Run := ⟨codeS C ih, scopeS ih, fnS C ih⟩
def run (C : Cx) : Nat → Run
  | 0 => ⟨fun _ _ _ => .er "fuel" [], fun _ _ _ _ => .er "fuel" [], fun _ _ _ => .er "fuel" []⟩
  | n + 1 => stepR C (run C n)

end Go.Eng
