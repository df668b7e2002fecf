import Derived.Test.YtjnejkmcmmablaaGreatDoorEngRun
/-
  stream.Run over two scripts, line by line.
-/
namespace Go.Eng

/-- The parts of Run's code. -/
structure RunParts where
  r0 : Code
  r1 : Code
  r2 : Code
  l : Nat
  id : Nat
  body : Code
  r17 : Code

def runParts : Code → Option RunParts
  | .seq r0 (.scope (.seq r1 (.seq r2 (.seq (.label l) (.seq (.block id (.loop body)) (.seq r17 .ret)))))) => some ⟨r0, r1, r2, l, id, body, r17⟩
  | _ => none

def cmdCells (op kind n : Nat) (nt : Bool) : List SV :=
  [.int .u8 (.ofNat op), .int .i64 (.ofNat kind), .int .i64 (.ofNat n), .nils, .int .i64 (.ofNat 0), .int .i64 (.ofNat 0), .nils, .bool nt, .nils, .nils, .bool false, .bool false, .str 0 0]

def script1 : List SV := cmdCells 71 1 1 true ++ cmdCells 104 0 0 false ++ cmdCells 100 2 0 true
def script2 : List SV := cmdCells 104 0 0 false ++ cmdCells 120 0 0 false ++ cmdCells 103 0 0 false

def startMem (l : List SV) : Mem := ⟨1, Tr.set .lf 0 (.row 32 (lenOf l 0) (rowOf l) true .no)⟩
def startArgs : List SV := [.sl 0 0 3 (some 3), .op 0, .bool false, .int .i64 (.ofNat 1500)]

/- The numbers of what is not known: 0 the lines, 1 how many; of line k: where it lies, the line, the line and an end, all lines up to it, how long these are. -/
def oAddr (k : Nat) : SV := .op (Nat.add 2 (Nat.mul 5 k))
def oLine (k : Nat) : SV := .op (Nat.add 3 (Nat.mul 5 k))
def oEnd (k : Nat) : SV := .op (Nat.add 4 (Nat.mul 5 k))
def oAll (k : Nat) : SV := cond (Nat.beq k 0) (oLine 0) (.op (Nat.add 5 (Nat.mul 5 k)))
def oLen (k : Nat) : SV := .op (Nat.add 6 (Nat.mul 5 k))
def i64 (n : Nat) : SV := .int .i64 (.ofNat n)
def maxShell : Nat := 65536

def nowFacts (k : Nat) (last : Bool) : List Fact :=
  [⟨.len 22 (.op 0), .op 1⟩, ⟨.bin .lss 3 (i64 k) (.op 1), .bool true⟩, ⟨.iadr 22 (.op 0) (i64 k), oAddr k⟩, ⟨.ld 9 (oAddr k), oLine k⟩, ⟨.bin .eql 3 (i64 (Nat.succ k)) (.op 1), .bool last⟩]
def sumFacts (k : Nat) : List Fact := cond (Nat.beq k 0) []
  [⟨.bin .add 9 (oLine k) (.str 1 10), oEnd k⟩, ⟨.bin .add 9 (oEnd k) (oAll (Nat.pred k)), oAll k⟩, ⟨.len 9 (oAll k), oLen k⟩, ⟨.bin .gtr 3 (oLen k) (i64 maxShell), .bool false⟩]
def endFacts (k : Nat) : List Fact := [⟨.len 22 (.op 0), .op 1⟩, ⟨.bin .lss 3 (i64 k) (.op 1), .bool false⟩]

def Cx.with (C : Cx) (fs : List Fact) : Cx := { C with facts := fs }

abbrev SM := FS × Mem

def asNormal : Rs (XE × FS × Mem) → Rs SM
  | .ok (.normal, s, m) => .ok (s, m)
  | .ok _ => .er "asNormal" []
  | .er a b => .er a b

def fuelN : Nat := 1000

/- A state laid out in full: the same state; the kernel then has no thunks to carry along. -/
def fNat {β : Type} (n : Nat) (k : Nat → β) : β := match n with
  | 0 => k 0
  | Nat.succ p => k (Nat.succ p)
def fInt {β : Type} (n : Int) (k : Int → β) : β := match n with
  | .ofNat n => fNat n fun n => k (.ofNat n)
  | .negSucc n => fNat n fun n => k (.negSucc n)
def fBool {β : Type} (b : Bool) (k : Bool → β) : β := match b with
  | true => k true
  | false => k false
def fOptNat {β : Type} (o : Option Nat) (k : Option Nat → β) : β := match o with
  | none => k none
  | some n => fNat n fun n => k (some n)
mutual
def fSV {β : Type} : SV → (SV → β) → β
  | .bool b, k => fBool b fun b => k (.bool b)
  | .int t n, k => fInt n fun n => k (.int t n)
  | .str l n, k => fNat l fun l => fNat n fun n => k (.str l n)
  | .nilp, k => k .nilp
  | .ptr i o, k => fNat i fun i => fNat o fun o => k (.ptr i o)
  | .gptr b o, k => fNat b fun b => fNat o fun o => k (.gptr b o)
  | .nils, k => k .nils
  | .sl i o l c, k => fNat i fun i => fNat o fun o => fNat l fun l => fOptNat c fun c => k (.sl i o l c)
  | .sle, k => k .sle
  | .nilm, k => k .nilm
  | .mp i, k => fNat i fun i => k (.mp i)
  | .fn f a c, k => fSVs a fun a => fSVs c fun c => k (.fn f a c)
  | .nilf, k => k .nilf
  | .ifc t v, k => fSV v fun v => k (.ifc t v)
  | .nili, k => k .nili
  | .agg cs, k => fSVs cs fun cs => k (.agg cs)
  | .tup cs, k => fSVs cs fun cs => k (.tup cs)
  | .op i, k => fNat i fun i => k (.op i)
  | .any, k => k .any
def fSVs {β : Type} : List SV → (List SV → β) → β
  | [], k => k []
  | x :: xs, k => fSV x fun x => fSVs xs fun xs => k (x :: xs)
end
def fTr {α β : Type} (f : α → (α → β) → β) : Tr α → (Tr α → β) → β
  | .lf, k => k .lf
  | .nd none l r, k => fTr f l fun l => fTr f r fun r => k (.nd none l r)
  | .nd (some v) l r, k => f v fun v => fTr f l fun l => fTr f r fun r => k (.nd (some v) l r)
def fFz {β : Type} (z : Fz) (k : Fz → β) : β := match z with
  | .no => k .no
  | .below n => fNat n fun n => k (.below n)
  | .behind => k .behind
  | .some => k .some
def fEnts {β : Type} : List Ent → (List Ent → β) → β
  | [], k => k []
  | e :: es, k => fSV e.key fun a => fSV e.val fun b => fNat e.born fun n => fEnts es fun es => k (⟨a, b, n⟩ :: es)
def fSO {β : Type} : SO → (SO → β) → β
  | .row e n cells x z, k => fNat n fun n => fTr fSV cells fun cells => fBool x fun x => fFz z fun z => k (.row e n cells x z)
  | .map es c, k => fEnts es fun es => fNat c fun c => k (.map es c)
  | .sit l n p, k => fNat l fun l => fNat n fun n => fNat p fun p => k (.sit l n p)
  | .dead, k => k .dead
def fMem {β : Type} (m : Mem) (k : Mem → β) : β := fNat m.nx fun n => fTr fSO m.hp fun h => k ⟨n, h⟩
def fFS {β : Type} (s : FS) (k : FS → β) : β := fNat s.sz fun n => fTr fSV s.tm fun t => k ⟨n, t, s.df⟩
def fSM {β : Type} (x : SM) (k : SM → β) : β := fFS x.1 fun s => fMem x.2 fun m => k (s, m)

theorem fNat_eq {β : Type} (n : Nat) (k : Nat → β) : fNat n k = k n := by cases n <;> rfl
theorem fInt_eq {β : Type} (n : Int) (k : Int → β) : fInt n k = k n := by cases n <;> simp [fInt, fNat_eq]
theorem fBool_eq {β : Type} (n : Bool) (k : Bool → β) : fBool n k = k n := by cases n <;> rfl
theorem fOptNat_eq {β : Type} (n : Option Nat) (k : Option Nat → β) : fOptNat n k = k n := by cases n <;> simp [fOptNat, fNat_eq]
mutual
theorem fSV_eq {β : Type} : ∀ (x : SV) (k : SV → β), fSV x k = k x
  | .bool b, k => by simp [fSV, fBool_eq]
  | .int t n, k => by simp [fSV, fInt_eq]
  | .str l n, k => by simp [fSV, fNat_eq]
  | .nilp, k => by simp [fSV]
  | .ptr i o, k => by simp [fSV, fNat_eq]
  | .gptr b o, k => by simp [fSV, fNat_eq]
  | .nils, k => by simp [fSV]
  | .sl i o l c, k => by simp [fSV, fNat_eq, fOptNat_eq]
  | .sle, k => by simp [fSV]
  | .nilm, k => by simp [fSV]
  | .mp i, k => by simp [fSV, fNat_eq]
  | .fn f a c, k => by rw [fSV, fSVs_eq a]; rw [fSVs_eq c]
  | .nilf, k => by simp [fSV]
  | .ifc t v, k => by rw [fSV, fSV_eq v]
  | .nili, k => by simp [fSV]
  | .agg cs, k => by rw [fSV, fSVs_eq cs]
  | .tup cs, k => by rw [fSV, fSVs_eq cs]
  | .op i, k => by simp [fSV, fNat_eq]
  | .any, k => by simp [fSV]
theorem fSVs_eq {β : Type} : ∀ (x : List SV) (k : List SV → β), fSVs x k = k x
  | [], k => by simp [fSVs]
  | x :: xs, k => by rw [fSVs, fSV_eq x]; rw [fSVs_eq xs]
end
theorem fTr_eq {α β : Type} {f : α → (α → β) → β} (hf : ∀ x k, f x k = k x) : ∀ (t : Tr α) (k : Tr α → β), fTr f t k = k t
  | .lf, k => rfl
  | .nd none l r, k => by rw [fTr, fTr_eq hf l, fTr_eq hf r]
  | .nd (some v) l r, k => by rw [fTr, hf, fTr_eq hf l, fTr_eq hf r]
theorem fFz_eq {β : Type} (z : Fz) (k : Fz → β) : fFz z k = k z := by cases z <;> simp [fFz, fNat_eq]
theorem fEnts_eq {β : Type} : ∀ (x : List Ent) (k : List Ent → β), fEnts x k = k x
  | [], k => rfl
  | e :: es, k => by rw [fEnts, fSV_eq, fSV_eq, fNat_eq, fEnts_eq es]
theorem fSO_eq {β : Type} : ∀ (x : SO) (k : SO → β), fSO x k = k x
  | .row e n cells x z, k => by rw [fSO, fNat_eq, fTr_eq fSV_eq, fBool_eq, fFz_eq]
  | .map es c, k => by rw [fSO, fEnts_eq, fNat_eq]
  | .sit l n p, k => by rw [fSO, fNat_eq, fNat_eq, fNat_eq]
  | .dead, k => rfl
theorem fSM_eq {β : Type} (x : SM) (k : SM → β) : fSM x k = k x := by
  obtain ⟨⟨a, b, c⟩, ⟨d, e⟩⟩ := x
  rw [fSM, fFS, fNat_eq, fTr_eq fSV_eq, fMem, fNat_eq, fTr_eq fSO_eq]

/-- From the start to the loop. -/
def begin1 (C : Cx) (P : RunParts) (fn : Func) (l : List SV) : Rs SM :=
  (asNormal ((run (C.with [⟨.len 22 (.op 0), .op 1⟩]) fuelN).code P.r0 (frame fn startArgs) (startMem l))).bind fun (s, m) =>
  (asNormal ((run (C.with []) fuelN).code P.r1 s m)).bind fun (s, m) =>
  asNormal ((run (C.with []) fuelN).code P.r2 s m)

/-- A line. -/
def round1 (C : Cx) (P : RunParts) (k : Nat) (last : Bool) : SM → Rs SM
  | (s, m) => asNormal ((run (C.with (nowFacts k last ++ sumFacts k)) fuelN).code P.body s m)

/-- Behind the last line, of k. -/
def end1 (C : Cx) (P : RunParts) (fn : Func) (k : Nat) : SM → Rs (List SV × Mem)
  | (s, m) => match (run (C.with (endFacts k)) fuelN).code P.body s m with
    | .ok (.exit i, s, m) => cond (Nat.beq i P.id)
      ((asNormal ((run (C.with []) fuelN).code P.r17 s m)).bind fun (s, m) => match s.df with | [] => (resS (C.with []) s m fn.results.toList).bind fun vs => .ok (vs, m) | _ => .er "end1" []) (.er "end1" [])
    | .ok _ => .er "end1" []
    | .er a b => .er a b

def isOk {α : Type} : Rs α → (α → Bool) → Bool
  | .ok a, f => f a
  | .er _ _, _ => false

def cellsAre (m : Mem) (out : SV) (want : List SV) : Bool := match out with
  | .sl id off len _ => Nat.beq len (lenOf want 0) && isOk (m.cells id off len) (SV.beqs want)
  | _ => false

def linesUpTo : Nat → List SV → List SV
  | 0, acc => acc
  | n + 1, acc => linesUpTo n (oLine n :: acc)

/-- What the first script leaves, of k + 1 lines; the second. -/
def good1 (k : Nat) : List SV × Mem → Bool
  | ([out, .int _ _, .int .i64 (.ofNat 0)], m) => cellsAre m out [oAll k]
  | _ => false
def good2 (k : Nat) : List SV × Mem → Bool
  | ([out, .int _ _, .int .i64 (.ofNat 0)], m) => cellsAre m out (linesUpTo (Nat.succ k) [])
  | _ => false

/-- Lines from k on: each may be the last; the state behind them, where there is one more. -/
def fwd (C : Cx) (P : RunParts) (fn : Func) (good : Nat → List SV × Mem → Bool) : Nat → Nat → SM → Rs SM
  | 0, _, x => .ok x
  | n + 1, k, x => cond (isOk (round1 C P k true x) (fun y => isOk (end1 C P fn (Nat.succ k) y) (good k)))
      ((round1 C P k false x).bind fun y => fSM y fun y => fNat (Nat.succ k) fun k => fwd C P fn good n k y) (.er "fwd" [])

/-- Some blocks alone. -/
def keepIds (h : Tr SO) : List Nat → Tr SO
  | [] => .lf
  | i :: is => match h.get i with
    | some o => (keepIds h is).set i o
    | none => keepIds h is
def keep (ids : List Nat) (x : SM) : SM := (x.1, ⟨x.2.nx, keepIds x.2.hp ids⟩)

/-- Lines from k on; of the state behind them some blocks alone. -/
def seg (C : Cx) (fn : Func) (good : Nat → List SV × Mem → Bool) (n k : Nat) (ids : List Nat) (x : SM) : Rs SM := match fn.body with
  | some c => (match runParts c with
    | some P => (fwd C P fn good n k x).bind fun y => fSM (keep ids y) fun y => .ok y
    | none => .er "seg" [])
  | none => .er "seg" []
def segStart (C : Cx) (fn : Func) (l : List SV) : Rs SM := match fn.body with
  | some c => (match runParts c with
    | some P => (begin1 C P fn l).bind fun y => fSM y fun y => .ok y
    | none => .er "seg" [])
  | none => .er "seg" []

end Go.Eng
