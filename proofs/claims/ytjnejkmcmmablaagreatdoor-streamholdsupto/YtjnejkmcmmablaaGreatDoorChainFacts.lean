import Derived.Test.YtjnejkmcmmablaaGreatDoorEngTop
import Derived.Test.YtjnejkmcmmablaaGreatDoorChain
/-
  The facts of the lines.
-/
namespace Go.Eng
open Go.RowKit

/-- The lines, as they lie in memory. -/
structure LinesAt (w0 : World) (blk off n : Nat) (L : Nat → ByteArray) : Prop where
  old : blk < w0.heap.size
  cell : ∀ k, k < n → w0.cell? ⟨blk, off + k, none⟩ = some (.string (L k))

def endOf : ByteArray := mkStr 1 10

/-- The lines up to k, the last one first. -/
def allOf (L : Nat → ByteArray) : Nat → ByteArray
  | 0 => L 0
  | k + 1 => (L (k + 1) ++ endOf) ++ allOf L k

/-- What is not known, by its number. -/
def rhoOf (blk off n cap : Nat) (L : Nat → ByteArray) : Nat → Value
  | 0 => .slice (some ⟨blk, off, none⟩) n cap
  | 1 => .int .i64 (n : Int)
  | i + 2 => match i % 5 with
    | 0 => .pointer (some ⟨blk, off + i / 5, none⟩)
    | 1 => .string (L (i / 5))
    | 2 => .string (L (i / 5) ++ endOf)
    | 3 => .string (allOf L (i / 5))
    | _ => .int .i64 ((allOf L (i / 5)).size : Int)

section
variable {blk off n cap : Nat} {L : Nat → ByteArray}

theorem rho_one (i : Nat) : (rhoOf blk off n cap L i).oneCell' = true := by
  unfold rhoOf
  split
  · rfl
  · rfl
  · split <;> rfl

theorem rho_addr (k : Nat) : rhoOf blk off n cap L (Nat.add 2 (Nat.mul 5 k)) = .pointer (some ⟨blk, off + k, none⟩) := by
  have e : Nat.add 2 (Nat.mul 5 k) = 5 * k + 2 := Nat.add_comm 2 (5 * k)
  rw [e]
  have h1 : 5 * k % 5 = 0 := by omega
  have h2 : 5 * k / 5 = k := by omega
  simp only [rhoOf, h1, h2]
theorem rho_line (k : Nat) : rhoOf blk off n cap L (Nat.add 3 (Nat.mul 5 k)) = .string (L k) := by
  have e : Nat.add 3 (Nat.mul 5 k) = (5 * k + 1) + 2 := by show 3 + 5 * k = _; omega
  rw [e]
  have h1 : (5 * k + 1) % 5 = 1 := by omega
  have h2 : (5 * k + 1) / 5 = k := by omega
  simp only [rhoOf, h1, h2]
theorem rho_end (k : Nat) : rhoOf blk off n cap L (Nat.add 4 (Nat.mul 5 k)) = .string (L k ++ endOf) := by
  have e : Nat.add 4 (Nat.mul 5 k) = (5 * k + 2) + 2 := by show 4 + 5 * k = _; omega
  rw [e]
  have h1 : (5 * k + 2) % 5 = 2 := by omega
  have h2 : (5 * k + 2) / 5 = k := by omega
  simp only [rhoOf, h1, h2]
theorem rho_all (k : Nat) : rhoOf blk off n cap L (Nat.add 5 (Nat.mul 5 k)) = .string (allOf L k) := by
  have e : Nat.add 5 (Nat.mul 5 k) = (5 * k + 3) + 2 := by show 5 + 5 * k = _; omega
  rw [e]
  have h1 : (5 * k + 3) % 5 = 3 := by omega
  have h2 : (5 * k + 3) / 5 = k := by omega
  simp only [rhoOf, h1, h2]
theorem rho_len (k : Nat) : rhoOf blk off n cap L (Nat.add 6 (Nat.mul 5 k)) = .int .i64 ((allOf L k).size : Int) := by
  have e : Nat.add 6 (Nat.mul 5 k) = (5 * k + 4) + 2 := by show 6 + 5 * k = _; omega
  rw [e]
  have h1 : (5 * k + 4) % 5 = 4 := by omega
  have h2 : (5 * k + 4) / 5 = k := by omega
  simp only [rhoOf, h1, h2]

theorem oAll_R {E : Env} {k : Nat} {v : Value} (h : R E (rhoOf blk off n cap L) (oAll k) v) : v = .string (allOf L k) := by
  unfold oAll at h
  cases k with
  | zero => simp only [show Nat.beq 0 0 = true from rfl, cond_true, oLine, R] at h; rw [h, rho_line]; rfl
  | succ k => simp only [show Nat.beq (k + 1) 0 = false from rfl, cond_false, R] at h; rw [h, rho_all]
theorem oAll_of {E : Env} {k : Nat} : R E (rhoOf blk off n cap L) (oAll k) (.string (allOf L k)) := by
  unfold oAll
  cases k with
  | zero => simp only [show Nat.beq 0 0 = true from rfl, cond_true, oLine, R]; rw [rho_line]; rfl
  | succ k => simp only [show Nat.beq (k + 1) 0 = false from rfl, cond_false, R]; rw [rho_all]

variable {P : Program} {w0 : World}

theorem fact_int {ρ : Nat → Value} {op : BinOp} {t : TypeId} {x y : SV} {a b : Int} {r : Bool} (hx : ∀ E v, R E ρ x v → v = .int .i64 a) (hy : ∀ E v, R E ρ y v → v = .int .i64 b) (h : binInt op .i64 a b = .ok (.bool r)) :
    FactOk P ρ w0 ⟨.bin op t x y, .bool r⟩ := by
  intro E va vb h1 h2
  rw [hx E va h1, hy E vb h2]
  refine ⟨.bool r, by simp [R], fun ox oy w => ?_⟩
  obtain ⟨v, hv, hR⟩ := binInt_ok (P := P) h t w
  have := hR (fun _ => none) ρ
  simp only [R] at this
  rw [Sem.run_bind, run_eqGuard_int, ← this]
  exact hv
where
  run_eqGuard_int {P : Program} {op : BinOp} {t : TypeId} {ox oy : Operand} {a b : Int} {w : World} : (eqGuard op t ox oy (.int .i64 a) (.int .i64 b)).run P w = .ok () w := by
    cases op <;> rfl

theorem fact_cat {ρ : Nat → Value} {t : TypeId} {x y r : SV} {a b : ByteArray} (hx : ∀ E v, R E ρ x v → v = .string a) (hy : ∀ E v, R E ρ y v → v = .string b) (hr : ∀ E, R E ρ r (.string (a ++ b))) (hle : a.size + b.size ≤ 9223372036854775807) :
    FactOk P ρ w0 ⟨.bin .add t x y, r⟩ := by
  intro E va vb h1 h2
  rw [hx E va h1, hy E vb h2]
  refine ⟨.string (a ++ b), hr E, fun ox oy w => ?_⟩
  have hm : IntKind.i64.max = 9223372036854775807 := by decide
  have : ¬ (((a.size + b.size : Nat) : Int) > IntKind.i64.max) := by rw [hm]; omega
  have h0 : (eqGuard .add t ox oy (.string a) (.string b)).run P w = .ok () w := rfl
  rw [Sem.run_bind, h0, Result.andThen_ok]
  show (Op.stringOp .add a b).run P w = _
  unfold Op.stringOp
  simp only
  rw [if_neg this]
  rfl

theorem fact_len_slice {ρ : Nat → Value} {t e : TypeId} {x r : SV} {a : Option Addr} {len c : Nat} (hx : ∀ E v, R E ρ x v → v = .slice a len c) (hr : ∀ E, R E ρ r (.int .i64 (len : Int))) (hu : P.underlying t = some (.slice e)) : FactOk P ρ w0 ⟨.len t x, r⟩ := by
  intro E va h1
  rw [hx E va h1]
  refine ⟨_, hr E, fun T ty w hT => ?_⟩
  have := run_underlying (P := P) hu w
  simp [Builtin.len_, hT, this, goInt]

theorem fact_len_string {ρ : Nat → Value} {t : TypeId} {x r : SV} {s : ByteArray} (hx : ∀ E v, R E ρ x v → v = .string s) (hr : ∀ E, R E ρ r (.int .i64 (s.size : Int))) (hu : P.underlying t = some .string) : FactOk P ρ w0 ⟨.len t x, r⟩ := by
  intro E va h1
  rw [hx E va h1]
  refine ⟨_, hr E, fun T ty w hT => ?_⟩
  have := run_underlying (P := P) hu w
  simp [Builtin.len_, hT, this, goInt]

theorem fact_iadr {ρ : Nat → Value} {t e : TypeId} {x i r : SV} {b o len c k : Nat} (hx : ∀ E v, R E ρ x v → v = .slice (some ⟨b, o, none⟩) len c) (hi : ∀ E v, R E ρ i v → v = .int .i64 (k : Int)) (hr : ∀ E, R E ρ r (.pointer (some ⟨b, o + k, none⟩))) (hk : k < len)
    (hu : P.underlying t = some (.slice e)) (hs : P.cellsOf e = 1) (hi' : (P.info? e).isSome = true) : FactOk P ρ w0 ⟨.iadr t x i, r⟩ := by
  intro E va vi h1 h2
  rw [hx E va h1, hi E vi h2]
  refine ⟨_, hr E, fun w => ?_⟩
  have hund := fun w => run_underlying (P := P) hu w
  obtain ⟨it, hit⟩ := Option.isSome_iff_exists.1 hi'
  have hsz : ∀ w, (sizeOf e).run P w = .ok 1 w := fun w => by rw [run_sizeOf w hit, hs]
  simp [Instr.indexAt, asIntOf, hund, hsz, hk, addr_add]

theorem fact_ld {ρ : Nat → Value} {t : TypeId} {x r : SV} {b o : Nat} {v : Value} {d : TypeDesc} (hx : ∀ E u, R E ρ x u → u = .pointer (some ⟨b, o, none⟩)) (hr : ∀ E, R E ρ r v) (hb : b < w0.heap.size) (hc : w0.cell? ⟨b, o, none⟩ = some v) (hu : P.underlying t = some d) (hd : isAgg d = false) : FactOk P ρ w0 ⟨.ld t x, r⟩ := by
  intro E va h1
  rw [hx E va h1]
  refine ⟨v, hr E, fun w hB => ?_⟩
  have hc' : w.cell? ⟨b, o, none⟩ = some v := by
    rw [← hc]; unfold World.cell?; rw [hB.block b hb]
  have hag : (Go.isAgg t).run P w = .ok false w := by
    unfold Go.isAgg
    simp only [Sem.run_bind, run_underlying hu w, Result.andThen_ok]
    cases d <;> first | rfl | (simp [Eng.isAgg] at hd)
  simp [Instr.loadAt, Instr.sureAddr, loadVar, hag, hc']

/-- What the types of the program are, as far as the facts ask. -/
structure TypesAre (P : Program) : Prop where
  lines : P.underlying 22 = some (.slice 9)
  text : P.underlying 9 = some .string
  cells : P.cellsOf 9 = 1
  there : (P.info? 9).isSome = true

theorem op_R {E : Env} {ρ : Nat → Value} {i : Nat} {v u : Value} (h : ρ i = u) (hr : R E ρ (.op i) v) : v = u := by
  simp only [R] at hr; rw [hr, h]
theorem op_of {E : Env} {ρ : Nat → Value} {i : Nat} {u : Value} (h : ρ i = u) : R E ρ (.op i) u := by
  simp only [R]; rw [h]
theorem i64_R {E : Env} {ρ : Nat → Value} {k : Nat} {v : Value} (hr : R E ρ (i64 k) v) : v = .int .i64 (k : Int) := by
  simp only [i64, R] at hr; exact hr

theorem nowFacts_ok (T : TypesAre P) (hL : LinesAt w0 blk off n L) {k : Nat} (hk : k < n) : ∀ f ∈ nowFacts k (decide (k + 1 = n)), FactOk P (rhoOf blk off n cap L) w0 f := by
  intro f hf
  simp only [nowFacts, List.mem_cons, List.not_mem_nil, or_false] at hf
  rcases hf with rfl | rfl | rfl | rfl | rfl
  · exact fact_len_slice (a := some ⟨blk, off, none⟩) (len := n) (c := cap) (fun E v h => op_R (ρ := rhoOf blk off n cap L) (i := 0) rfl h) (fun E => op_of (ρ := rhoOf blk off n cap L) (i := 1) rfl) T.lines
  · refine fact_int (a := (k : Int)) (b := (n : Int)) (fun E v h => i64_R h) (fun E v h => op_R (ρ := rhoOf blk off n cap L) (i := 1) rfl h) ?_
    simp only [binInt, intLt_eq]
    rw [decide_eq_true (by omega)]
  · exact fact_iadr (c := cap) (fun E v h => op_R (ρ := rhoOf blk off n cap L) (i := 0) rfl h) (fun E v h => i64_R h) (fun E => op_of (rho_addr k)) hk T.lines T.cells T.there
  · exact fact_ld (fun E v h => op_R (rho_addr k) h) (fun E => op_of (rho_line k)) hL.old (hL.cell k hk) T.text rfl
  · refine fact_int (a := ((k + 1 : Nat) : Int)) (b := (n : Int)) (fun E v h => i64_R h) (fun E v h => op_R (ρ := rhoOf blk off n cap L) (i := 1) rfl h) ?_
    simp only [binInt, intEq_eq]
    congr 2
    rw [Bool.eq_iff_iff]
    simp
    omega

theorem sumFacts_ok (T : TypesAre P) {k : Nat} (hs : (allOf L k).size ≤ 65536) : ∀ f ∈ sumFacts k, FactOk P (rhoOf blk off n cap L) w0 f := by
  intro f hf
  cases k with
  | zero => simp [sumFacts] at hf
  | succ k =>
    simp only [sumFacts, show Nat.beq (k + 1) 0 = false from rfl, cond_false, List.mem_cons, List.not_mem_nil, or_false] at hf
    have hall : allOf L (k + 1) = (L (k + 1) ++ endOf) ++ allOf L k := rfl
    have hsz : (allOf L (k + 1)).size = (L (k + 1)).size + endOf.size + (allOf L k).size := by rw [hall, ByteArray.size_append, ByteArray.size_append]
    rcases hf with rfl | rfl | rfl | rfl
    · exact fact_cat (a := L (k + 1)) (b := endOf) (fun E v h => op_R (rho_line _) h) (fun E v h => by simp only [R] at h; exact h.2) (fun E => op_of (rho_end _)) (by omega)
    · exact fact_cat (a := L (k + 1) ++ endOf) (b := allOf L k) (fun E v h => op_R (rho_end _) h) (fun E v h => oAll_R h) (fun E => by rw [← hall]; exact oAll_of) (by rw [ByteArray.size_append]; omega)
    · exact fact_len_string (s := allOf L (k + 1)) (fun E v h => oAll_R h) (fun E => op_of (rho_len _)) T.text
    · refine fact_int (a := ((allOf L (k + 1)).size : Int)) (b := ((65536 : Nat) : Int)) (fun E v h => op_R (rho_len _) h) (fun E v h => i64_R h) ?_
      simp only [binInt, intLt_eq]
      rw [decide_eq_false (by omega)]

theorem endFacts_ok (T : TypesAre P) : ∀ f ∈ endFacts n, FactOk P (rhoOf blk off n cap L) w0 f := by
  intro f hf
  simp only [endFacts, List.mem_cons, List.not_mem_nil, or_false] at hf
  rcases hf with rfl | rfl
  · exact fact_len_slice (a := some ⟨blk, off, none⟩) (len := n) (c := cap) (fun E v h => op_R (ρ := rhoOf blk off n cap L) (i := 0) rfl h) (fun E => op_of (ρ := rhoOf blk off n cap L) (i := 1) rfl) T.lines
  · refine fact_int (a := (n : Int)) (b := (n : Int)) (fun E v h => i64_R h) (fun E v h => op_R (ρ := rhoOf blk off n cap L) (i := 1) rfl h) ?_
    simp only [binInt, intLt_eq]
    rw [decide_eq_false (by omega)]

theorem CxOk.with {C : Cx} {ρ : Nat → Value} (hC : CxOk (C.with []) ρ w0) {fs : List Fact} (hf : ∀ f ∈ fs, FactOk C.P ρ w0 f) : CxOk (C.with fs) ρ w0 :=
  ⟨hC.funcs, hC.types, hf, hC.exts, hC.mixed, hC.one⟩

end
end Go.Eng
