import Derived.Test.YtjnejkmcmmablaaGreatDoorEngRel
import Derived.Laws.MakeOwn
import Derived.ChangeKeysEq
/-
  The abstract run's operations that change no memory are the model's.
-/
namespace Go.Eng
open Go.RowKit

/-- What a fact says. -/
def FactOk (P : Program) (ρ : Nat → Value) (w0 : World) (f : Fact) : Prop := match f.key with
  | .bin op t a b => ∀ (E : Env) va vb, R E ρ a va → R E ρ b vb → ∃ vr, R E ρ f.val vr ∧ ∀ x y w, (do eqGuard op t x y va vb; binOp op t va vb : Sem Value).run P w = .ok vr w
  | .len t a => ∀ (E : Env) va, R E ρ a va → ∃ vr, R E ρ f.val vr ∧ ∀ (T : Array TypeId) ty w, T[0]? = some t → (Builtin.len_ T ty #[va]).run P w = .ok vr w
  | .idx t a i => ∀ (E : Env) va vi, R E ρ a va → R E ρ i vi → ∃ vr, R E ρ f.val vr ∧ ∀ w, (Instr.index t va vi).run P w = .ok vr w
  | .slc t a lo hi => ∀ (E : Env) va (vl vh : Option Value), R E ρ a va → (match lo, vl with | none, none => True | some l, some v => R E ρ l v | _, _ => False) →
      (match hi, vh with | none, none => True | some l, some v => R E ρ l v | _, _ => False) → ∃ vr, R E ρ f.val vr ∧ ∀ w, (Instr.sliceAt t va vl vh none).run P w = .ok vr w
  | .conv s d a => ∀ (E : Env) va, R E ρ a va → ∃ vr, R E ρ f.val vr ∧ ∀ w, (convert s d va).run P w = .ok vr w
  | .un op a => ∀ (E : Env) va, R E ρ a va → ∃ vr, R E ρ f.val vr ∧ ∀ w, (Op.unary op va).run P w = .ok vr w
  | .load b off => b < w0.heap.size ∧ ∃ v, w0.cell? ⟨b, off, none⟩ = some v ∧ ∀ E, R E ρ f.val v
  | .iadr t a i => ∀ (E : Env) va vi, R E ρ a va → R E ρ i vi → ∃ vr, R E ρ f.val vr ∧ ∀ w, (Instr.indexAt t va vi).run P w = .ok vr w
  | .ld t a => ∀ (E : Env) va, R E ρ a va → ∃ vr, R E ρ f.val vr ∧ ∀ w, Below w0.heap.size w0 w → (Instr.loadAt t va).run P w = .ok vr w
  | .skey a b => ∀ (E : Env) va vb, R E ρ a va → R E ρ b vb → ∃ sa sb, va = .string sa ∧ vb = .string sb ∧ f.val = .bool (sa == sb)
  | .call g args => ∀ (E : Env) vs, Rs' E ρ args vs → (∀ w, (callFunc g ⟨vs⟩).run P w = .ok (.enter g ⟨vs⟩) w) ∧
      ∀ w, Below w0.heap.size w0 w → Calls P g ⟨vs⟩ w fun e w' => ∃ v, e = .returned v ∧ R E ρ f.val v ∧ Below w.heap.size w w'

/-- What an extern of the run stands for. -/
def ExtOk (P : Program) (f : FuncId) : Ext → Prop
  | .indexByteString => ∀ args w, (callFunc f args).run P w = ((Extern.BytealgIndexByte.indexByte args).run P w).andThen fun v w => .ok (.value v) w
  | .countString => ∀ args w, (callFunc f args).run P w = ((Extern.BytealgCount.count args).run P w).andThen fun v w => .ok (.value v) w
  | .noEscape => ∀ args w, (callFunc f args).run P w = ((Extern.AbiNoEscape.same args).run P w).andThen fun v w => .ok (.value v) w
  | .makeNoZero e => ∃ ps rs t, rs[0]? = some t ∧ P.underlying t = some (.slice e) ∧ P.cellsOf e = 1 ∧ (P.info? e).isSome = true ∧
      ∀ args w, (callFunc f args).run P w = ((Extern.BytealgMakeNoZero.makeNoZero ps rs args).run P w).andThen fun v w => .ok (.value v) w
  | .add64 => ∀ x y c w, c ≤ 1 → (callFunc f #[.int .u64 (Int.ofNat x), .int .u64 (Int.ofNat y), .int .u64 (Int.ofNat c)]).run P w = .ok (.value (Extern.MathBitsCarry.pair ((x + y + c) % 2 ^ 64) ((x + y + c) / 2 ^ 64))) w
  | .cmpString => ∀ a b w, (callFunc f #[.string a, .string b]).run P w = .ok (.value (.int .i64 (if Op.bytesLess a.toList b.toList then -1 else if a.toList = b.toList then 0 else 1))) w

structure CxOk (C : Cx) (ρ : Nat → Value) (w0 : World) : Prop where
  funcs : ∀ f fn, C.funcs.get f = some fn → C.P.funcs[f]? = some fn
  types : ∀ t i, C.types.get t = some i → C.P.info? t = some i
  facts : ∀ f, f ∈ C.facts → FactOk C.P ρ w0 f
  exts : ∀ f e, findExt C.exts f = some e → ExtOk C.P f e
  mixed : C.P.follows .mixedOrders = true
  one : ∀ i, (ρ i).oneCell' = true

theorem findFact_ok {fs : List Fact} {k : Key} {v : SV} (h : findFact fs k = .ok v) : ∃ f, f ∈ fs ∧ Key.beq f.key k = true ∧ f.val = v := by
  induction fs with
  | nil => simp [findFact] at h
  | cons f fs ih =>
    simp only [findFact] at h
    cases hb : Key.beq f.key k with
    | true => rw [hb] at h; simp only [cond_true, Rs.ok.injEq] at h; exact ⟨f, by simp, hb, h⟩
    | false =>
      rw [hb] at h; simp only [cond_false] at h
      obtain ⟨g, hg, h1, h2⟩ := ih h
      exact ⟨g, List.mem_cons_of_mem _ hg, h1, h2⟩

theorem binEq_eq {a b : BinOp} (h : binEq a b = true) : a = b := by cases a <;> cases b <;> first | rfl | (simp [binEq] at h)
theorem unEq_eq {a b : UnOp} (h : unEq a b = true) : a = b := by cases a <;> cases b <;> first | rfl | (simp [unEq] at h)
theorem optEq_eq {a b : Option SV} (h : optEq a b = true) : a = b := by
  cases a <;> cases b <;> simp [optEq] at h
  · rfl
  · rw [SV.beq_sound _ _ h]

theorem Key.beq_sound {a b : Key} (h : Key.beq a b = true) : a = b := by
  cases a <;> cases b <;> simp [Key.beq, beq_eq] at h
  · obtain ⟨⟨⟨h1, h2⟩, h3⟩, h4⟩ := h; rw [binEq_eq h1, h2, SV.beq_sound _ _ h3, SV.beq_sound _ _ h4]
  · obtain ⟨h1, h2⟩ := h; rw [h1, SV.beq_sound _ _ h2]
  · obtain ⟨⟨h1, h2⟩, h3⟩ := h; rw [h1, SV.beq_sound _ _ h2, SV.beq_sound _ _ h3]
  · obtain ⟨⟨⟨h1, h2⟩, h3⟩, h4⟩ := h; rw [h1, SV.beq_sound _ _ h2, optEq_eq h3, optEq_eq h4]
  · obtain ⟨⟨h1, h2⟩, h3⟩ := h; rw [h1, h2, SV.beq_sound _ _ h3]
  · obtain ⟨h1, h2⟩ := h; rw [unEq_eq h1, SV.beq_sound _ _ h2]
  · obtain ⟨h1, h2⟩ := h; rw [h1, h2]
  · obtain ⟨⟨h1, h2⟩, h3⟩ := h; rw [h1, SV.beq_sound _ _ h2, SV.beq_sound _ _ h3]
  · obtain ⟨h1, h2⟩ := h; rw [h1, SV.beq_sound _ _ h2]
  · obtain ⟨h1, h2⟩ := h; rw [SV.beq_sound _ _ h1, SV.beq_sound _ _ h2]
  · obtain ⟨h1, h2⟩ := h; rw [h1, SV.beqs_sound _ _ h2]

section
variable {C : Cx} {ρ : Nat → Value} {w0 : World} (hC : CxOk C ρ w0) {E : Env}
include hC

theorem CxOk.fact {k : Key} {v : SV} (h : findFact C.facts k = .ok v) : FactOk C.P ρ w0 ⟨k, v⟩ := by
  obtain ⟨f, hf, hk, hv⟩ := findFact_ok h
  have := hC.facts f hf
  obtain ⟨k', v'⟩ := f
  cases Key.beq_sound hk
  cases hv
  exact this

theorem CxOk.info_ok {t : TypeId} {i : TypeInfo} (h : C.info t = .ok i) : C.P.info? t = some i := by
  unfold Cx.info at h
  split at h
  · rename_i j hj; simp only [Rs.ok.injEq] at h; subst h; exact hC.types t j hj
  · simp at h

theorem CxOk.und_ok {t : TypeId} {d : TypeDesc} (h : C.und t = .ok d) : C.P.underlying t = some d := by
  unfold Cx.und at h
  split at h
  · rename_i i hi
    have h1 := hC.types t i hi
    split at h
    · rename_i n u hd
      split at h
      · rename_i j hj
        simp only [Rs.ok.injEq] at h; subst h
        have h2 := hC.types u j hj
        unfold Program.underlying
        rw [h1]
        cases i; simp only at hd; subst hd
        simp [h2]
      · simp at h
    · rename_i d' hd
      simp only [Rs.ok.injEq] at h; subst h
      unfold Program.underlying
      rw [h1]
      cases i; simp only at hd ⊢
      rename_i desc _ _ _ _ _ _ _ _ _
      cases desc <;> first | rfl | (exact (hd _ _ rfl).elim)
  · simp at h

theorem CxOk.size_ok {t : TypeId} {n : Nat} (h : C.size t = .ok n) : ∃ i, C.P.info? t = some i ∧ i.size = n := by
  unfold Cx.size at h
  split at h
  · rename_i i hi; simp only [Rs.ok.injEq] at h; exact ⟨i, hC.types t i hi, h⟩
  · simp at h

theorem CxOk.cellsOf_ok {t : TypeId} {n : Nat} (h : C.size t = .ok n) : C.P.cellsOf t = n := by
  obtain ⟨i, h1, h2⟩ := CxOk.size_ok hC h
  simp [Program.cellsOf, h1, h2]

theorem CxOk.zero_ok {t : TypeId} {x : SV} (h : C.zero t = .ok x) : ∃ i v, C.P.info? t = some i ∧ i.zero = some v ∧ R E ρ x v := by
  unfold Cx.zero at h
  split at h
  · rename_i i hi
    split at h
    · rename_i v hv; exact ⟨i, v, hC.types t i hi, hv, ofValue_R v x h⟩
    · simp at h
  · simp at h

theorem CxOk.run_zero {t : TypeId} {x : SV} (h : C.zero t = .ok x) (w : World) : ∃ v, (zeroValue t).run C.P w = .ok v w ∧ R E ρ x v := by
  obtain ⟨i, v, h1, h2, h3⟩ := CxOk.zero_ok (E := E) hC h
  exact ⟨v, by simp [zeroValue, run_typeInfo w h1, h2], h3⟩

theorem CxOk.run_size {t : TypeId} {n : Nat} (h : C.size t = .ok n) (w : World) : (sizeOf t).run C.P w = .ok n w := by
  obtain ⟨i, h1, h2⟩ := CxOk.size_ok hC h
  rw [run_sizeOf w h1]; simp [Program.cellsOf, h1, h2]

theorem CxOk.run_und {t : TypeId} {d : TypeDesc} (h : C.und t = .ok d) (w : World) : (underlying t).run C.P w = .ok d w := run_underlying (CxOk.und_ok hC h) w

theorem CxOk.run_isAgg {t : TypeId} {d : TypeDesc} (h : C.und t = .ok d) (w : World) : (Go.isAgg t).run C.P w = .ok (isAgg d) w := by
  unfold Go.isAgg
  simp only [Sem.run_bind, CxOk.run_und hC h, Result.andThen_ok]
  cases d <;> rfl

end

/- Reading memory. -/
theorem cellsOf_ok {cells : Tr SV} : ∀ (n off : Nat) (l : List SV), cellsOf cells n off = .ok l → l.length = n ∧ ∀ i, i < n → ∃ x, cells.get (off + i) = some x ∧ l[i]? = some x
  | 0, off, l, h => by simp only [cellsOf, Rs.ok.injEq] at h; subst h; exact ⟨rfl, fun i hi => by omega⟩
  | n + 1, off, l, h => by
    simp only [cellsOf] at h
    split at h
    · rename_i v hv
      obtain ⟨vs, hvs, h⟩ := Rs.bind_ok h
      simp only [Rs.ok.injEq] at h; subst h
      obtain ⟨hl, hg⟩ := cellsOf_ok n _ vs hvs
      refine ⟨by simp [hl], fun i hi => ?_⟩
      cases i with
      | zero => exact ⟨v, by simpa using hv, by simp⟩
      | succ i =>
        obtain ⟨x, hx, hx'⟩ := hg i (by omega)
        exact ⟨x, by rw [← hx]; congr 1; show off + (i + 1) = off + 1 + i; omega, by simpa using hx'⟩
    · simp at h

theorem run_loadCells_get (P : Program) (w : World) (a : Addr) (vs : List Value) (h : ∀ (i : Nat) v, vs[i]? = some v → w.cell? (a.add i) = some v) :
    (loadCells a vs.length).run P w = .ok vs.toArray w := by
  have := Go.run_loadCells_list (P := P) (w := w) a vs h
  exact this

section
variable {P : Program} {ρ : Nat → Value} {w0 : World} {E : Env} {m : Mem} {w : World}

theorem addr_add (b o i : Nat) : (⟨b, o, none⟩ : Addr).add i = ⟨b, o + i, none⟩ := by
  unfold Addr.add; split
  · simp [*]
  · rfl

theorem RM.row (hM : RM P ρ w0 E m w) {id : Nat} {L : Loc} {e n : Nat} {cells : Tr SV} {x : Bool} {fz : Fz} (h : m.hp.get id = some (.row e n cells x fz)) (hE : E id = some L) :
    RO P E ρ L w (.row e n cells x fz) := hM.rows id _ L h hE

theorem RM.cells (hM : RM P ρ w0 E m w) {id off n : Nat} {l : List SV} (h : m.cells id off n = .ok l) {L : Loc} (hE : E id = some L) :
    ∃ vs, Rs' E ρ l vs ∧ vs.length = n ∧ (∀ v ∈ vs, v.oneCell' = true) ∧ (∀ i v, vs[i]? = some v → w.cell? ⟨L.blk, L.off + off + i, none⟩ = some v) ∧ (loadCells ⟨L.blk, L.off + off, none⟩ n).run P w = .ok vs.toArray w := by
  unfold Mem.cells at h
  split at h
  · rename_i e k cells x fz hrow
    obtain ⟨hk, h⟩ := cond_ok h
    rw [ble_eq, decide_eq_true_eq] at hk
    have hk' : off + n ≤ k := hk
    obtain ⟨hl, hg⟩ := cellsOf_ok n off l h
    obtain ⟨c, fr, hb, hcap, hn, _, hcell, _, _⟩ := hM.row hrow hE
    have key : ∀ i, i < n → ∃ y v, l[i]? = some y ∧ c[L.off + (off + i)]? = some v ∧ R E ρ y v ∧ v.oneCell' = true := by
      intro i hi
      obtain ⟨y, hy, hy'⟩ := hg i hi
      obtain ⟨y', v, hy1, hv, hr, ho⟩ := hcell (off + i) (by omega)
      rw [hy] at hy1; cases hy1
      exact ⟨y, v, hy', hv, hr, ho⟩
    have hvs : ∃ vs : List Value, vs.length = n ∧ ∀ i, i < n → ∃ y v, l[i]? = some y ∧ vs[i]? = some v ∧ c[L.off + (off + i)]? = some v ∧ R E ρ y v ∧ v.oneCell' = true := by
      refine ⟨(List.range n).map fun i => (c[L.off + (off + i)]?).getD undef, by simp, fun i hi => ?_⟩
      obtain ⟨y, v, h1, h2, h3, h4⟩ := key i hi
      exact ⟨y, v, h1, by simp [hi, h2], h2, h3, h4⟩
    obtain ⟨vs, hlen, hvs⟩ := hvs
    have hcell' : ∀ i v, vs[i]? = some v → w.cell? ⟨L.blk, L.off + off + i, none⟩ = some v := by
      intro i v hv
      have hi : i < n := by rw [← hlen]; exact (List.getElem?_eq_some_iff.1 hv).1
      obtain ⟨y, v', _, hv', hc', _⟩ := hvs i hi
      rw [hv] at hv'; cases hv'
      rw [cell_of_row w L.blk _ c e fr hb, Nat.add_assoc]; exact hc'
    refine ⟨vs, Rs'.of_get (by rw [hlen, hl]) fun i y hy => ?_, hlen, fun v hv => ?_, hcell', ?_⟩
    · have hi : i < n := by rw [← hl]; exact (List.getElem?_eq_some_iff.1 hy).1
      obtain ⟨y', v, hy', hv, _, hr, _⟩ := hvs i hi
      rw [hy] at hy'; cases hy'
      exact ⟨v, hv, hr⟩
    · obtain ⟨i, hi, rfl⟩ := List.getElem_of_mem hv
      obtain ⟨y', v, hy', hv', _, hr, ho⟩ := hvs i (by omega)
      rw [List.getElem?_eq_getElem hi] at hv'; cases hv'
      exact ho
    · have := run_loadCells_get P w ⟨L.blk, L.off + off, none⟩ vs (fun i v hv => by rw [addr_add]; exact hcell' i v hv)
      rwa [hlen] at this
  · simp at h

theorem globCells_ok {C : Cx} (hC : CxOk C ρ w0) {w : World} (hB : Below w0.heap.size w0 w) : ∀ (n b off : Nat) (l : List SV), globCells C b off n = .ok l →
    ∃ vs, Rs' E ρ l vs ∧ vs.length = n ∧ ∀ i v, vs[i]? = some v → w.cell? ⟨b, off + i, none⟩ = some v
  | 0, b, off, l, h => by simp only [globCells, Rs.ok.injEq] at h; subst h; exact ⟨[], Rs'.nil, rfl, fun i v hv => by simp at hv⟩
  | n + 1, b, off, l, h => by
    simp only [globCells] at h
    obtain ⟨v, hv, h⟩ := Rs.bind_ok h
    obtain ⟨vs, hvs, h⟩ := Rs.bind_ok h
    simp only [Rs.ok.injEq] at h; subst h
    obtain ⟨us, h1, h2, h3⟩ := globCells_ok hC hB n b _ vs hvs
    obtain ⟨hlt, u, hu, hr⟩ := hC.fact hv
    have hu' : w.cell? ⟨b, off, none⟩ = some u := by
      rw [← hu]; unfold World.cell?; rw [hB.block b hlt]
    refine ⟨u :: us, Rs'.cons (hr E) h1, by simp [h2], fun i v hv => ?_⟩
    cases i with
    | zero => simp at hv; subst hv; exact hu'
    | succ i =>
      rw [← h3 i v (by simpa using hv)]
      show w.cell? ⟨b, off + (i + 1), none⟩ = w.cell? ⟨b, off + 1 + i, none⟩
      rw [show off + (i + 1) = off + 1 + i from by omega]

theorem head1_ok {l : List SV} {v : SV} (h : head1 l = .ok v) : l = [v] := by
  unfold head1 at h; split at h
  · simp only [Rs.ok.injEq] at h; subst h; rfl
  · simp at h

theorem run_load_cell (a : Addr) (v : Value) (h : w.cell? a = some v) : (load a).run P w = .ok v w := by simp [h]

theorem load_ok {C : Cx} (hC : CxOk C ρ w0) (hM : RM C.P ρ w0 E m w) {t : TypeId} {a v : SV} {va : Value} (ha : R E ρ a va) (h : C.load m t a = .ok v) :
    ∃ v', (Instr.loadAt t va).run C.P w = .ok v' w ∧ R E ρ v v' := by
  unfold Cx.load at h
  split at h
  · rename_i id off
    obtain ⟨i, hi, h⟩ := Rs.bind_ok h
    obtain ⟨d, hd, h⟩ := Rs.bind_ok h
    simp only [R] at ha
    obtain ⟨L, hE, rfl⟩ := ha
    simp only [Instr.loadAt, Instr.sureAddr, loadVar, Sem.run_bind, Sem.run_pure, Result.andThen_ok, CxOk.run_isAgg hC hd]
    cases hagg : isAgg d with
    | true =>
      rw [hagg] at h; simp only [cond_true] at h
      obtain ⟨l, hl, h⟩ := Rs.bind_ok h
      simp only [Rs.ok.injEq] at h; subst h
      obtain ⟨vs, hvs, hlen, _, _, hrun⟩ := hM.cells hl hE
      refine ⟨.agg ⟨vs⟩, ?_, by simp only [R]; exact ⟨vs, hvs, rfl⟩⟩
      have hs : (sizeOf t).run C.P w = .ok i.size w := by rw [run_sizeOf w (CxOk.info_ok hC hi)]; simp [Program.cellsOf, CxOk.info_ok hC hi]
      simp [hs, hrun]
    | false =>
      rw [hagg] at h; simp only [cond_false] at h
      obtain ⟨l, hl, h⟩ := Rs.bind_ok h
      have := head1_ok h; subst this
      obtain ⟨vs, hvs, hlen, _, hcell, _⟩ := hM.cells hl hE
      simp only [Rs'] at hvs
      obtain ⟨u, us, hu, _, rfl⟩ := hvs
      refine ⟨u, ?_, hu⟩
      have := hcell 0 u (by simp)
      simp only [Nat.add_zero] at this
      simp [this]
  · rename_i b off
    obtain ⟨i, hi, h⟩ := Rs.bind_ok h
    obtain ⟨d, hd, h⟩ := Rs.bind_ok h
    simp only [R] at ha
    subst ha
    simp only [Instr.loadAt, Instr.sureAddr, loadVar, Sem.run_bind, Sem.run_pure, Result.andThen_ok, CxOk.run_isAgg hC hd]
    cases hagg : isAgg d with
    | true =>
      rw [hagg] at h; simp only [cond_true] at h
      obtain ⟨l, hl, h⟩ := Rs.bind_ok h
      simp only [Rs.ok.injEq] at h; subst h
      obtain ⟨vs, hvs, hlen, hcell⟩ := globCells_ok (E := E) hC hM.below _ _ _ _ hl
      refine ⟨.agg ⟨vs⟩, ?_, by simp only [R]; exact ⟨vs, hvs, rfl⟩⟩
      have hs : (sizeOf t).run C.P w = .ok i.size w := by rw [run_sizeOf w (CxOk.info_ok hC hi)]; simp [Program.cellsOf, CxOk.info_ok hC hi]
      have hrun := run_loadCells_get C.P w ⟨b, off, none⟩ vs (fun i v hv => by rw [addr_add]; exact hcell i v hv)
      rw [hlen] at hrun
      simp [hs, hrun]
    | false =>
      rw [hagg] at h; simp only [cond_false] at h
      obtain ⟨l, hl, h⟩ := Rs.bind_ok h
      have := head1_ok h; subst this
      obtain ⟨vs, hvs, hlen, hcell⟩ := globCells_ok (E := E) hC hM.below _ _ _ _ hl
      simp only [Rs'] at hvs
      obtain ⟨u, us, hu, _, rfl⟩ := hvs
      refine ⟨u, ?_, hu⟩
      have := hcell 0 u (by simp)
      simp only [Nat.add_zero] at this
      simp [this]
  · simp at h

end
end Go.Eng
