import Derived.Test.YtjnejkmcmmablaaGreatDoorEngLight3
/-
  The operations that change no memory: each is the model's.
-/
namespace Go.Eng
open Go.RowKit

section
variable {C : Cx} {ρ : Nat → Value} {w0 : World} {E : Env} {m : Mem} {w : World} {s : FS} {ev : Operand → Value}

/-- What the operands are. -/
def Ops (E : Env) (ρ : Nat → Value) (s : FS) (ev : Operand → Value) (op : Op) : Prop := ∀ x, x ∈ op.operands.toList → ∀ v, s.ev x = .ok v → R E ρ v (ev x)

theorem map_mk (ev : Operand → Value) (a : Array Operand) : a.map ev = ⟨a.toList.map ev⟩ := by
  apply Array.toList_inj.1; simp

theorem run_len (t : TypeId) (T : Array TypeId) (hT : T.toList = t :: T.toList.tail) : T[0]? = some t := by
  rw [← Array.getElem?_toList, hT]; simp

theorem shape_of_row {b : Nat} {cc : Array Value} {e : TypeId} {fr : Nat × Nat} (h : w.heap[b]? = some (.cells cc e fr)) : w.shape? b = some (e, cc.size) := by
  simp only [World.shape?, h]

theorem liesAt_here (P : Program) (e u : TypeId) (n : Nat) (he : e = u) (hs : P.cellsOf u ≠ 0) (hn : n / P.cellsOf u = 1) : liesAt P P.depth e (n / P.cellsOf e) 0 u 1 = true := by
  subst he
  obtain ⟨d, hd⟩ : ∃ d, P.depth = d + 1 := ⟨2 * (P.types.size + Made.depth) + 1, by unfold Program.depth; rfl⟩
  rw [hd, hn]
  simp only [liesAt]
  simp [rowAt, hd, sameLayout, hs]

theorem index_str (hC : CxOk C ρ w0) {t : TypeId} {l n k : Nat} {vx vi : Value} (hu : C.und t = .ok .string) (hlt : k < l) (kk : IntKind) (hi : vi = .int kk (k : Int)) (hx : vx = .string (mkStr l n)) (w : World) :
    ∃ v, (Instr.index t vx vi).run C.P w = .ok v w ∧ R E ρ (.int .u8 (.ofNat (strAt l n k))) v := by
  subst hi hx
  have hund := CxOk.run_und hC hu w
  have hat := strAt_eq l n k hlt
  cases hg : (mkStr l n)[k]? with
  | none => rw [hg] at hat; simp at hat
  | some b =>
    rw [hg] at hat
    simp only [Option.map_some, Option.some.injEq] at hat
    refine ⟨.int .u8 b.toNat, ?_, by simp only [R]; rw [← hat]; rfl⟩
    simp [Instr.index, asIntOf, hund, hg]

/-- A lookup of a concrete type. -/
def assertS (C : Cx) (asserted : TypeId) (ok : Bool) (u : TypeDesc) (v : SV) : Rs SV := match u, v with
    | .interface _, v => .er "typeAssert: interface" [v]
    | _, .ifc t w => cond (Nat.beq t asserted) (.ok (cond ok (.tup [w, .bool true]) w)) (cond ok ((C.zero asserted).bind fun z => .ok (.tup [z, .bool false])) (.er "typeAssert" [v]))
    | _, .nili => cond ok ((C.zero asserted).bind fun z => .ok (.tup [z, .bool false])) (.er "typeAssert" [v])
    | _, v => .er "typeAssert" [v]

theorem assertS_ok (hC : CxOk C ρ w0) {xt asserted : TypeId} {ok : Bool} {u : TypeDesc} {x r : SV} {vx : Value} (hu : C.und asserted = .ok u) (hx : R E ρ x vx) (h : assertS C asserted ok u x = .ok r) (w : World) :
    ∃ v, (Instr.typeAssert vx xt asserted ok).run C.P w = .ok v w ∧ R E ρ r v := by
  have hund := CxOk.run_und hC hu w
  have fin : ∀ (x : SV) (v : Value) (b : Bool), R E ρ x v → R E ρ (cond ok (.tup [x, .bool b]) x) (if ok then .tuple #[v, .bool b] else v) := by
    intro x v b hx
    cases ok with
    | false => exact hx
    | true =>
      simp only [cond_true, if_true, R]
      exact ⟨[v, .bool b], Rs'.cons hx (Rs'.cons (by simp [R]) Rs'.nil), rfl⟩
  have hnot : ∀ ms, u ≠ .interface ms := by
    rintro ms rfl
    cases x <;> simp [assertS] at h
  cases x with
  | ifc t w' =>
    have h' : (cond (Nat.beq t asserted) (.ok (cond ok (.tup [w', .bool true]) w')) (cond ok ((C.zero asserted).bind fun z => .ok (.tup [z, .bool false])) (.er "typeAssert" [.ifc t w'])) : Rs SV) = .ok r := by
      cases u <;> first | exact h | exact (hnot _ rfl).elim
    simp only [R] at hx
    obtain ⟨v', hv', rfl⟩ := hx
    rw [cond_eq, beq_eq] at h'
    split at h'
    · rename_i ht
      rw [decide_eq_true_eq] at ht; subst ht
      simp only [Rs.ok.injEq] at h'; subst h'
      refine ⟨_, ?_, fin w' v' true hv'⟩
      simp only [Instr.typeAssert, Sem.run_bind, hund, Result.andThen_ok]
      cases u <;> first | (simp; done) | exact (hnot _ rfl).elim
    · rename_i ht
      rw [decide_eq_true_eq] at ht
      cases ok with
      | false => simp at h'
      | true =>
        simp only [cond_true] at h'
        obtain ⟨z, hz, h'⟩ := Rs.bind_ok h'
        simp only [Rs.ok.injEq] at h'; subst h'
        obtain ⟨zv, hzr, hzR⟩ := CxOk.run_zero (E := E) hC hz w
        refine ⟨_, ?_, fin z zv false hzR⟩
        simp only [Instr.typeAssert, Sem.run_bind, hund, Result.andThen_ok]
        cases u <;> first | (simp [ht, hzr]; done) | exact (hnot _ rfl).elim
  | nili =>
    have h' : (cond ok ((C.zero asserted).bind fun z => .ok (.tup [z, .bool false])) (.er "typeAssert" [.nili]) : Rs SV) = .ok r := by
      cases u <;> first | exact h | exact (hnot _ rfl).elim
    simp only [R] at hx; subst hx
    cases ok with
    | false => simp at h'
    | true =>
      simp only [cond_true] at h'
      obtain ⟨z, hz, h'⟩ := Rs.bind_ok h'
      simp only [Rs.ok.injEq] at h'; subst h'
      obtain ⟨zv, hzr, hzR⟩ := CxOk.run_zero (E := E) hC hz w
      refine ⟨_, ?_, fin z zv false hzR⟩
      simp only [Instr.typeAssert, Sem.run_bind, hund, Result.andThen_ok]
      cases u <;> first | (simp [hzr]; done) | exact (hnot _ rfl).elim
  | _ => cases u <;> simp [assertS] at h

theorem convS_ok (hC : CxOk C ρ w0) (hM : RM C.P ρ w0 E m w) {src dst : TypeId} {us ud : TypeDesc} {x r : SV} {vx : Value} (hus : C.und src = .ok us) (hud : C.und dst = .ok ud) (hx : R E ρ x vx) (h : convS C m src dst us ud x = .ok r) :
    ∃ v, (convert src dst vx).run C.P w = .ok v w ∧ R E ρ r v := by
  have hs := CxOk.run_und hC hus w
  have hd := CxOk.run_und hC hud w
  unfold convS at h
  split at h
  · simp only [Rs.ok.injEq] at h; subst h
    simp only [R] at hx; subst hx
    exact ⟨_, by simp only [convert, Sem.run_bind, hs, hd, Result.andThen_ok]; rfl, by simp [R, wrapS_eq]⟩
  · obtain ⟨vr, h1, h2⟩ := hC.fact h E _ hx
    exact ⟨vr, h2 w, h1⟩
  · simp only [Rs.ok.injEq] at h; subst h
    have hx' := hx
    simp only [R] at hx; obtain ⟨_, rfl⟩ := hx
    exact ⟨_, by simp only [convert, Sem.run_bind, hs, hd, Result.andThen_ok]; rfl, hx'⟩
  · obtain ⟨ue, hue, h⟩ := Rs.bind_ok h
    split at h
    · simp only [Rs.ok.injEq] at h; subst h
      simp only [R] at hx; subst hx
      have he := CxOk.run_und hC hue w
      exact ⟨.string .empty, by simp [convert, hs, hd, he, Conv.bytesToString], ⟨by simp, rfl⟩⟩
    · simp at h
  · obtain ⟨ue, hue, h⟩ := Rs.bind_ok h
    split at h
    · obtain ⟨l, hl, h⟩ := Rs.bind_ok h
      obtain ⟨n, hn, h⟩ := Rs.bind_ok h
      simp only [Rs.ok.injEq] at h; subst h
      simp only [R] at hx
      obtain ⟨L, c, hL, rfl, _⟩ := hx
      obtain ⟨h1, h2⟩ := convBytes_ok (c := c) hC hM hus hue hud hL hl hn
      exact ⟨_, h1, ⟨h2, rfl⟩⟩
    · simp at h
  · split at h
    · rename_i hrow
      obtain ⟨sz, hsz, h⟩ := Rs.bind_ok h
      obtain ⟨hc, h⟩ := cond_ok h
      simp only [blt_eq, Bool.and_eq_true, decide_eq_true_eq] at hc
      simp only [Rs.ok.injEq] at h; subst h
      have hx' := hx
      simp only [R] at hx
      obtain ⟨L, hL, rfl⟩ := hx
      obtain ⟨cc, fr, hblk, hsz1, hnc, _, _, _, _⟩ := hM.row hrow hL
      refine ⟨_, ?_, hx'⟩
      have hs' := CxOk.run_size hC hsz w
      have hshape := shape_of_row hblk
      have hne : sz ≠ 0 := by omega
      have hlt := Nat.not_le_of_lt (show _ < cc.size from by rw [← hsz1]; exact Nat.add_lt_add_left (Nat.lt_of_lt_of_le hc.1 hnc) L.off)
      simp only [convert, Sem.run_bind, hs, hd, Result.andThen_ok, Conv.unsafePointer, Conv.seenAt, viewAt, run_shape, hshape, Option.isSome_some, if_true, Sem.run_pure, cellsIn, hs']
      simp [hne, hlt]
    · simp at h
  · split at h
    · rename_i hrow
      obtain ⟨sz, hsz, h⟩ := Rs.bind_ok h
      obtain ⟨hc, h⟩ := cond_ok h
      simp only [blt_eq, beq_eq, Bool.and_eq_true, decide_eq_true_eq] at hc
      obtain ⟨⟨⟨h0, he⟩, hn⟩, hz⟩ := hc
      simp only [Rs.ok.injEq] at h; subst h
      have hx' := hx
      simp only [R] at hx
      obtain ⟨L, hL, rfl⟩ := hx
      obtain ⟨cc, fr, hblk, hsz1, hnc, hex, _, _, _⟩ := hM.row hrow hL
      obtain ⟨hcap, hoff⟩ := hex rfl
      refine ⟨_, ?_, hx'⟩
      have hs' := CxOk.run_size hC hsz w
      have hcu := CxOk.cellsOf_ok hC hsz
      have hne : sz ≠ 0 := by omega
      subst h0
      have hcs : cc.size = sz := by omega
      have hlies := liesAt_here C.P _ _ cc.size he (by rw [hcu]; exact hne) (by rw [hcu, hcs]; exact Nat.div_self hz)
      have hshape := shape_of_row hblk
      simp only [convert, Sem.run_bind, hs, hd, Result.andThen_ok, Conv.unsafePointer, Conv.seenAt, viewAt, run_shape, hshape, Option.isSome_some, if_true, Sem.run_pure, hs', variablesAt, run_program, hoff, Nat.add_zero, hlies]
      simp [hne]
    · simp at h
  · simp at h

theorem run_max (P : Program) (T : Array TypeId) (ty : TypeId) (k k' : IntKind) (a b : Int) (w : World) : (Builtin.max_ T ty ⟨[.int k a, .int k' b]⟩).run P w = .ok (.int k (if b > a then b else a)) w := rfl
theorem run_min (P : Program) (T : Array TypeId) (ty : TypeId) (k k' : IntKind) (a b : Int) (w : World) : (Builtin.min_ T ty ⟨[.int k a, .int k' b]⟩).run P w = .ok (.int k (if b < a then b else a)) w := rfl

theorem lenS_ok (hC : CxOk C ρ w0) (hM : RM C.P ρ w0 E m w) {t : TypeId} {T : Array TypeId} {rest : List TypeId} {ty : TypeId} {u : TypeDesc} {x r : SV} {vx : Value} (hT : T.toList = t :: rest) (hu : C.und t = .ok u) (hx : R E ρ x vx) (h : lenS C m t u x = .ok r) :
    ∃ v, (Builtin.len_ T ty #[vx]).run C.P w = .ok v w ∧ R E ρ r v := by
  have hT0 : T[0]? = some t := by rw [← Array.getElem?_toList, hT]; rfl
  have hund := CxOk.run_und hC hu w
  have key : ∀ v, (match u, vx with
      | .string, .string s => pure (goInt s.size)
      | .array n _, _ => pure (goInt n)
      | .slice _, .slice _ n _ => pure (goInt n)
      | .map _ _, .map none => pure (goInt 0)
      | .map _ _, .map (some r) => (do
        let .map entries _ ← getObj r | stuck "len: map expected"
        pure (goInt entries.size))
      | _, _ => stuck "" : Sem Value).run C.P w = .ok v w → (Builtin.len_ T ty #[vx]).run C.P w = .ok v w := by
    intro v hv
    have h0 : (#[vx] : Array Value)[0]? = some vx := rfl
    simp only [Builtin.len_, hT0, h0, Sem.run_bind, hund, Result.andThen_ok]
    cases u <;> cases vx <;> first | exact hv | (simp at hv; done) | skip
    rename_i r
    cases r <;> first | exact hv | (simp at hv; done)
  unfold lenS at h
  split at h
  · obtain ⟨vr, h1, h2⟩ := hC.fact h E _ hx
    exact ⟨vr, h2 T ty w hT0, h1⟩
  · simp only [Rs.ok.injEq] at h; subst h
    simp only [R] at hx; obtain ⟨_, rfl⟩ := hx
    exact ⟨_, key _ rfl, by simp only [R, size_mkStr]; rfl⟩
  · simp only [Rs.ok.injEq] at h; subst h
    simp only [R] at hx; subst hx
    exact ⟨_, key _ rfl, by simp only [R]; rfl⟩
  · simp only [Rs.ok.injEq] at h; subst h
    simp only [R] at hx; obtain ⟨_, _, rfl⟩ := hx
    exact ⟨_, key _ rfl, by simp only [R]; rfl⟩
  · simp only [Rs.ok.injEq] at h; subst h
    simp only [R] at hx; subst hx
    exact ⟨_, key _ rfl, by simp only [R]; rfl⟩
  · simp only [Rs.ok.injEq] at h; subst h
    simp only [R] at hx; obtain ⟨_, _, _, rfl, _⟩ := hx
    exact ⟨_, key _ rfl, by simp only [R]; rfl⟩
  · split at h
    · rename_i hrow
      simp only [Rs.ok.injEq] at h; subst h
      simp only [R] at hx; obtain ⟨L, hL, rfl⟩ := hx
      obtain ⟨fs, hblk, hents⟩ := hM.rows _ _ L hrow hL
      refine ⟨.int .i64 fs.length, key _ ?_, ?_⟩
      · simp [getObj, Sem.run, hblk, goInt]
      · simp only [R]; rw [lenOf_eq, Nat.zero_add, REnts.length hents]; rfl
    · simp at h
  · simp only [Rs.ok.injEq] at h; subst h
    exact ⟨_, key _ rfl, by simp only [R]; rfl⟩
  · simp at h

theorem capS_ok (hC : CxOk C ρ w0) {t : TypeId} {T : Array TypeId} {rest : List TypeId} {ty : TypeId} {u : TypeDesc} {x r : SV} {vx : Value} (hT : T.toList = t :: rest) (hu : C.und t = .ok u) (hx : R E ρ x vx) (h : capS u x = .ok r) (w : World) :
    ∃ v, (Builtin.cap_ T ty #[vx]).run C.P w = .ok v w ∧ R E ρ r v := by
  have hT0 : T[0]? = some t := by rw [← Array.getElem?_toList, hT]; rfl
  have hund := CxOk.run_und hC hu w
  have h0 : (#[vx] : Array Value)[0]? = some vx := rfl
  unfold capS at h
  split at h
  · simp only [Rs.ok.injEq] at h; subst h
    simp only [R] at hx; subst hx
    exact ⟨.int .i64 0, by simp [Builtin.cap_, hT0, hund, goInt], by simp only [R]; rfl⟩
  · simp only [Rs.ok.injEq] at h; subst h
    simp only [R] at hx; obtain ⟨_, c, _, rfl, rfl⟩ := hx
    exact ⟨.int .i64 _, by simp only [Builtin.cap_, hT0, h0, Sem.run_bind, hund, Result.andThen_ok]; rfl, by simp only [R]; rfl⟩
  · simp at h

theorem run_sliceData (P : Program) (T : Array TypeId) (ty : TypeId) (a : Addr) (l c : Nat) (hc : c ≠ 0) (w : World) : (Builtin.unsafeSliceData_ T ty #[.slice (some a) l c]).run P w = .ok (.pointer (some a)) w := by
  show (if c ≠ 0 then (pure (.pointer (some a)) : Sem Value) else _).run P w = _
  rw [if_pos hc]; rfl

theorem dataS_ok (hM : RM C.P ρ w0 E m w) {T : Array TypeId} {ty : TypeId} {x r : SV} {vx : Value} (hx : R E ρ x vx) (h : dataS m x = .ok r) :
    ∃ v, (Builtin.unsafeSliceData_ T ty #[vx]).run C.P w = .ok v w ∧ R E ρ r v := by
  unfold dataS at h
  split at h
  · simp only [Rs.ok.injEq] at h; subst h
    simp only [R] at hx; subst hx
    exact ⟨_, rfl, by simp [R]⟩
  · obtain ⟨hc, h⟩ := cond_ok h
    rw [blt_eq, decide_eq_true_eq] at hc
    simp only [Rs.ok.injEq] at h; subst h
    simp only [R] at hx; obtain ⟨L, c, hL, rfl, rfl⟩ := hx
    exact ⟨_, run_sliceData _ _ _ _ _ _ (by omega) w, by simp only [R]; exact ⟨L, hL, rfl⟩⟩
  · split at h
    · rename_i hrow
      obtain ⟨hc, h⟩ := cond_ok h
      rw [blt_eq, decide_eq_true_eq] at hc
      simp only [Rs.ok.injEq] at h; subst h
      simp only [R] at hx; obtain ⟨L, c, hL, rfl, hcap, hces⟩ := hx
      obtain ⟨cc, fr, hblk, hsz1, hnc, _, _, _, _⟩ := hM.row hrow hL
      exact ⟨_, run_sliceData _ _ _ _ _ _ (by rintro rfl; simp at hces; omega) w, by simp only [R]; exact ⟨L, hL, rfl⟩⟩
    · simp at h
  · simp at h

theorem builtS_ok (hC : CxOk C ρ w0) (hM : RM C.P ρ w0 E m w) {b : Builtin} {T : Array TypeId} {ty : TypeId} {consts : Array Bool} {vs : List SV} {us : List Value} {r : SV} (hr : Rs' E ρ vs us) (h : builtS C m b T.toList vs = .ok r) :
    ∃ v, (Go.builtin b T ty consts ⟨us⟩).run C.P w = .ok (.value v) w ∧ R E ρ r v := by
  have fin : ∀ (S : Sem Value), (Go.builtin b T ty consts ⟨us⟩) = (do pure (.value (← S))) → (∃ v', S.run C.P w = .ok v' w ∧ R E ρ r v') → ∃ v', (Go.builtin b T ty consts ⟨us⟩).run C.P w = .ok (.value v') w ∧ R E ρ r v' := by
    rintro S hS ⟨v', h1, h2⟩
    exact ⟨v', by rw [hS, Sem.run_bind, h1]; rfl, h2⟩
  unfold builtS at h
  split at h
  · simp only [Rs'] at hr
    obtain ⟨u1, us1, hu1, rfl, rfl⟩ := hr
    split at h
    · rename_i hT
      obtain ⟨u, hu, h⟩ := Rs.bind_ok h
      exact fin _ rfl (lenS_ok hC hM hT hu hu1 h)
    · simp at h
  · simp only [Rs'] at hr
    obtain ⟨u1, us1, hu1, rfl, rfl⟩ := hr
    split at h
    · rename_i hT
      obtain ⟨u, hu, h⟩ := Rs.bind_ok h
      exact fin _ rfl (capS_ok hC hT hu hu1 h w)
    · simp at h
  · simp only [Rs'] at hr
    obtain ⟨u1, us1, hu1, ⟨u2, us2, hu2, rfl, rfl⟩, rfl⟩ := hr
    simp only [Rs.ok.injEq] at h; subst h
    simp only [R] at hu1 hu2; subst hu1 hu2
    exact fin _ rfl ⟨_, run_max _ _ _ _ _ _ _ w, by simp only [R, cond_eq, intLt_eq, decide_eq_true_eq, gt_iff_lt]⟩
  · simp only [Rs'] at hr
    obtain ⟨u1, us1, hu1, ⟨u2, us2, hu2, rfl, rfl⟩, rfl⟩ := hr
    simp only [Rs.ok.injEq] at h; subst h
    simp only [R] at hu1 hu2; subst hu1 hu2
    exact fin _ rfl ⟨_, run_min _ _ _ _ _ _ _ w, by simp only [R, cond_eq, intLt_eq, decide_eq_true_eq]⟩
  · simp only [Rs'] at hr
    obtain ⟨u1, us1, hu1, rfl, rfl⟩ := hr
    exact fin _ rfl (dataS_ok hM hu1 h)
  · simp at h

theorem light_ok (hC : CxOk C ρ w0) (hM : RM C.P ρ w0 E m w) {o : Oper} {v : SV} (hev : Ops E ρ s ev o.op) (h : lightS C s m o.op = .ok v) : ∃ v', (execOp ev o).run C.P w = .ok (.value v') w ∧ R E ρ v v' := by
  obtain ⟨dst, op, ty, pos, after, guard⟩ := o
  simp only at hev h
  have fin : ∀ (S : Sem Value), execOp ev ⟨dst, op, ty, pos, after, guard⟩ = (do pure (.value (← S))) → (∃ v', S.run C.P w = .ok v' w ∧ R E ρ v v') → ∃ v', (execOp ev ⟨dst, op, ty, pos, after, guard⟩).run C.P w = .ok (.value v') w ∧ R E ρ v v' := by
    rintro S hS ⟨v', h1, h2⟩
    exact ⟨v', by rw [hS, Sem.run_bind, h1]; rfl, h2⟩
  cases op
  case move x => exact ⟨ev x, rfl, hev x (by simp [Op.operands]) v h⟩
  case assign x => exact ⟨ev x, rfl, hev x (by simp [Op.operands]) v h⟩
  case pick c a b =>
    simp only [lightS] at h
    obtain ⟨cv, hc, h⟩ := Rs.bind_ok h
    split at h
    · rename_i t
      have hcr := hev c (by simp [Op.operands]) _ hc
      simp only [R] at hcr
      cases t with
      | true => exact ⟨ev a, by simp [execOp, hcr, asBool], hev a (by simp [Op.operands]) v h⟩
      | false => exact ⟨ev b, by simp [execOp, hcr, asBool], hev b (by simp [Op.operands]) v h⟩
    · simp at h
  case load t a =>
    simp only [lightS] at h
    obtain ⟨av, ha, h⟩ := Rs.bind_ok h
    rw [cond_eq] at h
    split at h
    · obtain ⟨vr, h1, h2⟩ := hC.fact h E _ (hev a (by simp [Op.operands]) _ ha)
      exact fin _ rfl ⟨vr, h2 w hM.below, h1⟩
    · exact fin _ rfl (load_ok hC hM (hev a (by simp [Op.operands]) _ ha) h)
  case nilCheck x =>
    simp only [lightS] at h
    obtain ⟨xv, hx, h⟩ := Rs.bind_ok h
    have hr := hev x (by simp [Op.operands]) _ hx
    split at h
    · simp only [Rs.ok.injEq] at h; subst h
      refine ⟨ev x, ?_, hr⟩
      simp only [R] at hr; obtain ⟨L, _, hv⟩ := hr
      simp [execOp, hv]
    · simp only [Rs.ok.injEq] at h; subst h
      refine ⟨ev x, ?_, hr⟩
      simp only [R] at hr
      simp [execOp, hr]
    · simp only [Rs.ok.injEq] at h; subst h
      refine ⟨ev x, ?_, hr⟩
      simp only [R] at hr; obtain ⟨_, _, _, _, hv⟩ := hr
      simp [execOp, hv]
    · simp at h
  case binOp op t x y yt =>
    simp only [lightS] at h
    obtain ⟨a, ha, h⟩ := Rs.bind_ok h
    obtain ⟨b, hb, h⟩ := Rs.bind_ok h
    exact fin _ rfl (binS_ok hC (hev x (by simp [Op.operands]) _ ha) (hev y (by simp [Op.operands]) _ hb) h w)
  case unOp op t x =>
    simp only [lightS] at h
    obtain ⟨a, ha, h⟩ := Rs.bind_ok h
    exact fin _ rfl (unS_ok hC (hev x (by simp [Op.operands]) _ ha) h w)
  case makeInterface t x =>
    simp only [lightS] at h
    obtain ⟨a, ha, h⟩ := Rs.bind_ok h
    obtain ⟨u, hu, h⟩ := Rs.bind_ok h
    have hr := hev x (by simp [Op.operands]) _ ha
    have hund := CxOk.run_und hC hu w
    refine fin _ rfl ?_
    cases u
    case interface => simp at h
    all_goals
      simp only [Rs.ok.injEq] at h; subst h
      exact ⟨.iface t (ev x), by simp [Instr.makeInterface, hund], by simp only [R]; exact ⟨ev x, hr, rfl⟩⟩
  case makeFunc f a b =>
    simp only [lightS] at h
    obtain ⟨av, ha, h⟩ := Rs.bind_ok h
    obtain ⟨bv, hb, h⟩ := Rs.bind_ok h
    simp only [Rs.ok.injEq] at h; subst h
    have ha' := evs_ok (E := E) (ρ := ρ) (ev := ev) (fun x hx => hev x (by simp [Op.operands] at *; exact .inl hx)) ha
    have hb' := evs_ok (E := E) (ρ := ρ) (ev := ev) (fun x hx => hev x (by simp [Op.operands] at *; exact .inr hx)) hb
    refine fin _ rfl ⟨.func f (a.map ev) (b.map ev), rfl, ?_⟩
    simp only [R]
    exact ⟨_, _, ha', hb', by rw [map_mk, map_mk]⟩
  case fieldAddr t x f =>
    simp only [lightS] at h
    obtain ⟨a, ha, h⟩ := Rs.bind_ok h
    obtain ⟨⟨fd, z⟩, hf, h⟩ := Rs.bind_ok h
    simp only [cond_eq, beq_eq] at h
    split at h
    · simp at h
    · rename_i hz
      rw [decide_eq_true_eq] at hz
      have hr := hev x (by simp [Op.operands]) _ ha
      refine fin _ rfl ?_
      split at h
      · simp only [Rs.ok.injEq] at h; subst h
        simp only [R] at hr
        obtain ⟨L, hL, hv⟩ := hr
        rw [hv]
        exact ⟨_, fieldAt_ok hC hf hz _ _ w, by simp only [R]; exact ⟨L, hL, by rw [Nat.add_assoc]; rfl⟩⟩
      · simp only [Rs.ok.injEq] at h; subst h
        simp only [R] at hr
        rw [hr]
        exact ⟨_, fieldAt_ok hC hf hz _ _ w, by simp only [R]; rfl⟩
      · simp at h
  case field t x f =>
    simp only [lightS] at h
    obtain ⟨a, ha, h⟩ := Rs.bind_ok h
    obtain ⟨⟨fd, z⟩, hf, h⟩ := Rs.bind_ok h
    have hr := hev x (by simp [Op.operands]) _ ha
    refine fin _ rfl ?_
    split at h
    · simp only [R] at hr
      obtain ⟨cs', hcs, hv⟩ := hr
      obtain ⟨fs, hu, hfs, hs⟩ := sizeField_ok hf
      obtain ⟨v', h1, h2⟩ := partS_ok hC hcs h w
      refine ⟨v', ?_, h2⟩
      simp [Instr.field, CxOk.run_und hC hu w, hfs, hv, asAgg, h1]
    · simp at h
  case indexAddr t x i =>
    simp only [lightS] at h
    obtain ⟨a, ha, h⟩ := Rs.bind_ok h
    obtain ⟨iv, hi, h⟩ := Rs.bind_ok h
    have hr := hev x (by simp [Op.operands]) _ ha
    have hri := hev i (by simp [Op.operands]) _ hi
    rw [cond_eq] at h
    split at h
    · obtain ⟨vr, h1, h2⟩ := hC.fact h E _ _ hr hri
      exact fin _ rfl ⟨vr, h2 w, h1⟩
    obtain ⟨u, hu, h⟩ := Rs.bind_ok h
    refine fin _ rfl ?_
    split at h
    · obtain ⟨k, hk, h⟩ := Rs.bind_ok h
      obtain ⟨sz, hs, h⟩ := Rs.bind_ok h
      obtain ⟨hlt, h⟩ := cond_ok h
      rw [blt_eq, decide_eq_true_eq] at hlt
      simp only [Rs.ok.injEq] at h; subst h
      obtain ⟨kk, hkk⟩ := asNat_ok hk hri
      simp only [R] at hr
      obtain ⟨L, c, hL, hv, _⟩ := hr
      rw [hkk, hv]
      exact ⟨_, indexAt_slice hC hu hs _ _ _ _ _ _ hlt w, by simp only [R]; exact ⟨L, hL, by rw [Nat.add_assoc]; rfl⟩⟩
    · obtain ⟨k, hk, h⟩ := Rs.bind_ok h
      obtain ⟨sz, hs, h⟩ := Rs.bind_ok h
      obtain ⟨hlt, h⟩ := cond_ok h
      rw [blt_eq, decide_eq_true_eq] at hlt
      simp only [Rs.ok.injEq] at h; subst h
      obtain ⟨kk, hkk⟩ := asNat_ok hk hri
      simp only [R] at hr
      obtain ⟨L, hL, hv⟩ := hr
      rw [hkk, hv]
      exact ⟨_, indexAt_array hC hu hs _ _ _ _ hlt w, by simp only [R]; exact ⟨L, hL, by rw [Nat.add_assoc]; rfl⟩⟩
    · obtain ⟨k, hk, h⟩ := Rs.bind_ok h
      obtain ⟨sz, hs, h⟩ := Rs.bind_ok h
      obtain ⟨hlt, h⟩ := cond_ok h
      rw [blt_eq, decide_eq_true_eq] at hlt
      simp only [Rs.ok.injEq] at h; subst h
      obtain ⟨kk, hkk⟩ := asNat_ok hk hri
      simp only [R] at hr
      rw [hkk, hr]
      exact ⟨_, indexAt_array hC hu hs _ _ _ _ hlt w, by simp only [R]; rfl⟩
    · simp at h
  case index t x i =>
    simp only [lightS] at h
    obtain ⟨a, ha, h⟩ := Rs.bind_ok h
    obtain ⟨iv, hi, h⟩ := Rs.bind_ok h
    have hr := hev x (by simp [Op.operands]) _ ha
    have hri := hev i (by simp [Op.operands]) _ hi
    refine fin _ rfl ?_
    rw [cond_eq] at h
    split at h
    · obtain ⟨vr, h1, h2⟩ := hC.fact h E _ _ hr hri
      exact ⟨vr, h2 w, h1⟩
    · obtain ⟨u, hu, h⟩ := Rs.bind_ok h
      have hund := CxOk.run_und hC hu w
      split at h
      · obtain ⟨k, hk, h⟩ := Rs.bind_ok h
        obtain ⟨hlt, h⟩ := cond_ok h
        rw [blt_eq, decide_eq_true_eq] at hlt
        simp only [Rs.ok.injEq] at h; subst h
        obtain ⟨kk, hkk⟩ := asNat_ok hk hri
        simp only [R] at hr
        obtain ⟨_, hv⟩ := hr
        exact index_str hC hu hlt kk (by rw [hkk]) hv w
      · obtain ⟨k, hk, h⟩ := Rs.bind_ok h
        obtain ⟨sz, hs, h⟩ := Rs.bind_ok h
        obtain ⟨hlt, h⟩ := cond_ok h
        rw [blt_eq, decide_eq_true_eq] at hlt
        obtain ⟨kk, hkk⟩ := asNat_ok hk hri
        simp only [R] at hr
        obtain ⟨cs', hcs, hv⟩ := hr
        obtain ⟨v', h1, h2⟩ := partS_ok hC hcs h w
        refine ⟨v', ?_, h2⟩
        have hsz := CxOk.run_size hC hs w
        have e : Nat.mul k sz = k * sz := rfl
        rw [e] at h1
        simp [Instr.index, hkk, hv, asIntOf, hund, hlt, hsz, h1]
      · simp at h
  case slice t x lo hi mx =>
    simp only [lightS] at h
    obtain ⟨a, ha, h⟩ := Rs.bind_ok h
    obtain ⟨l, hl, h⟩ := Rs.bind_ok h
    obtain ⟨hh, hhi, h⟩ := Rs.bind_ok h
    obtain ⟨mm, hmm, h⟩ := Rs.bind_ok h
    refine fin _ rfl (sliceS_ok hC hM (hev x (by simp [Op.operands]) _ ha) (evO_ok (fun y hy => hev y (by simp [Op.operands, hy])) hl) (evO_ok (fun y hy => hev y (by simp [Op.operands, hy])) hhi) (evO_ok (fun y hy => hev y (by simp [Op.operands, hy])) hmm) h)
  case extract x i =>
    simp only [lightS] at h
    obtain ⟨a, ha, h⟩ := Rs.bind_ok h
    have hr := hev x (by simp [Op.operands]) _ ha
    refine fin _ rfl ?_
    split at h
    · split at h
      · rename_i y hy
        simp only [Rs.ok.injEq] at h; subst h
        simp only [R] at hr
        obtain ⟨cs', hcs, hv⟩ := hr
        obtain ⟨u, hu, hru⟩ := hcs.get _ _ hy
        refine ⟨u, ?_, hru⟩
        have : (⟨cs'⟩ : Array Value)[i]? = some u := by simpa using hu
        simp [Instr.extract, hv, this]
      · simp at h
    · simp at h
  case build t ps =>
    simp only [lightS] at h
    obtain ⟨pv, hp, h⟩ := Rs.bind_ok h
    obtain ⟨z, hz, h⟩ := Rs.bind_ok h
    obtain ⟨hna, h⟩ := cond_ok h
    obtain ⟨u, hu, h⟩ := Rs.bind_ok h
    refine fin _ rfl ?_
    refine build_ok hC (ps := pv) ?_ hz hna hu h w
    have := evParts_ok (E := E) (ρ := ρ) (ev := ev) (fun x hx => hev x.2 (by simp [Op.operands]; exact ⟨x.1, by simpa using hx⟩)) hp
    simpa using this
  case typeAssert x xt asserted ok =>
    simp only [lightS] at h
    obtain ⟨a, ha, h⟩ := Rs.bind_ok h
    obtain ⟨u, hu, h⟩ := Rs.bind_ok h
    exact fin _ rfl (assertS_ok hC hu (hev x (by simp [Op.operands]) _ ha) h w)
  case lookup t x i ok =>
    simp only [lightS] at h
    obtain ⟨a, ha, h⟩ := Rs.bind_ok h
    obtain ⟨k, hk, h⟩ := Rs.bind_ok h
    obtain ⟨u, hu, h⟩ := Rs.bind_ok h
    split at h
    · obtain ⟨ku, hku, h⟩ := Rs.bind_ok h
      obtain ⟨hp, h⟩ := cond_ok h
      exact fin _ rfl (lookup_ok hC hM hu hku hp (hev x (by simp [Op.operands]) _ ha) (hev i (by simp [Op.operands]) _ hk) h)
    · simp at h
  case convert src dst x =>
    simp only [lightS] at h
    obtain ⟨a, ha, h⟩ := Rs.bind_ok h
    obtain ⟨us, hus, h⟩ := Rs.bind_ok h
    obtain ⟨ud, hud, h⟩ := Rs.bind_ok h
    have hr := hev x (by simp [Op.operands]) _ ha
    exact fin _ rfl (convS_ok hC hM hus hud hr h)
  case call c =>
    obtain ⟨callee, args, argTypes⟩ := c
    cases callee with
    | builtin b =>
      simp only [lightS] at h
      obtain ⟨vs, hvs, h⟩ := Rs.bind_ok h
      have hr := evs_ok (E := E) (ρ := ρ) (ev := ev) (fun x hx => hev x (by simp [Op.operands, Call.operands] at *; exact hx)) hvs
      obtain ⟨v', h1, h2⟩ := builtS_ok hC hM (T := argTypes) (ty := ty) (consts := args.map fun | .const _ => true | _ => false) hr h
      refine ⟨v', ?_, h2⟩
      simp only [execOp, resolve, Sem.run_bind, Sem.run_pure, Result.andThen_ok, invoke, map_mk]
      exact h1
    | value f => simp [lightS] at h
    | invoke r n => simp [lightS] at h
  all_goals simp [lightS] at h

end
end Go.Eng
