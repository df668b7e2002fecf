import Derived.Test.YtjnejkmcmmablaaGreatDoorEngHeavy
/-
  Stores, appends, maps.
-/
namespace Go.Eng
open Go.RowKit

section
variable {C : Cx} {ρ : Nat → Value} {w0 : World} {E : Env} {m : Mem} {w : World} {s : FS} {ev : Operand → Value}

theorem setCells_get : ∀ (vs : List SV) (off : Nat) (t : Tr SV) (k : Nat), (setCells vs off t).get k = if off ≤ k ∧ k < off + vs.length then vs[k - off]? else t.get k
  | [], off, t, k => by simp [setCells]; omega
  | v :: vs, off, t, k => by
    rw [setCells, setCells_get vs, Tr.get_set]
    simp only [Nat.succ_eq_add_one, List.length_cons]
    by_cases h1 : off + 1 ≤ k ∧ k < off + 1 + vs.length
    · rw [if_pos h1, if_pos (by omega)]
      obtain ⟨d, hd⟩ : ∃ d, k - off = d + 1 := ⟨k - off - 1, by omega⟩
      rw [hd, show k - (off + 1) = d from by omega]; simp
    · rw [if_neg h1]
      by_cases h2 : k = off
      · subst h2; rw [if_pos rfl, if_pos (by omega)]; simp
      · rw [if_neg h2, if_neg (by omega)]

/-- What may be written is not marked. -/
theorem mayWrite_ok {fz : Fz} {fr : Nat × Nat} {L : Loc} {size off k : Nat} (h : FzOk fz fr L size) (hw : mayWrite fz off = true) (h1 : L.off + off ≤ k) (h2 : k < size) : ¬ (fr.1 ≤ k ∧ k < fr.2) := by
  cases fz with
  | no => simp only [FzOk] at h; omega
  | below j =>
    simp only [FzOk] at h
    simp only [mayWrite, ble_eq, decide_eq_true_eq] at hw
    omega
  | behind => simp only [FzOk] at h; omega
  | some => simp [mayWrite] at hw

/-- Cells that are written. -/
theorem put_ok (hM : RM C.P ρ w0 E m w) {id off : Nat} {vs : List SV} {us : List Value} {L : Loc} {m' : Mem} (hE : E id = some L) (hr : Rs' E ρ vs us) (h1 : ∀ v, v ∈ us → v.oneCell' = true) (h : m.put id off vs = .ok m') :
    ∃ w', (storeCells ⟨L.blk, L.off + off, none⟩ us).run C.P w = .ok () w' ∧ RM C.P ρ w0 E m' w' ∧ m'.nx = m.nx := by
  unfold Mem.put at h
  split at h
  · rename_i e k cells x fz hrow
    obtain ⟨hc, h⟩ := cond_ok h
    simp only [ble_eq, Bool.and_eq_true, decide_eq_true_eq, lenOf_eq, Nat.zero_add] at hc
    obtain ⟨⟨hle, hmay⟩, _⟩ := hc
    have hle' : off + vs.length ≤ k := hle
    simp only [Rs.ok.injEq] at h; subst h
    obtain ⟨c, fr, hb, hcap, hn, hex, hcell, hfz, hes⟩ := hM.row hrow hE
    have hlen := hr.length
    have hsz : L.off + off + 0 + us.length ≤ c.size := by omega
    have hrun := run_storeCells_wr (P := C.P) L.blk e fr (L.off + off) us 0 c w hb hsz (fun q hq1 hq2 => mayWrite_ok hfz hmay (by omega) (by omega)) h1
    simp only [Nat.add_zero] at hrun
    refine ⟨_, hrun, ?_, rfl⟩
    refine hM.write hrow rfl hE (beside_setRow w L.blk _) ⟨wr c (L.off + off) us, fr, setRow_heap w L.blk c _ e fr hb, by rw [wr_size]; exact hcap, hn, hex, fun i hi => ?_, by rw [wr_size]; exact hfz, hes⟩
    rw [wr_get _ _ _ _ (by omega), setCells_get]
    by_cases hin : off ≤ i ∧ i < off + vs.length
    · rw [if_pos hin, if_pos (by omega)]
      have hx : vs[i - off]? = some (vs[i - off]'(by omega)) := List.getElem?_eq_getElem (by omega)
      obtain ⟨v, hv, hrv⟩ := hr.get _ _ hx
      refine ⟨_, v, hx, ?_, hrv, h1 v (List.mem_of_getElem? hv)⟩
      rw [← hv]; congr 1; omega
    · rw [if_neg hin, if_neg (by omega)]
      exact hcell i hi
  · simp at h

theorem put_agg {id off : Nat} {vs : List SV} {m' : Mem} (h : m.put id off vs = .ok m') : noAggO vs = true := by
  unfold Mem.put at h
  split at h
  · obtain ⟨hc, _⟩ := cond_ok h
    simp only [Bool.and_eq_true] at hc
    exact hc.2
  · simp at h

theorem store_ok (hC : CxOk C ρ w0) (hM : RM C.P ρ w0 E m w) {t : TypeId} {a v : SV} {va vv : Value} {m' : Mem} (ha : R E ρ a va) (hv : R E ρ v vv) (h : C.store m t a v = .ok m') :
    ∃ w', (Instr.storeAt t va vv).run C.P w = .ok () w' ∧ RM C.P ρ w0 E m' w' ∧ m'.nx = m.nx := by
  unfold Cx.store at h
  split at h
  · obtain ⟨z, hz, h⟩ := Rs.bind_ok h
    obtain ⟨hc, h⟩ := cond_ok h
    simp only [beq_eq, Bool.and_eq_true, decide_eq_true_eq] at hc
    obtain ⟨hna, hl⟩ := hc
    simp only [R] at ha
    obtain ⟨L, hE, rfl⟩ := ha
    obtain ⟨hcells, hsz⟩ := R.cells' hv hl (notAny_ne hna) hC.one
    have h1 := noAggO_ok hC (put_agg h) hcells
    obtain ⟨w', hrun, hM', hnx⟩ := put_ok hM hE hcells h1 h
    refine ⟨w', ?_, hM', hnx⟩
    have hs := CxOk.run_size hC hz w
    simp only [Instr.storeAt, Instr.sureAddr, storeVar, Sem.run_bind, Sem.run_pure, Result.andThen_ok, hs, hsz, ne_eq, not_true_eq_false, if_false]
    exact hrun
  · simp at h

/- Append. -/
theorem growBy_le (n : Nat) : ∀ (r c : Nat), c < n → Builtin.growBy n r c ≤ n + (n + 768) / 4
  | 0, c, h => by simp only [Builtin.growBy]; omega
  | r + 1, c, h => by
    simp only [Builtin.growBy]
    rw [if_neg (by omega)]
    by_cases h2 : c + (c + 768) / 4 < n
    · exact growBy_le n r _ h2
    · have : Builtin.growBy n r (c + (c + 768) / 4) = c + (c + 768) / 4 := by
        cases r with
        | zero => rfl
        | succ r => simp only [Builtin.growBy]; rw [if_pos (by omega)]
      rw [this]; omega

theorem nextcap_le (n c : Nat) (h : c < n) : Builtin.nextslicecap n c ≤ 2 * n + 1000 := by
  unfold Builtin.nextslicecap
  split
  · omega
  · split
    · omega
    · have := growBy_le n 4 c h; omega

theorem zeroCells_size (z : Array Value) (n : Nat) : (Builtin.zeroCells z n).size = n * z.size := by simp [Builtin.zeroCells]

/-- What is appended, as the model reads it. -/
theorem strCells_ok : ∀ (l n : Nat) (acc : List SV) (us : List Value), Rs' E ρ acc us → Rs' E ρ (strCells l n acc) ((bytesOf l n).map (fun b => Value.int .u8 b.toNat) ++ us)
  | 0, n, acc, us, h => by simpa [strCells, bytesOf] using h
  | l + 1, n, acc, us, h => by
    simp only [strCells]
    have := strCells_ok l (n / 256) (.int .u8 (.ofNat (n % 256)) :: acc) (.int .u8 (Int.ofNat (n % 256)) :: us) (Rs'.cons (by simp [R]) h)
    rw [bytesOf_succ, List.map_append, List.append_assoc]
    have e : (UInt8.ofNat n).toNat = n % 256 := by simp
    simp only [List.map_cons, List.map_nil, List.cons_append, List.nil_append, e]
    exact this

theorem whole_mkStr (l n : Nat) (h : n < 256 ^ l) : (mkStr l n).extract 0 l = mkStr l n := by
  rw [extract_mkStr l n 0 l (Nat.zero_le _) (Nat.le_refl _)]
  simp [Nat.mod_eq_of_lt h]

theorem RM.cellsD (hM : RM C.P ρ w0 E m w) {id off n : Nat} {l : List SV} (h : m.cells id off n = .ok l) {L : Loc} (hE : E id = some L) :
    ∃ vs, Rs' E ρ l vs ∧ vs.length = n ∧ (∀ v ∈ vs, v.oneCell' = true) ∧ ∀ d, (loadCells ⟨L.blk, L.off + off, none⟩ n).run C.P { w with drawn := d } = .ok vs.toArray { w with drawn := d } := by
  obtain ⟨vs, h1, h2, h3, h4, _⟩ := hM.cells h hE
  refine ⟨vs, h1, h2, h3, fun d => ?_⟩
  have := run_loadCells_get C.P { w with drawn := d } ⟨L.blk, L.off + off, none⟩ vs (fun i v hv => by rw [addr_add]; exact h4 i v hv)
  rwa [h2] at this

theorem appended_ok (hM : RM C.P ρ w0 E m w) {s k : Nat} {y : SV} {vy : Value} {new : List SV} (hy : R E ρ y vy) (h : appended m s y = .ok (k, new)) :
    ∃ us, Rs' E ρ new us ∧ us.length = k * s ∧ (∀ v, v ∈ us → v.oneCell' = true) ∧ (Builtin.lenOf vy).run C.P w = .ok k w ∧ ∀ d, (Builtin.firstCells s k vy).run C.P { w with drawn := d } = .ok us.toArray { w with drawn := d } := by
  unfold appended at h
  split at h
  · rename_i l n
    obtain ⟨hs, h⟩ := cond_ok h
    rw [beq_eq, decide_eq_true_eq] at hs
    simp only [Rs.ok.injEq, Prod.mk.injEq] at h
    obtain ⟨rfl, rfl⟩ := h
    simp only [R] at hy
    obtain ⟨hn, rfl⟩ := hy
    refine ⟨(bytesOf l n).map fun b => .int .u8 b.toNat, by have := strCells_ok (E := E) (ρ := ρ) l n [] [] Rs'.nil; simpa using this, by simp [length_bytesOf, hs], by simp [Value.oneCell'], by simp [Builtin.lenOf, size_mkStr], fun d => ?_⟩
    simp only [Builtin.firstCells, whole_mkStr l n hn, Sem.run_pure]
    congr 1
    apply Array.toList_inj.1
    simp [data_mkStr]
  · simp only [Rs.ok.injEq, Prod.mk.injEq] at h
    obtain ⟨rfl, rfl⟩ := h
    simp only [R] at hy; subst hy
    exact ⟨[], Rs'.nil, by simp, by simp, rfl, fun d => rfl⟩
  · simp only [Rs.ok.injEq, Prod.mk.injEq] at h
    obtain ⟨rfl, rfl⟩ := h
    simp only [R] at hy; obtain ⟨a, c, rfl⟩ := hy
    refine ⟨[], Rs'.nil, by simp, by simp, rfl, fun d => ?_⟩
    simp [Builtin.firstCells, loadCells, loadCellsFrom]
  · obtain ⟨l, hl, h⟩ := Rs.bind_ok h
    simp only [Rs.ok.injEq, Prod.mk.injEq] at h
    obtain ⟨rfl, rfl⟩ := h
    simp only [R] at hy
    obtain ⟨L, c, hL, rfl, _⟩ := hy
    obtain ⟨vs, hvs, hlen, hone, hrun⟩ := hM.cellsD hl hL
    exact ⟨vs, hvs, hlen, hone, rfl, hrun⟩
  · simp at h

/-- A slice of a row that has just grown. -/
theorem grown_new (hM : RM C.P ρ w0 E m w) {e : TypeId} {l : List SV} {vs rest : List Value} {len c s : Nat} (hl : Rs' E ρ l vs) (h1 : ∀ v, v ∈ vs → v.oneCell' = true) (hs : C.P.cellsOf e = s) (hc : c * s = vs.length + rest.length) (d : Nat) :
    ∃ w', w' = ({ w with drawn := d } : World).alloc (.cells ⟨vs ++ rest⟩ e) ∧ Left C ρ w0 E m (m.new (.row e (lenOf l 0) (rowOf l) false .behind)).2 w' fun E' => R E' ρ (.sl m.nx 0 len none) (.slice (some ⟨w.heap.size, 0, none⟩) len c) := by
  have hM' := hM.drawn d
  let L : Loc := ⟨w.heap.size, 0, vs.length + rest.length, C.P.cellsOf e⟩
  have hl' : Rs' (E.put m.nx L) ρ l vs := hl.mono (hM.put_le _)
  refine ⟨_, rfl, E.put m.nx L, Env.put_agree _ _, hM.put_le _, ?_, Nat.le_succ _, ?_⟩
  · refine hM'.alloc _ _ L rfl ?_
    exact RO.new (P := C.P) hl' h1 e rest false (fun h => by cases h) .behind (0, 0) _ _ rfl _ (heap_alloc_new _ _) (.inl rfl)
  · simp only [R]
    exact ⟨L, c, Env.put_same _ _, rfl, Nat.zero_le _, by show c * C.P.cellsOf e = _; rw [hs]; exact hc⟩

theorem run_firstCells (hM : RM C.P ρ w0 E m w) {id off n : Nat} {l : List SV} {L : Loc} (hE : E id = some L) (h : m.cells id off n = .ok l) (len cap s : Nat) (hn : n = len * s) :
    ∃ vs, Rs' E ρ l vs ∧ vs.length = n ∧ (∀ v, v ∈ vs → v.oneCell' = true) ∧ ∀ d, (Builtin.firstCells s len (.slice (some ⟨L.blk, L.off + off, none⟩) len cap)).run C.P { w with drawn := d } = .ok vs.toArray { w with drawn := d } := by
  obtain ⟨vs, h1, h2, h3, h5⟩ := hM.cellsD h hE
  exact ⟨vs, h1, h2, h3, fun d => by have := h5 d; rw [hn] at this; exact this⟩

/-- The model's append where it fits. -/
theorem run_append_in {P : Program} {sT xT e : TypeId} {T : Array TypeId} {ty : TypeId} {xu : TypeDesc} {s k len c : Nat} {a : Addr} {vy : Value} {us : List Value} {w w' : World} (hT : T.toList = [sT, xT]) (hu : P.underlying sT = some (.slice e)) (hx : P.underlying xT = some xu) (hni : isIntD xu = false)
    (hs : (sizeOf e).run P w = .ok s w) (hlen : (Builtin.lenOf vy).run P w = .ok k w) (hf : (Builtin.firstCells s k vy).run P w = .ok us.toArray w) (hle : len + k ≤ c) (hst : (storeCells (a.add (len * s)) us).run P w = .ok () w') :
    (Builtin.append_ T ty ⟨[.slice (some a) len c, vy]⟩).run P w = .ok (.slice (some a) (len + k) c) w' := by
  have hT0 : T[0]? = some sT := by rw [← Array.getElem?_toList, hT]; rfl
  have hT1 : T[1]? = some xT := by rw [← Array.getElem?_toList, hT]; rfl
  have h0 : (⟨[.slice (some a) len c, vy]⟩ : Array Value)[0]? = some (.slice (some a) len c) := rfl
  have h1 : (⟨[.slice (some a) len c, vy]⟩ : Array Value)[1]? = some vy := rfl
  have hx' := fun w => run_underlying (P := P) hx w
  have hu' := fun w => run_underlying (P := P) hu w
  have hst' : (storeCells (a.add (len * s)) us.toArray.toList).run P w = .ok () w' := hst
  cases xu
  case int => simp [isIntD] at hni
  all_goals
    simp only [Builtin.append_, hT0, hT1, h0, h1, Sem.run_bind, hu', hx', Result.andThen_ok, hs, Sem.run_pure, Bool.false_eq_true, if_false, hlen]
    rw [if_pos hle]
    simp only [Bool.not_false, if_true, Sem.run_bind, hf, Result.andThen_ok, hst', Sem.run_pure]

/-- The model's append to nothing, of nothing. -/
theorem run_append_nil {P : Program} {sT xT e : TypeId} {T : Array TypeId} {ty : TypeId} {xu : TypeDesc} {s c : Nat} {vy : Value} {w : World} (hT : T.toList = [sT, xT]) (hu : P.underlying sT = some (.slice e)) (hx : P.underlying xT = some xu) (hni : isIntD xu = false)
    (hs : (sizeOf e).run P w = .ok s w) (hlen : (Builtin.lenOf vy).run P w = .ok 0 w) (hf : (Builtin.firstCells s 0 vy).run P w = .ok ([] : List Value).toArray w) :
    (Builtin.append_ T ty ⟨[.slice none 0 c, vy]⟩).run P w = .ok (.slice none 0 c) w := by
  have hT0 : T[0]? = some sT := by rw [← Array.getElem?_toList, hT]; rfl
  have hT1 : T[1]? = some xT := by rw [← Array.getElem?_toList, hT]; rfl
  have h0 : (⟨[.slice none 0 c, vy]⟩ : Array Value)[0]? = some (.slice none 0 c) := rfl
  have h1 : (⟨[.slice none 0 c, vy]⟩ : Array Value)[1]? = some vy := rfl
  have hx' := fun w => run_underlying (P := P) hx w
  have hu' := fun w => run_underlying (P := P) hu w
  cases xu
  case int => simp [isIntD] at hni
  all_goals
    simp only [Builtin.append_, hT0, hT1, h0, h1, Sem.run_bind, hu', hx', Result.andThen_ok, hs, Sem.run_pure, Bool.false_eq_true, if_false, hlen]
    rw [if_pos (Nat.zero_le _)]
    simp only [Bool.not_false, if_true, Sem.run_bind, hf, Result.andThen_ok, Sem.run_pure]

/-- The model's append where it grows. -/
theorem run_append_grows {P : Program} {sT xT e : TypeId} {T : Array TypeId} {ty : TypeId} {xu : TypeDesc} {s k len c : Nat} {base : Option Addr} {vy z : Value} {i : TypeInfo} {us olds : List Value} {w : World} (hT : T.toList = [sT, xT]) (hu : P.underlying sT = some (.slice e)) (hx : P.underlying xT = some xu) (hni : isIntD xu = false)
    (hs : ∀ w, (sizeOf e).run P w = .ok s w) (hi : P.info? e = some i) (hz : i.zero = some z) (hlen : (Builtin.lenOf vy).run P w = .ok k w) (hf : ∀ d, (Builtin.firstCells s k vy).run P { w with drawn := d } = .ok us.toArray { w with drawn := d })
    (ho : ∀ d, (Builtin.firstCells s len (.slice base len c)).run P { w with drawn := d } = .ok olds.toArray { w with drawn := d }) (hle : c < len + k) (hok : growOk (len + k) i.bytes = true) :
    ∃ cap d, len + k ≤ cap ∧ (Builtin.append_ T ty ⟨[.slice base len c, vy]⟩).run P w = .ok (.slice (some ⟨w.heap.size, 0, none⟩) (len + k) cap)
      (({ w with drawn := d } : World).alloc (.cells ⟨(olds ++ us) ++ (Builtin.zeroCells z.cells (cap - (len + k))).toList⟩ e)) := by
  have hT0 : T[0]? = some sT := by rw [← Array.getElem?_toList, hT]; rfl
  have hT1 : T[1]? = some xT := by rw [← Array.getElem?_toList, hT]; rfl
  have h0 : (⟨[.slice base len c, vy]⟩ : Array Value)[0]? = some (.slice base len c) := rfl
  have h1 : (⟨[.slice base len c, vy]⟩ : Array Value)[1]? = some vy := rfl
  have hx' := fun w => run_underlying (P := P) hx w
  have hu' := fun w => run_underlying (P := P) hu w
  simp only [growOk, ble_eq, Bool.and_eq_true, decide_eq_true_eq] at hok
  have hmax : ¬ (((len + k : Nat) : Int) > IntKind.i64.max) := by
    have : IntKind.i64.max = 9223372036854775807 := by decide
    rw [this]; omega
  have hb : ¬ (Builtin.nextslicecap (len + k) c * i.bytes > 2 ^ 48) := by
    have h2 := nextcap_le (len + k) c hle
    have h3 : (2 * (len + k) + 1000) * i.bytes ≤ 281474976710656 := hok.1
    have h4 : Builtin.nextslicecap (len + k) c * i.bytes ≤ (2 * (len + k) + 1000) * i.bytes := Nat.mul_le_mul_right _ h2
    omega
  have hti := fun w => run_typeInfo w hi
  have harr : ∀ Z : Array Value, olds.toArray ++ us.toArray ++ Z = ⟨(olds ++ us) ++ Z.toList⟩ := fun Z => Array.toList_inj.1 (by simp)
  have hzr : ∀ w, (zeroValue e).run P w = .ok z w := fun w => by simp [zeroValue, hti, hz]
  refine ⟨(Question.appendCap (len + k) c e).cut (w.tape w.drawn (.appendCap (len + k) c e)), w.drawn + 1, by simp [Question.cut], ?_⟩
  cases xu
  case int => simp [isIntD] at hni
  all_goals
    simp only [Builtin.append_, hT0, hT1, h0, h1, Sem.run_bind, hu', hx', Result.andThen_ok, hs, Sem.run_pure, Bool.false_eq_true, if_false, hlen]
    rw [if_neg (by omega)]
    simp only [Sem.run_bind, hti, Result.andThen_ok]
    rw [if_neg (fun hh => hmax hh.1)]
    simp only [Sem.run_bind, hti, Result.andThen_ok]
    rw [if_neg hb]
    simp only [Sem.run_bind, run_choose, Question.forced, Bool.false_eq_true, if_false, Result.andThen_ok, hti, run_askRoom, ho, Bool.not_false, if_true, hf, hzr]
    rw [harr]
    rfl


/-- What an append goes by. -/
structure AppIn (C : Cx) (w : World) (T : Array TypeId) (e : TypeId) (s bytes k : Nat) (vy : Value) (us : List Value) where
  sT : TypeId
  xT : TypeId
  xu : TypeDesc
  i : TypeInfo
  z : Value
  hT : T.toList = [sT, xT]
  hu : C.P.underlying sT = some (.slice e)
  hx : C.P.underlying xT = some xu
  hni : isIntD xu = false
  hi : C.P.info? e = some i
  hsi : i.size = s
  hbi : i.bytes = bytes
  hz : i.zero = some z
  hzs : z.cells.size = s
  hs0 : 0 < s
  hlen : (Builtin.lenOf vy).run C.P w = .ok k w
  hf : ∀ d, (Builtin.firstCells s k vy).run C.P { w with drawn := d } = .ok us.toArray { w with drawn := d }
  hul : us.length = k * s
  h1 : ∀ v, v ∈ us → v.oneCell' = true

section
variable {T : Array TypeId} {e : TypeId} {s bytes k : Nat} {vy : Value} {us : List Value}

theorem AppIn.hs (A : AppIn C w T e s bytes k vy us) (w : World) : (sizeOf e).run C.P w = .ok s w := by
  rw [run_sizeOf w A.hi]; simp [Program.cellsOf, A.hi, A.hsi]

theorem AppIn.cellsOf (A : AppIn C w T e s bytes k vy us) : C.P.cellsOf e = s := by simp [Program.cellsOf, A.hi, A.hsi]

theorem AppIn.fits (A : AppIn C w T e s bytes k vy us) (ty : TypeId) {len c : Nat} {a : Addr} {w' : World} (hle : len + k ≤ c) (hst : (storeCells (a.add (len * s)) us).run C.P w = .ok () w') :
    (Builtin.append_ T ty ⟨[.slice (some a) len c, vy]⟩).run C.P w = .ok (.slice (some a) (len + k) c) w' :=
  run_append_in A.hT A.hu A.hx A.hni (A.hs w) A.hlen (A.hf w.drawn) hle hst

theorem AppIn.grow (A : AppIn C w T e s bytes k vy us) (ty : TypeId) {base : Option Addr} {len c : Nat} {l : List SV} {olds : List Value} {m1 : Mem} (hM1 : RM C.P ρ w0 E m1 w) (hnx : m1.nx = m.nx) (hl : Rs' E ρ l (olds ++ us)) (hol : olds.length = len * s) (ho1 : ∀ v, v ∈ olds → v.oneCell' = true)
    (hfo : ∀ d, (Builtin.firstCells s len (.slice base len c)).run C.P { w with drawn := d } = .ok olds.toArray { w with drawn := d }) (hlt : c < len + k) (hok : growOk (len + k) bytes = true) :
    ∃ v' w', (Builtin.append_ T ty ⟨[.slice base len c, vy]⟩).run C.P w = .ok v' w' ∧ Left C ρ w0 E m (m1.new (.row e (lenOf l 0) (rowOf l) false .behind)).2 w' fun E' => R E' ρ (.sl m1.nx 0 (len + k) none) v' := by
  obtain ⟨cap, d, hcap, hrun⟩ := run_append_grows (ty := ty) A.hT A.hu A.hx A.hni A.hs A.hi A.hz A.hlen A.hf hfo hlt (by rw [A.hbi]; exact hok)
  have hall : ∀ v, v ∈ olds ++ us → v.oneCell' = true := fun v hv => by
    rcases List.mem_append.1 hv with hv | hv
    · exact ho1 v hv
    · exact A.h1 v hv
  have hlenall : cap * s = (olds ++ us).length + (Builtin.zeroCells A.z.cells (cap - (len + k))).toList.length := by
    have hz1 : (Builtin.zeroCells A.z.cells (cap - (len + k))).toList.length = (cap - (len + k)) * s := by rw [Array.length_toList, zeroCells_size, A.hzs]
    rw [hz1, List.length_append, hol, A.hul, ← Nat.add_mul, ← Nat.add_mul]
    congr 1; omega
  obtain ⟨w', hw', hleft⟩ := grown_new (C := C) hM1 (len := len + k) hl hall A.cellsOf hlenall d
  obtain ⟨E', a1, a2, a3, a4, a5⟩ := hleft
  exact ⟨_, w', by rw [hw']; exact hrun, E', by rw [← hnx]; exact a1, a2, a3, by rw [← hnx]; exact a4, a5⟩

/-- Where the row known is too short, yet the model's block is not. -/
theorem AppIn.hidden (A : AppIn C w T e s bytes k vy us) (ty : TypeId) (hM : RM C.P ρ w0 E m w) {id off len n c : Nat} {cells : Tr SV} {x : Bool} {fz : Fz} {new old : List SV} {L : Loc} (hus : Rs' E ρ new us) (hrow : m.hp.get id = some (.row e n cells x fz)) (hE : E id = some L)
    (hoff : off ≤ L.cap) (hc : c * L.es = L.cap - off) (hold : m.cells id off (len * s) = .ok old) (hg : mayGrow fz = true) (hle : len + k ≤ c) :
    ∃ v' w', (Builtin.append_ T ty ⟨[.slice (some ⟨L.blk, L.off + off, none⟩) len c, vy]⟩).run C.P w = .ok v' w' ∧
      Left C ρ w0 E m ((⟨m.nx, m.hp.set id .dead⟩ : Mem).new (.row e (lenOf (old ++ new) 0) (rowOf (old ++ new)) false .behind)).2 w' fun E' => R E' ρ (.sl m.nx 0 (len + k) none) v' := by
  obtain ⟨ca, fr, hb, hcap, hn, hex, hcell, hfz, hes⟩ := hM.row hrow hE
  rw [A.cellsOf] at hes
  rw [hes] at hc
  obtain ⟨olds, ho, hol, ho1, hocell, _⟩ := hM.cells hold hE
  have hmul : (len + k) * s ≤ L.cap - off := by rw [← hc]; exact Nat.mul_le_mul_right _ hle
  have hsum : (len + k) * s = len * s + us.length := by rw [Nat.add_mul, A.hul]
  have hfree : ∀ q, L.off + off + len * s + 0 ≤ q → q < L.off + off + len * s + 0 + us.length → ¬ (fr.1 ≤ q ∧ q < fr.2) := by
    intro q h1 h2
    cases fz with
    | no => simp only [FzOk] at hfz; omega
    | behind => simp only [FzOk] at hfz; omega
    | below j => simp [mayGrow] at hg
    | some => simp [mayGrow] at hg
  have hst := run_storeCells_wr (P := C.P) L.blk e fr (L.off + off + len * s) us 0 ca w hb (by omega) hfree A.h1
  simp only [Nat.add_zero] at hst
  refine ⟨_, _, A.fits ty hle (by rw [addr_add]; exact hst), ?_⟩
  let L' : Loc := ⟨L.blk, L.off + off, L.cap - off, s⟩
  have hle' := hM.put_le L'
  have hb' := setRow_heap w L.blk ca (wr ca (L.off + off + len * s) us) e fr hb
  refine ⟨E.put m.nx L', Env.put_agree _ _, hle', ?_, Nat.le_succ _, ?_⟩
  · refine hM.regrow hrow rfl hE (beside_setRow w L.blk _) rfl ⟨_, fr, hb', ?_, ?_, (fun h => by cases h), (fun i hi => ?_), ?_, A.cellsOf.symm⟩
    · rw [wr_size]; show L.off + off + (L.cap - off) = _; omega
    · have := hus.length; rw [lenOf_eq, List.length_append]; show _ ≤ L.cap - off; have := ho.length; omega
    · rw [lenOf_eq, List.length_append] at hi
      have hl1 := hus.length
      have hl2 := ho.length
      rw [wr_get _ _ _ _ (by omega)]
      show ∃ x v, (rowOf (old ++ new)).get i = some x ∧ (if L.off + off + len * s ≤ L.off + off + i ∧ L.off + off + i < L.off + off + len * s + us.length then us[L.off + off + i - (L.off + off + len * s)]? else ca[L.off + off + i]?) = some v ∧ _
      by_cases hin : i < len * s
      · rw [if_neg (by omega)]
        have hx : old[i]? = some (old[i]'(by omega)) := List.getElem?_eq_getElem (by omega)
        obtain ⟨v, hv, hr⟩ := ho.get i _ hx
        refine ⟨_, v, by rw [rowOf_get, List.getElem?_append_left (by omega)]; exact hx, ?_, R.mono hle' _ _ hr, ho1 v (List.mem_of_getElem? hv)⟩
        have := hocell i v hv
        rw [cell_of_row w L.blk _ ca e fr hb] at this
        exact this
      · rw [if_pos (by omega)]
        have hx : new[i - len * s]? = some (new[i - len * s]'(by omega)) := List.getElem?_eq_getElem (by omega)
        obtain ⟨v, hv, hr⟩ := hus.get _ _ hx
        refine ⟨_, v, by rw [rowOf_get, List.getElem?_append_right (by omega), show i - old.length = i - len * s from by omega]; exact hx, ?_, R.mono hle' _ _ hr, A.h1 v (List.mem_of_getElem? hv)⟩
        rw [show L.off + off + i - (L.off + off + len * s) = i - len * s from by omega]; exact hv
    · rw [wr_size]
      cases fz with
      | no => exact .inl hfz
      | behind => exact hfz
      | below j => simp [mayGrow] at hg
      | some => simp [mayGrow] at hg
  · simp only [R]
    exact ⟨L', c, Env.put_same _ _, rfl, Nat.zero_le _, by show c * s = L.cap - off - 0; omega⟩

theorem appendTo_ok (A : AppIn C w T e s bytes k vy us) (ty : TypeId) (hM : RM C.P ρ w0 E m w) {x : SV} {vx : Value} {new : List SV} {r : OR} (hus : Rs' E ρ new us) (hx : R E ρ x vx) (h : appendTo m e s bytes k new x = .ok r) :
    ∃ v m' v' w', r = .val v m' ∧ (Builtin.append_ T ty ⟨[vx, vy]⟩).run C.P w = .ok v' w' ∧ Left C ρ w0 E m m' w' fun E' => R E' ρ v v' := by
  have same : ∀ {v : SV} {v' : Value}, R E ρ v v' → Left C ρ w0 E m m w fun E' => R E' ρ v v' := fun h => ⟨E, fun _ _ => rfl, Env.le_refl E, hM, Nat.le_refl _, h⟩
  unfold appendTo at h
  split at h
  · -- nil
    simp only [R] at hx; subst hx
    rw [cond_eq] at h
    split at h
    · rename_i hk
      rw [beq_eq, decide_eq_true_eq] at hk
      subst hk
      simp only [Rs.ok.injEq] at h; subst h
      have hu0 : us = [] := List.length_eq_zero_iff.1 (by rw [A.hul]; simp)
      have hf := A.hf w.drawn
      rw [hu0] at hf
      exact ⟨_, _, _, _, rfl, run_append_nil A.hT A.hu A.hx A.hni (A.hs w) A.hlen hf, same (by simp [R])⟩
    · rename_i hk
      obtain ⟨hok, h⟩ := cond_ok h
      simp only [Rs.ok.injEq] at h
      have hk' : k ≠ 0 := fun h0 => hk (by rw [h0]; rfl)
      obtain ⟨v', w', h1, h2⟩ := A.grow ty (base := none) (len := 0) (c := 0) (l := new) (olds := []) hM (m := m) rfl hus (by simp) (by simp) (fun d => rfl) (by omega) (by rw [Nat.zero_add]; exact hok)
      rw [Nat.zero_add] at h2
      exact ⟨_, _, v', w', h.symm, h1, h2⟩
  · -- empty
    simp only [R] at hx; obtain ⟨a, c, rfl⟩ := hx
    obtain ⟨hk, h7⟩ := cond_ok h
    rw [beq_eq, decide_eq_true_eq] at hk
    subst hk
    clear h
    simp only [Rs.ok.injEq] at h7
    have h := h7
    have hu0 : us = [] := List.length_eq_zero_iff.1 (by rw [A.hul]; simp)
    exact ⟨_, _, _, _, h.symm, A.fits ty (Nat.zero_le _) (by rw [hu0]; rfl), same (by simp [R])⟩
  · rename_i id off len c
    simp only [R] at hx; obtain ⟨L, c', hE, rfl, rfl⟩ := hx
    rw [cond_eq] at h
    split at h
    · rename_i hle
      rw [ble_eq, decide_eq_true_eq] at hle
      have hle : len + k ≤ c' := hle
      obtain ⟨m', hp, h⟩ := Rs.bind_ok h
      simp only [Rs.ok.injEq] at h
      obtain ⟨w', h1, h2, h3⟩ := put_ok hM hE hus A.h1 hp
      refine ⟨_, _, _, w', h.symm, A.fits ty hle (by rw [addr_add, Nat.add_assoc]; exact h1), E, fun _ _ => rfl, Env.le_refl E, h2, by omega, ?_⟩
      simp only [R]; exact ⟨L, c', hE, rfl, rfl⟩
    · rename_i hle
      rw [ble_eq, decide_eq_true_eq] at hle
      have hle : ¬ (len + k ≤ c') := hle
      obtain ⟨hok, h⟩ := cond_ok h
      obtain ⟨old, hold, h⟩ := Rs.bind_ok h
      simp only [Rs.ok.injEq] at h
      obtain ⟨olds, o1, o2, o3, o4⟩ := run_firstCells hM hE hold len c' s rfl
      obtain ⟨v', w', h1, h2⟩ := A.grow ty hM (m := m) rfl (Rs'.append o1 hus) o2 o3 o4 (by omega) hok
      exact ⟨_, _, v', w', h.symm, h1, h2⟩
  · rename_i id off len
    simp only [R] at hx; obtain ⟨L, c', hE, rfl, hoff, hc⟩ := hx
    split at h
    · rename_i e' n cells x fz hrow
      obtain ⟨he, h7⟩ := cond_ok h
      clear h
      rw [beq_eq, decide_eq_true_eq] at he
      subst he
      have h := h7
      clear h7
      obtain ⟨ca, fr, hb, hcap, hn, hex, hcell, hfz, hes⟩ := hM.row hrow hE
      rw [A.cellsOf] at hes
      rw [cond_eq] at h
      split at h
      · rename_i hle
        rw [ble_eq, decide_eq_true_eq] at hle
        have hle : off + (len + k) * s ≤ n := hle
        have hlec : len + k ≤ c' := by
          rw [hes] at hc
          exact Nat.le_of_mul_le_mul_right (by omega : (len + k) * s ≤ c' * s) A.hs0
        obtain ⟨m', hp, h⟩ := Rs.bind_ok h
        simp only [Rs.ok.injEq] at h
        obtain ⟨w', h1, h2, h3⟩ := put_ok hM hE hus A.h1 hp
        refine ⟨_, _, _, w', h.symm, A.fits ty hlec (by rw [addr_add, Nat.add_assoc]; exact h1), E, fun _ _ => rfl, Env.le_refl E, h2, by omega, ?_⟩
        simp only [R]; exact ⟨L, c', hE, rfl, hoff, hc⟩
      · obtain ⟨hg, h⟩ := cond_ok h
        simp only [Bool.and_eq_true] at hg
        obtain ⟨old, hold, h⟩ := Rs.bind_ok h
        simp only [Rs.ok.injEq] at h
        by_cases hlec : len + k ≤ c'
        · obtain ⟨v', w', h1, h2⟩ := A.hidden ty hM hus hrow hE hoff hc hold hg.1 hlec
          exact ⟨_, _, v', w', h.symm, h1, h2⟩
        · obtain ⟨olds, o1, o2, o3, o4⟩ := run_firstCells hM hE hold len c' s rfl
          obtain ⟨v', w', h1, h2⟩ := A.grow ty (hM.kill id) (m := m) rfl (Rs'.append o1 hus) o2 o3 o4 (by omega) hg.2
          exact ⟨_, _, v', w', h.symm, h1, h2⟩
    · simp at h
  · simp at h

end

theorem appendS_slice (hC : CxOk C ρ w0) (hM : RM C.P ρ w0 E m w) {T : Array TypeId} {ty sT xT : TypeId} (hT : T.toList = [sT, xT]) {e : TypeId} {xu : TypeDesc} (hu : C.und sT = .ok (.slice e)) (hxu : C.und xT = .ok xu) {x y : SV} {vx vy : Value} {r : OR} (hx : R E ρ x vx) (hy : R E ρ y vy)
    (h : cond (isIntD xu) (.er "append: make" []) ((C.info e).bind fun i => (C.zero e).bind fun z => cond (notAny z && Nat.beq (lenOf z.cells 0) i.size && Nat.blt 0 i.size)
        ((appended m i.size y).bind fun (k, new) => appendTo m e i.size i.bytes k new x) (.er "append: element" [])) = Rs.ok r) :
    ∃ v m' v' w', r = .val v m' ∧ (Builtin.append_ T ty ⟨[vx, vy]⟩).run C.P w = .ok v' w' ∧ Left C ρ w0 E m m' w' fun E' => R E' ρ v v' := by
  rw [cond_eq] at h
  split at h
  · simp at h
  · rename_i hni
    have hni : isIntD xu = false := by simpa using hni
    obtain ⟨i, hi, h⟩ := Rs.bind_ok h
    obtain ⟨z, hz, h⟩ := Rs.bind_ok h
    obtain ⟨hcz, h⟩ := cond_ok h
    simp only [beq_eq, blt_eq, Bool.and_eq_true, decide_eq_true_eq] at hcz
    obtain ⟨⟨hna, hzl⟩, hs0⟩ := hcz
    obtain ⟨⟨k, new⟩, hap, h⟩ := Rs.bind_ok h
    have hii := CxOk.info_ok hC hi
    obtain ⟨it, zv, hit, hzv, hzR⟩ := CxOk.zero_ok (E := E) hC hz
    rw [hii] at hit; cases hit
    obtain ⟨_, hzs⟩ := R.cells' hzR hzl (notAny_ne hna) hC.one
    obtain ⟨us, hus, hul, h1, hlen, hf⟩ := appended_ok hM hy hap
    exact appendTo_ok ⟨sT, xT, xu, i, zv, hT, CxOk.und_ok hC hu, CxOk.und_ok hC hxu, hni, hii, rfl, rfl, hzv, hzs, hs0, hlen, hf, hul, h1⟩ ty hM hus hx h

theorem appendS_ok (hC : CxOk C ρ w0) (hM : RM C.P ρ w0 E m w) {T : Array TypeId} {ty : TypeId} {x y : SV} {vx vy : Value} {r : OR} (hx : R E ρ x vx) (hy : R E ρ y vy) (h : appendS C m T.toList x y = .ok r) :
    ∃ v m' v' w', r = .val v m' ∧ (Builtin.append_ T ty ⟨[vx, vy]⟩).run C.P w = .ok v' w' ∧ Left C ρ w0 E m m' w' fun E' => R E' ρ v v' := by
  unfold appendS at h
  split at h
  · obtain ⟨u, hu, h⟩ := Rs.bind_ok h
    obtain ⟨xu, hxu, h⟩ := Rs.bind_ok h
    split at h
    · exact appendS_slice hC hM (by assumption) hu hxu hx hy h
    · simp at h
  · simp at h

end
end Go.Eng
