import Derived.Test.YtjnejkmcmmablaaGreatDoorEngHeavy2
import Derived.Test.YtjnejkmcmmablaaGreatDoorEngRun
import Derived.Lib.UnsafeStr
/-
  Maps, makes, texts over bytes.
-/
namespace Go.Eng
open Go.RowKit

section
variable {C : Cx} {ρ : Nat → Value} {w0 : World} {E : Env} {m : Mem} {w : World} {s : FS} {ev : Operand → Value}

theorem findNow_at {ku : TypeDesc} {vk v : Value} : ∀ {fs : List MapEntry} {i j : Nat}, Instr.findNow ku vk fs i = some (some (j, v)) → ∃ f, i ≤ j ∧ fs[j - i]? = some f ∧ Instr.sameNow ku vk f.key = some true
  | [], i, j, h => by simp [Instr.findNow] at h
  | f :: fs, i, j, h => by
    unfold Instr.findNow at h
    split at h
    · rename_i hs
      simp only [Option.some.injEq, Prod.mk.injEq] at h
      obtain ⟨rfl, _⟩ := h
      exact ⟨f, Nat.le_refl _, by simp, hs⟩
    · obtain ⟨g, h1, h2, h3⟩ := findNow_at h
      refine ⟨g, by omega, ?_, h3⟩
      obtain ⟨d, hd⟩ : ∃ d, j - i = d + 1 := ⟨j - i - 1, by omega⟩
      have e2 : j - (i + 1) = d := by omega
      rw [hd]; rw [e2] at h2
      simpa using h2
    · cases h

theorem sameNow_eq {ku : TypeDesc} {a b : Value} (h : Instr.sameNow ku a b = some true) : b = a ∧ Instr.sameBits 10000 a a = true := by
  unfold Instr.sameNow at h
  split at h
  · split at h
    · simp only [Option.some.injEq, beq_iff_eq] at h
      subst_vars
      exact ⟨rfl, by simp [Instr.sameBits]⟩
    · cases h
  · simp only [Option.some.injEq] at h
    rw [ba_beq] at h
    subst h
    exact ⟨rfl, by simp only [Instr.sameBits]; exact (ba_beq _ _).2 rfl⟩
  · simp only [Option.some.injEq, beq_iff_eq] at h
    subst h
    exact ⟨rfl, by simp [Instr.sameBits]⟩
  · cases h

theorem REnts.append : ∀ {es : List Ent} {fs : List MapEntry} {e : Ent} {f : MapEntry}, REnts E ρ es fs → R E ρ e.key f.key → R E ρ e.val f.val → f.born = e.born → REnts E ρ (es ++ [e]) (fs ++ [f])
  | [], fs, e, f, h, h1, h2, h3 => by
    simp only [REnts] at h; subst h
    exact ⟨f, [], h1, h2, h3, rfl, rfl⟩
  | d :: es, fs, e, f, h, h1, h2, h3 => by
    simp only [REnts] at h
    obtain ⟨g, fs', a, b, c, d', rfl⟩ := h
    exact ⟨g, fs' ++ [f], a, b, c, REnts.append d' h1 h2 h3, rfl⟩

theorem REnts.setVal {v : SV} {vv vk : Value} (hv : R E ρ v vv) : ∀ {es : List Ent} {fs : List MapEntry} {j : Nat} {f : MapEntry}, REnts E ρ es fs → fs[j]? = some f → f.key = vk →
    REnts E ρ (Eng.setVal es j v) (fs.modify j fun e => { e with key := vk, val := vv })
  | [], fs, j, f, h, hj, _ => by
    simp only [REnts] at h; subst h; simp at hj
  | d :: es, fs, j, f, h, hj, hk => by
    simp only [REnts] at h
    obtain ⟨g, fs', a, b, c, d', rfl⟩ := h
    cases j with
    | zero =>
      simp at hj; subst hj
      exact ⟨{ g with key := vk, val := vv }, fs', (by subst hk; exact a), hv, c, d', rfl⟩
    | succ j =>
      simp only [List.getElem?_cons_succ] at hj
      exact ⟨g, _, a, b, c, REnts.setVal hv d' hj hk, rfl⟩

theorem run_setObj_map {P : Program} {r : Nat} {es : Array MapEntry} {clock : Nat} (o : Obj) (h : w.heap[r]? = some (.map es clock)) : (setObj r o).run P w = .ok () { w with heap := w.heap.setIfInBounds r o } := by
  simp [setObj, Sem.run, h]

theorem beside_set (w : World) (b : Nat) (o : Obj) : Beside b w { w with heap := w.heap.setIfInBounds b o } :=
  ⟨rfl, rfl, rfl, by simp, fun k hk => by simp only; rw [Array.getElem?_setIfInBounds_ne (fun e => hk e.symm)]⟩

theorem mapSet_ok (hC : CxOk C ρ w0) (hM : RM C.P ρ w0 E m w) {t : TypeId} {x k v : SV} {vx vk vv : Value} {m' : Mem} (hx : R E ρ x vx) (hk : R E ρ k vk) (hv : R E ρ v vv) (h : mapSet C m t x k v = .ok m') :
    ∃ w', (Instr.mapUpdate t vx vk vv).run C.P w = .ok () w' ∧ RM C.P ρ w0 E m' w' ∧ m'.nx = m.nx := by
  unfold mapSet at h
  obtain ⟨u, hu, h⟩ := Rs.bind_ok h
  split at h
  · rename_i kt et id _
    obtain ⟨ku, hku, h⟩ := Rs.bind_ok h
    simp only [R] at hx
    obtain ⟨L, hE, rfl⟩ := hx
    split at h
    · rename_i es clock hrow
      cases hp : plainKey ku with
      | false => rw [hp] at h; simp at h
      | true =>
        rw [hp] at h
        simp only [Bool.not_true, cond_false] at h
        obtain ⟨r, hr, h⟩ := Rs.bind_ok h
        obtain ⟨fs, hb, hents⟩ := hM.rows id _ L hrow hE
        obtain ⟨r', hnow, hmatch⟩ := findKeyS_ok hC hku hk hents hr
        have hfind := findKey_run (P := C.P) (CxOk.und_ok hC hku) hnow w
        have hplain := keyPlain hC hku (by cases ku <;> first | rfl | (simp [plainKey] at hp; done)) vk false 9999 w
        simp only [Nat.reduceAdd] at hplain
        have hund := CxOk.run_und hC hu w
        have hget : (getObj L.blk).run C.P w = .ok (.map ⟨fs⟩ clock) w := by simp [getObj, Sem.run, hb]
        have hblk : ∀ o, ({ w with heap := w.heap.setIfInBounds L.blk o } : World).heap[L.blk]? = some o := fun o => by
          have : L.blk < w.heap.size := (Array.getElem?_eq_some_iff.1 hb).1
          simp [this]
        cases r with
        | none =>
          cases r' with
          | some _ => exact hmatch.elim
          | none =>
            simp only [Rs.ok.injEq] at h; subst h
            refine ⟨_, ?_, hM.write hrow rfl hE (beside_set w L.blk (.map ⟨fs ++ [{ key := vk, val := vv, born := clock }]⟩ (clock + 1))) ⟨_, hblk _, REnts.append hents hk hv rfl⟩, rfl⟩
            simp only [Instr.mapUpdate, Sem.run_bind, hund, Result.andThen_ok, hget, hplain, hfind]
            have hpush : ∀ x : MapEntry, (⟨fs⟩ : Array MapEntry).push x = ⟨fs ++ [x]⟩ := fun x => Array.toList_inj.1 (by simp)
            rw [run_setObj_map _ hb, hpush]
        | some q =>
          cases r' with
          | none => exact hmatch.elim
          | some q' =>
            obtain ⟨j, y⟩ := q
            obtain ⟨j', v'⟩ := q'
            obtain ⟨hj, _, _, _⟩ := hmatch
            subst hj
            simp only [Rs.ok.injEq] at h; subst h
            obtain ⟨f, _, hf, hs⟩ := findNow_at hnow
            obtain ⟨hkey, hbits⟩ := sameNow_eq hs
            simp only [Nat.sub_zero] at hf
            have hfa : (⟨fs⟩ : Array MapEntry)[j]? = some f := by simpa using hf
            have hstays : (Instr.keyThatStays f.key vk).run C.P w = .ok vk w := by
              unfold Instr.keyThatStays
              rw [hkey, hbits]; rfl
            refine ⟨_, ?_, hM.write hrow rfl hE (beside_set w L.blk (.map ⟨fs.modify j fun e => { e with key := vk, val := vv }⟩ clock)) ⟨_, hblk _, REnts.setVal hv hents hf hkey⟩, rfl⟩
            simp only [Instr.mapUpdate, Sem.run_bind, hund, Result.andThen_ok, hget, hplain, hfind, hfa, Option.map_some, Option.getD_some, hstays]
            rw [run_setObj_map _ hb]
            congr 5
            apply Array.toList_inj.1
            simp
    · simp at h
  · simp at h

theorem Left.same (hM : RM C.P ρ w0 E m w) {K : Env → Prop} (h : K E) : Left C ρ w0 E m m w K := ⟨E, fun _ _ => rfl, Env.le_refl E, hM, Nat.le_refl _, h⟩
theorem Left.turned {m' : Mem} {w' : World} (hM : RM C.P ρ w0 E m' w') (hn : m'.nx = m.nx) {K : Env → Prop} (h : K E) : Left C ρ w0 E m m' w' K := ⟨E, fun _ _ => rfl, Env.le_refl E, hM, by omega, h⟩

theorem Left.ofRow (hC : CxOk C ρ w0) (hM : RM C.P ρ w0 E m w) {e : TypeId} {l : List SV} {vs : List Value} {f : Nat → SV} {so : SO} {g : Nat → SV} (hl : Rs' E ρ l vs) (h : objRow e l f = .ok (so, g)) {K : Env → Prop} (hK : ∀ E' : Env, E' m.nx = some ⟨w.heap.size, 0, vs.length, C.P.cellsOf e⟩ → K E') :
    Left C ρ w0 E m (m.new so).2 (w.alloc (.cells ⟨vs⟩ e)) K := by
  obtain ⟨rfl, hM', _⟩ := objRow_ok hC hM hl h
  exact ⟨_, Env.put_agree _ _, hM.put_le _, hM', Nat.le_succ _, hK _ (Env.put_same _ _)⟩

theorem makeSliceS_ok (hC : CxOk C ρ w0) (hM : RM C.P ρ w0 E m w) {t : TypeId} {l c : SV} {vl vc : Value} {r : OR} (hl : R E ρ l vl) (hc : R E ρ c vc) (h : makeSliceS C m t l c = .ok r) :
    ∃ v m' v' w', r = .val v m' ∧ (Instr.makeSlice t vl vc).run C.P w = .ok v' w' ∧ Left C ρ w0 E m m' w' fun E' => R E' ρ v v' := by
  unfold makeSliceS at h
  obtain ⟨a, ha, h⟩ := Rs.bind_ok h
  obtain ⟨b, hb, h⟩ := Rs.bind_ok h
  obtain ⟨u, hu, h⟩ := Rs.bind_ok h
  obtain ⟨ka, rfl⟩ := asNat_ok ha hl
  obtain ⟨kb, rfl⟩ := asNat_ok hb hc
  split at h
  · rename_i e
    obtain ⟨z, hz, h⟩ := Rs.bind_ok h
    obtain ⟨i, hi, h⟩ := Rs.bind_ok h
    obtain ⟨hc, h⟩ := cond_ok h
    simp only [beq_eq, blt_eq, ble_eq, Bool.and_eq_true, decide_eq_true_eq] at hc
    obtain ⟨⟨⟨⟨⟨hab, hby⟩, h63⟩, hna⟩, hzl⟩, hz0⟩ := hc
    have hby : b * i.bytes ≤ 281474976710656 := hby
    have hii := CxOk.info_ok hC hi
    obtain ⟨it, zv, hit, hzv, hzR⟩ := CxOk.zero_ok (E := E) hC hz
    rw [hii] at hit; cases hit
    obtain ⟨hzc, hzs⟩ := R.cells' hzR hzl (notAny_ne hna) hC.one
    obtain ⟨⟨o, f⟩, ho, h⟩ := Rs.bind_ok h
    simp only [Rs.ok.injEq] at h; subst h
    have hrun := run_make (P := C.P) w t e i zv (CxOk.und_ok hC hu) hii hzv ka kb a b (by omega) (by omega) (by rw [Nat.mul_comm] at hby; omega) (by omega)
    simp only [Int.toNat_natCast] at hrun
    have hcells : madeCells zv.cells (b * i.size) = ⟨(List.replicate b zv.cells.toList).flatten⟩ := by
      rw [← hzs]; exact zero_cells zv.cells b
    rw [hcells] at hrun
    refine ⟨_, _, _, _, rfl, hrun, Left.ofRow hC hM (repeatL_ok hzc b) ho fun E' hE' => ?_⟩
    unfold objRow at ho
    obtain ⟨_, ho⟩ := cond_ok ho
    simp only [Rs.ok.injEq, Prod.mk.injEq] at ho
    obtain ⟨_, rfl⟩ := ho
    simp only [R]
    exact ⟨_, b, hE', rfl, rfl⟩
  · simp at h

theorem freeze_alloc (w : World) (c : Array Value) (e : TypeId) (n : Nat) : (w.alloc (.cells c e)).freeze ⟨w.heap.size, n, none⟩ 1 = w.alloc (.cells c e (n, n + 1)) := by
  unfold World.freeze World.alloc
  simp only [Nat.one_ne_zero, if_false]
  congr 1
  apply Array.ext
  · simp
  · intro i h1 h2
    simp only [Array.getElem_modify, Array.getElem_push]
    simp at h1
    by_cases hi : w.heap.size = i
    · subst hi; simp
    · have : i < w.heap.size := by omega
      rw [if_neg hi, dif_pos this, dif_pos this]

theorem toBytesS_ok (hC : CxOk C ρ w0) (hM : RM C.P ρ w0 E m w) {e : TypeId} {l n : Nat} {r : OR} (h : toBytesS C m e l n = .ok r) :
    C.P.underlying e = some (.int .u8) ∧ ∃ v m' v' w', r = .val v m' ∧ (Conv.stringToBytes e (mkStr l n)).run C.P w = .ok v' w' ∧ Left C ρ w0 E m m' w' fun E' => R E' ρ v v' := by
  unfold toBytesS at h
  obtain ⟨u, hu, h⟩ := Rs.bind_ok h
  obtain ⟨z, hz, h⟩ := Rs.bind_ok h
  split at h
  · refine ⟨CxOk.und_ok hC hu, ?_⟩
    obtain ⟨hz1, h7⟩ := cond_ok h
    rw [beq_eq, decide_eq_true_eq] at hz1
    subst hz1
    simp only [Rs.ok.injEq] at h7; subst h7
    have hce := CxOk.cellsOf_ok hC hz
    have hcells := strCells_ok (E := E) (ρ := ρ) l n [] [] Rs'.nil
    simp only [List.append_nil] at hcells
    let cap := (Question.appendCap l 0 e).cut (w.tape w.drawn (.appendCap l 0 e))
    have hcap : l ≤ cap := by simp [cap, Question.cut]
    let vs := (bytesOf l n).map fun b => Value.int .u8 b.toNat
    let rest := List.replicate (cap - l) (Value.int .u8 0)
    have harr : (mkStr l n).data.map (fun b => Value.int .u8 (b.toNat : Int)) ++ Array.replicate (cap - l) (.int .u8 0) = ⟨vs ++ rest⟩ := Array.toList_inj.1 (by simp [vs, rest, data_mkStr])
    let w1 : World := { w with drawn := w.drawn + 1 }
    have hM1 : RM C.P ρ w0 E m w1 := hM.drawn _
    have hlen : vs.length + rest.length = cap := by simp [vs, rest, length_bytesOf]; omega
    let L : Loc := ⟨w.heap.size, 0, vs.length + rest.length, C.P.cellsOf e⟩
    refine ⟨_, _, .slice (some ⟨w.heap.size, 0, none⟩) l cap, w1.alloc (.cells ⟨vs ++ rest⟩ e (cap, cap + 1)), rfl, ?_, E.put m.nx L, Env.put_agree _ _, hM.put_le _, ?_, Nat.le_succ _, ?_⟩
    · simp only [Conv.stringToBytes, size_mkStr, Sem.run_bind, run_choose, Question.forced, Bool.false_eq_true, if_false, Result.andThen_ok]
      show Result.andThen ((newRow e ((mkStr l n).data.map (fun b => Value.int .u8 (b.toNat : Int)) ++ Array.replicate (cap - l) (.int .u8 0))).run C.P w1) _ = _
      rw [harr, run_newRow]
      simp only [Result.andThen_ok, markStringish, Sem.run_bind, run_shape]
      have hsh : (w1.alloc (.cells ⟨vs ++ rest⟩ e)).shape? w1.heap.size = some (e, cap) := by
        rw [shape_of_row (heap_alloc_new w1 _)]; simp [hlen]
      simp only [hsh, run_freeze, Result.andThen_ok, Sem.run_pure]
      rw [freeze_alloc]
    · have hl' : Rs' (E.put m.nx L) ρ (strCells l n []) vs := hcells.mono (hM.put_le _)
      refine hM1.alloc _ _ L rfl ?_
      exact RO.new (P := C.P) hl' (by simp [vs, Value.oneCell']) e rest false (fun h => by cases h) .behind (cap, cap + 1) _ _ rfl _ (heap_alloc_new _ _) (.inr (by rw [hlen]; exact Nat.le_refl _))
    · simp only [R]
      exact ⟨L, cap, Env.put_same _ _, rfl, Nat.zero_le _, by show cap * C.P.cellsOf e = vs.length + rest.length - 0; rw [hce, hlen]; omega⟩
  · simp at h

theorem liesAt_byte {P : Program} {e : TypeId} (hc : P.cellsOf e = 1) (count off n : Nat) (hn : off + n ≤ count) : liesAt P P.depth e count off e n = true := by
  have hd : P.depth = (2 * (P.types.size + Made.depth) + 1) + 1 := rfl
  rw [hd]
  simp only [liesAt, Bool.or_eq_true]
  left
  rw [hd]
  simp [rowAt, hc, hn, sameLayout, Nat.mod_one]

theorem freeze_row (w : World) (b : Nat) (c : Array Value) (e : TypeId) (fr : Nat × Nat) (a n : Nat) (hb : w.heap[b]? = some (.cells c e fr)) (hn : n ≠ 0) :
    (w.freeze ⟨b, a, none⟩ n).heap[b]? = some (.cells c e (if fr.1 == fr.2 then (a, a + n) else (min fr.1 a, max fr.2 (a + n)))) := by
  unfold World.freeze
  rw [if_neg hn]
  simp only [Array.getElem?_modify, if_true, hb, Option.map_some]

theorem beside_freeze (w : World) (b a n : Nat) : Beside b w (w.freeze ⟨b, a, none⟩ n) := by
  unfold World.freeze
  split
  · exact ⟨rfl, rfl, rfl, rfl, fun _ _ => rfl⟩
  · exact ⟨rfl, rfl, rfl, by simp, fun k hk => by simp only [Array.getElem?_modify]; rw [if_neg (fun e => hk e.symm)]⟩

theorem freezeFz_ok {fz : Fz} {fr : Nat × Nat} {L : Loc} {size k n : Nat} (h : FzOk fz fr L size) : FzOk (freezeFz fz (k + n)) (if fr.1 == fr.2 then (L.off + k, L.off + k + n) else (min fr.1 (L.off + k), max fr.2 (L.off + k + n))) L size := by
  cases fz with
  | no =>
    simp only [FzOk] at h
    simp only [freezeFz, FzOk, h, beq_self_eq_true, if_true]
    omega
  | below j =>
    simp only [FzOk] at h
    simp only [freezeFz, FzOk, cond_eq, ble_eq, decide_eq_true_eq]
    by_cases hf : fr.1 = fr.2
    · simp only [hf, beq_self_eq_true, if_true]
      split <;> omega
    · have : (fr.1 == fr.2) = false := by simpa using hf
      simp only [this, Bool.false_eq_true, if_false]
      split <;> omega
  | behind => trivial
  | some => trivial

theorem run_unsafeString_at {P : Program} (w : World) (T : Array TypeId) (ty pt e : TypeId) (kk : IntKind) (hT : T[0]? = some pt) (hp : P.underlying pt = some (.pointer e)) (hc : P.cellsOf e = 1) (g off cells n : Nat) (hsh : w.shape? g = some (e, cells)) (s : ByteArray) (h0 : n ≠ 0) (hn : off + n ≤ cells) (h63 : n ≤ 9223372036854775807)
    (hl : (loadBytes ⟨g, off, none⟩ .empty n).run P w = .ok s w) :
    (Builtin.unsafeString_ T ty #[.pointer (some ⟨g, off, none⟩), .int kk (n : Int)]).run P w = .ok (.string s) (w.freeze ⟨g, off, none⟩ n) := by
  have hlies := liesAt_byte (P := P) hc (cells / P.cellsOf e) off n (by rw [hc]; simpa using hn)
  have h63' : ¬ (9223372036854775807 : Int) < (n : Int) := by omega
  have hdef : Builtin.unsafeString_ T ty #[.pointer (some ⟨g, off, none⟩), .int kk (n : Int)] =
      (do
        let n ← asInt (.int kk (n : Int))
        let some pt := T[0]? | stuck "unsafe.String: no argument types"
        if n < 0 then runtimePanic (.error "unsafe.String: len out of range")
        if n > IntKind.i64.max then unsupported (.unsafePointer "String: a length above the largest int")
        if n = 0 then pure (.string .empty)
        else if ← variablesAt ⟨g, off, none⟩ (← elemOf pt) n.toNat then do
          let s ← loadBytes ⟨g, off, none⟩ .empty n.toNat
          freeze ⟨g, off, none⟩ n.toNat
          pure (.string s)
        else unsupported (.unsafePointer "String: not so many bytes at ptr")) := rfl
  rw [hdef]
  have hmax : IntKind.i64.max = 9223372036854775807 := rfl
  have hneg : ¬ (n : Int) < 0 := by omega
  simp [asInt, asIntOf, hT, hmax, h63', hneg, h0, variablesAt, hsh, elemOf, run_underlying hp, hlies, hl]

theorem run_unsafeString_0 {P : Program} (w : World) (T : Array TypeId) (ty pt : TypeId) (kk : IntKind) (hT : T[0]? = some pt) (a : Option Addr) : (Builtin.unsafeString_ T ty #[.pointer a, .int kk 0]).run P w = .ok (.string .empty) w := by
  have hmax : IntKind.i64.max = 9223372036854775807 := rfl
  cases a with
  | none =>
    have hdef : Builtin.unsafeString_ T ty #[.pointer none, .int kk 0] =
      (do
        let n ← asInt (.int kk 0)
        let some pt := T[0]? | stuck "unsafe.String: no argument types"
        if n < 0 then runtimePanic (.error "unsafe.String: len out of range")
        if n > IntKind.i64.max then unsupported (.unsafePointer "String: a length above the largest int")
        if n = 0 then pure (.string .empty)
        else runtimePanic (.error "unsafe.String: ptr is nil and len is not zero")) := rfl
    rw [hdef]
    simp [asInt, asIntOf, hmax, hT]
  | some a =>
    have hdef : Builtin.unsafeString_ T ty #[.pointer (some a), .int kk 0] =
      (do
        let n ← asInt (.int kk 0)
        let some pt := T[0]? | stuck "unsafe.String: no argument types"
        if n < 0 then runtimePanic (.error "unsafe.String: len out of range")
        if n > IntKind.i64.max then unsupported (.unsafePointer "String: a length above the largest int")
        if n = 0 then pure (.string .empty)
        else if ← variablesAt a (← elemOf pt) n.toNat then do
          let s ← loadBytes a .empty n.toNat
          freeze a n.toNat
          pure (.string s)
        else unsupported (.unsafePointer "String: not so many bytes at ptr")) := rfl
    rw [hdef]
    simp [asInt, asIntOf, hmax, hT]

theorem empty_mkStr : ByteArray.empty = mkStr 0 0 := by
  apply ByteArray.ext
  apply Array.toList_inj.1
  rw [data_mkStr]
  rfl

theorem run_loadInts {P : Program} (w : World) (b : Nat) : ∀ (ns : List Int) (off : Nat) (acc : ByteArray), (∀ (i : Nat) v, (ns.map (Value.int .u8))[i]? = some v → w.cell? ⟨b, off + i, none⟩ = some v) →
    (loadBytes ⟨b, off, none⟩ acc ns.length).run P w = .ok ⟨acc.data ++ (ns.map fun b => UInt8.ofNat b.toNat).toArray⟩ w
  | [], off, acc, _ => by simp [loadBytes]
  | x :: ns, off, acc, h => by
    have h0 := h 0 (.int .u8 x) (by simp)
    simp only [Nat.add_zero] at h0
    have ih := run_loadInts (P := P) w b ns (off + 1) (acc.push x.toNat.toUInt8) (fun i v hv => by
      have := h (i + 1) v (by simpa using hv)
      rw [show off + 1 + i = off + (i + 1) from by omega]; exact this)
    simp only [List.length_cons, loadBytes, Sem.run_bind, run_load, h0, Result.andThen, addr_add]
    rw [ih]
    congr 1
    apply ByteArray.ext
    simp [ByteArray.push]

theorem mayWrite_row {L : Loc} {e n : Nat} {cells : Tr SV} {x : Bool} {fz fz' : Fz} (hro : RO C.P E ρ L w (.row e n cells x fz)) {w' : World} (h : ∀ c fr, w.heap[L.blk]? = some (.cells c e fr) → FzOk fz fr L c.size → ∃ fr', w'.heap[L.blk]? = some (.cells c e fr') ∧ FzOk fz' fr' L c.size) :
    RO C.P E ρ L w' (.row e n cells x fz') := by
  obtain ⟨c, fr, h1, h2, h3, h4, h5, h6, h7⟩ := hro
  obtain ⟨fr', a, b⟩ := h c fr h1 h6
  exact ⟨c, fr', a, h2, h3, h4, h5, b, h7⟩

theorem unsafeStringS_ok (hC : CxOk C ρ w0) (hM : RM C.P ρ w0 E m w) {T : Array TypeId} {ty : TypeId} {vs : List SV} {us : List Value} {r : OR} (hr : Rs' E ρ vs us) (h : unsafeStringS C m T.toList vs = .ok r) :
    ∃ v m' v' w', r = .val v m' ∧ (Builtin.unsafeString_ T ty ⟨us⟩).run C.P w = .ok v' w' ∧ Left C ρ w0 E m m' w' fun E' => R E' ρ v v' := by
  unfold unsafeStringS at h
  split at h
  · rename_i pt it id off kk n hT
    have hT0 : T[0]? = some pt := by rw [← Array.getElem?_toList, hT]; rfl
    simp only [Rs', R] at hr
    obtain ⟨_, _, ⟨L, hE, rfl⟩, ⟨_, _, rfl, rfl, rfl⟩, rfl⟩ := hr
    obtain ⟨pu, hpu, h⟩ := Rs.bind_ok h
    split at h
    · rename_i e' e k cells x fz hrow
      obtain ⟨z, hz, h⟩ := Rs.bind_ok h
      obtain ⟨hc, h7⟩ := cond_ok h
      clear h
      simp only [beq_eq, ble_eq, Bool.and_eq_true, decide_eq_true_eq] at hc
      obtain ⟨⟨rfl, rfl⟩, h63⟩ := hc
      rw [cond_eq] at h7
      split at h7
      · rename_i hn
        rw [beq_eq, decide_eq_true_eq] at hn
        subst hn
        simp only [Rs.ok.injEq] at h7
        exact ⟨_, _, _, _, h7.symm, run_unsafeString_0 w T ty pt kk hT0 _, Left.same hM (by simp only [R]; exact ⟨by simp, by rw [empty_mkStr]⟩)⟩
      · rename_i hn
        rw [beq_eq, decide_eq_true_eq] at hn
        obtain ⟨l, hl, h7⟩ := Rs.bind_ok h7
        obtain ⟨v, hv, h7⟩ := Rs.bind_ok h7
        simp only [Rs.ok.injEq] at h7
        obtain ⟨xs, hxs, hlen, _, hcell, _⟩ := hM.cells hl hE
        obtain ⟨ns, hns, hvn⟩ := bytesNum_ok hv hxs
        have hro := hM.row hrow hE
        obtain ⟨c, fr, hb, hcap, hnk, _⟩ := hro
        have hsh := shape_of_row hb
        have hin : L.off + off + n ≤ c.size := by
          unfold Mem.cells at hl
          rw [hrow] at hl
          obtain ⟨hk, _⟩ := cond_ok hl
          rw [ble_eq, decide_eq_true_eq] at hk
          have hk : off + n ≤ k := hk
          omega
        have hnl : ns.length = n := by rw [← hlen, hns]; simp
        have hload := run_loadInts (P := C.P) w L.blk ns (L.off + off) .empty (fun i v hv => hcell i v (by rw [hns]; exact hv))
        rw [hnl] at hload
        have hstr : (⟨ByteArray.empty.data ++ (ns.map fun b => UInt8.ofNat b.toNat).toArray⟩ : ByteArray) = mkStr n v := by
          apply ByteArray.ext
          apply Array.toList_inj.1
          rw [data_mkStr, hvn]
          have := bytesOf_numOf (ns.map fun b => UInt8.ofNat b.toNat)
          rw [List.length_map, hnl] at this
          rw [this]
          simp
        rw [hstr] at hload
        have hrun := run_unsafeString_at (P := C.P) w T ty pt e kk hT0 (CxOk.und_ok hC hpu) (CxOk.cellsOf_ok hC hz) L.blk (L.off + off) c.size n hsh (mkStr n v) hn hin h63 hload
        have hvlt : v < 256 ^ n := by
          have := numOf_lt (ns.map fun b => UInt8.ofNat b.toNat) 0
          rw [← hvn, List.length_map, hnl] at this
          simpa using this
        refine ⟨_, _, _, _, h7.symm, hrun, Left.turned (hM.write hrow rfl hE (beside_freeze w L.blk _ n) (mayWrite_row (hM.row hrow hE) fun c' fr' hb' hfz => ⟨_, freeze_row w L.blk c' e fr' _ n hb' hn, freezeFz_ok hfz⟩)) rfl ?_⟩
        simp only [R]
        exact ⟨hvlt, trivial⟩
    · simp at h
  · rename_i pt it kk hT
    have hT0 : T[0]? = some pt := by rw [← Array.getElem?_toList, hT]; rfl
    simp only [Rs', R] at hr
    obtain ⟨_, _, rfl, ⟨_, _, rfl, rfl, rfl⟩, rfl⟩ := hr
    simp only [Rs.ok.injEq] at h
    exact ⟨_, _, _, _, h.symm, run_unsafeString_0 w T ty pt kk hT0 _, Left.same hM (by simp only [R]; exact ⟨by simp, by rw [empty_mkStr]⟩)⟩
  · simp at h

end
end Go.Eng
