import Derived.Test.YtjnejkmcmmablaaGreatDoorEngMem
/-
  Operations that change memory.
-/
namespace Go.Eng
open Go.RowKit

section
variable {C : Cx} {ρ : Nat → Value} {w0 : World} {E : Env} {m : Mem} {w : World} {s : FS} {ev : Operand → Value}

/-- What an operation leaves: a memory, and an environment that says no less. -/
def Left (C : Cx) (ρ : Nat → Value) (w0 : World) (E : Env) (m m' : Mem) (w' : World) (K : Env → Prop) : Prop :=
  ∃ E', Agree m.nx E E' ∧ E.le E' ∧ RM C.P ρ w0 E' m' w' ∧ m.nx ≤ m'.nx ∧ K E'

theorem noAggO_ok (hC : CxOk C ρ w0) : ∀ {l : List SV} {vs : List Value}, noAggO l = true → Rs' E ρ l vs → ∀ v, v ∈ vs → v.oneCell' = true
  | [], vs, _, h => by simp only [Rs'] at h; subst h; intro v hv; simp at hv
  | x :: xs, vs, hn, h => by
    simp only [Rs'] at h
    obtain ⟨u, us, hu, hus, rfl⟩ := h
    simp only [noAggO, Bool.and_eq_true] at hn
    intro v hv
    rcases List.mem_cons.1 hv with rfl | hv
    · cases x with
      | op i => simp only [R] at hu; subst hu; exact hC.one i
      | agg _ => simp at hn
      | tup _ => simp at hn
      | any => simp at hn
      | _ =>
        simp only [R] at hu
        first
          | (subst hu; rfl)
          | (obtain ⟨_, rfl⟩ := hu; rfl)
          | (obtain ⟨_, _, rfl⟩ := hu; rfl)
          | (obtain ⟨_, _, _, rfl⟩ := hu; rfl)
          | (obtain ⟨_, _, _, rfl, _⟩ := hu; rfl)
          | (obtain ⟨_, _, _, _, rfl⟩ := hu; rfl)
    · exact noAggO_ok hC hn.2 hus v hv

theorem rowOf_get (l : List SV) (i : Nat) : (rowOf l).get i = l[i]? := by
  unfold rowOf
  rw [Tr.get_ofListFrom]
  by_cases h : i < l.length
  · rw [if_pos (by omega)]; simp
  · rw [if_neg (by omega)]
    simp only [Tr.get]
    rw [List.getElem?_eq_none (by omega)]

/-- A row that has just been made. -/
theorem RO.new {P : Program} {l : List SV} {vs : List Value} (h : Rs' E ρ l vs) (h1 : ∀ v, v ∈ vs → v.oneCell' = true) (e : TypeId) (rest : List Value) (ex : Bool) (hex : ex = true → rest = []) (fz : Fz) (fr : Nat × Nat) (b n : Nat) (hn : n = lenOf l 0)
    (w : World) (hb : w.heap[b]? = some (.cells ⟨vs ++ rest⟩ e fr)) (hfz : FzOk fz fr ⟨b, 0, vs.length + rest.length, P.cellsOf e⟩ (vs.length + rest.length)) :
    RO P E ρ ⟨b, 0, vs.length + rest.length, P.cellsOf e⟩ w (.row e n (rowOf l) ex fz) := by
  have hl := h.length
  rw [lenOf_eq, Nat.zero_add] at hn
  refine ⟨_, fr, hb, by simp, by simp only; omega, fun he => ?_, fun i hi => ?_, ?_, rfl⟩
  · rw [hex he]; simp; omega
  · have hx : l[i]? = some l[i] := List.getElem?_eq_getElem (by omega)
    obtain ⟨v, hv, hr⟩ := h.get i _ hx
    refine ⟨l[i], v, by rw [rowOf_get, hx], ?_, hr, h1 v (List.mem_of_getElem? hv)⟩
    simp only [Nat.zero_add]
    rw [← Array.getElem?_toList]
    rw [List.getElem?_append_left (by omega)]; exact hv
  · simpa using hfz

theorem objRow_ok (hC : CxOk C ρ w0) (hM : RM C.P ρ w0 E m w) {e : TypeId} {l : List SV} {vs : List Value} {f : Nat → SV} {so : SO} {g : Nat → SV} (hl : Rs' E ρ l vs) (h : objRow e l f = .ok (so, g)) :
    g = f ∧ RM C.P ρ w0 (E.put m.nx ⟨w.heap.size, 0, vs.length, C.P.cellsOf e⟩) (m.new so).2 (w.alloc (.cells ⟨vs⟩ e)) ∧ (∀ m' : Mem, m'.hp.get m.nx = some so → True) := by
  unfold objRow at h
  obtain ⟨hn, h⟩ := cond_ok h
  simp only [Rs.ok.injEq, Prod.mk.injEq] at h
  obtain ⟨rfl, rfl⟩ := h
  refine ⟨rfl, ?_, fun _ _ => trivial⟩
  have hl' : Rs' (E.put m.nx ⟨w.heap.size, 0, vs.length, C.P.cellsOf e⟩) ρ l vs := hl.mono (hM.put_le _)
  have h1 := noAggO_ok hC hn hl
  have := RO.new (P := C.P) hl' h1 e [] true (fun _ => rfl) .no (0, 0) w.heap.size (lenOf l 0) rfl (w.alloc (.cells ⟨vs⟩ e)) (by rw [List.append_nil]; exact heap_alloc_new w _) rfl
  exact hM.alloc _ _ _ rfl this

theorem repeatL_ok {l : List SV} {vs : List Value} (h : Rs' E ρ l vs) : ∀ n, Rs' E ρ (repeatL l n) ((List.replicate n vs).flatten)
  | 0 => Rs'.nil
  | n + 1 => by
    rw [List.replicate_succ, List.flatten_cons]
    exact Rs'.append h (repeatL_ok h n)

/-- The cells of many equal values, as the model lays them. -/
theorem zero_cells (zs : Array Value) (n : Nat) : (Array.range (n * zs.size)).map (zs[· % zs.size]!) = ⟨(List.replicate n zs.toList).flatten⟩ := by
  apply Array.toList_inj.1
  rw [Array.toList_map, Array.toList_range]
  induction n with
  | zero => simp
  | succ n ih =>
    simp only at ih ⊢
    rw [List.replicate_succ', List.flatten_append, ← ih]
    rw [show (n + 1) * zs.size = n * zs.size + zs.size from by rw [Nat.add_mul, Nat.one_mul], List.range_add, List.map_append]
    congr 1
    rw [List.map_map]
    apply List.ext_getElem
    · simp
    · intro i h1 h2
      simp at h1
      simp only [List.getElem_map, List.getElem_range, Function.comp]
      have : (n * zs.size + i) % zs.size = i := by rw [Nat.mul_comm, Nat.mul_add_mod, Nat.mod_eq_of_lt h1]
      rw [this]
      simp [getElem!_pos, h1]

theorem run_newRow (P : Program) (e : TypeId) (c : Array Value) (w : World) : (newRow e c).run P w = .ok ⟨w.heap.size, 0, none⟩ (w.alloc (.cells c e)) := rfl

theorem run_buildSlice {P : Program} {t e : TypeId} {z len : Nat} {zval : Value} {ps : Array (Nat × Value)} {arr : Array Value} (hund : (underlying t).run P w = .ok (.slice e) w) (hsz : (sizeOf e).run P w = .ok z w)
    (hzr : (zeroValue e).run P w = .ok zval w) (hzs : zval.cells.size = z) (hmax : ¬ (2 ^ 24 < len * z)) (hz0 : 0 < z) (hf : Instr.fill (fun i => some (i * z, z)) ⟨(List.replicate len zval.cells.toList).flatten⟩ ps.toList = some arr) :
    (Instr.buildSlice t len ps).run P w = .ok (.slice (some ⟨w.heap.size, 0, none⟩) len len) (w.alloc (.cells arr e)) := by
  simp only [Instr.buildSlice, Sem.run_bind, hund, Result.andThen_ok, hsz]
  rw [if_neg hmax]
  by_cases hl : len * z = 0
  · have hlen : len = 0 := by
      rcases Nat.mul_eq_zero.1 hl with h | h
      · exact h
      · omega
    subst hlen
    rw [if_pos hl]
    simp only [Nat.zero_mul, pure_bind]
    simp only [List.replicate_zero, List.flatten_nil] at hf
    have e0 : (Array.range 0).map ((#[] : Array Value)[· % (#[] : Array Value).size]!) = ⟨[]⟩ := by simp
    rw [e0, hf]
    rfl
  · rw [if_neg hl]
    simp only [Sem.run_bind, hzr, Result.andThen_ok, Sem.run_pure]
    have := zero_cells zval.cells len
    rw [hzs] at this
    rw [hzs, this, hf]
    rfl

theorem obj_ok (hC : CxOk C ρ w0) (_hM : RM C.P ρ w0 E m w) {o : Oper} {so : SO} {f : Nat → SV} (hev : Ops E ρ s ev o.op) (h : objS C s o.op = .ok (so, f)) :
    ∃ L c e, L.blk = w.heap.size ∧ (∃ v', (execOp ev o).run C.P w = .ok (.value v') (w.alloc (.cells c e)) ∧ R (E.put m.nx L) ρ (f m.nx) v' ∧ (∀ (E' : Env) id, E' id = some L → R E' ρ (f id) v')) ∧
      (∀ (E' : Env), E.le E' → RO C.P E' ρ L (w.alloc (.cells c e)) so) := by
  obtain ⟨dst, op, ty, pos, after, guard⟩ := o
  simp only at hev h
  have fin : ∀ (S : Sem Value), execOp ev ⟨dst, op, ty, pos, after, guard⟩ = (do pure (.value (← S))) → ∀ (l : List SV) (vs : List Value) (e : TypeId) (g : Nat → SV) (v' : Value), Rs' E ρ l vs → objRow e l g = .ok (so, f) →
      S.run C.P w = .ok v' (w.alloc (.cells ⟨vs⟩ e)) → (∀ (E' : Env) id, E' id = some ⟨w.heap.size, 0, vs.length, C.P.cellsOf e⟩ → R E' ρ (g id) v') →
      ∃ L c e, L.blk = w.heap.size ∧ (∃ v', (execOp ev ⟨dst, op, ty, pos, after, guard⟩).run C.P w = .ok (.value v') (w.alloc (.cells c e)) ∧ R (E.put m.nx L) ρ (f m.nx) v' ∧ (∀ (E' : Env) id, E' id = some L → R E' ρ (f id) v')) ∧
      (∀ (E' : Env), E.le E' → RO C.P E' ρ L (w.alloc (.cells c e)) so) := by
    intro S hS l vs e g v' hl hr hrun hR
    unfold objRow at hr
    obtain ⟨hn, hr⟩ := cond_ok hr
    simp only [Rs.ok.injEq, Prod.mk.injEq] at hr
    obtain ⟨rfl, rfl⟩ := hr
    refine ⟨⟨w.heap.size, 0, vs.length, C.P.cellsOf e⟩, ⟨vs⟩, e, rfl, ⟨v', by rw [hS, Sem.run_bind, hrun]; rfl, hR _ _ (Env.put_same _ _), hR⟩, fun E' hE' => ?_⟩
    have h1 := noAggO_ok hC hn hl
    exact RO.new (P := C.P) (hl.mono hE') h1 e [] true (fun _ => rfl) .no (0, 0) w.heap.size (lenOf l 0) rfl (w.alloc (.cells ⟨vs⟩ e)) (by rw [List.append_nil]; exact heap_alloc_new w _) rfl
  have ptr : ∀ (n : Nat) (e : TypeId) (E' : Env) id, E' id = some ⟨w.heap.size, 0, n, C.P.cellsOf e⟩ → R E' ρ (.ptr id 0) (.pointer (some ⟨w.heap.size, 0, none⟩)) := by
    intro n e E' id hE'
    simp only [R]
    exact ⟨_, hE', rfl⟩
  cases op
  case alloc t =>
    simp only [objS] at h
    obtain ⟨z, hz, h⟩ := Rs.bind_ok h
    obtain ⟨zv, hzr, hzR⟩ := CxOk.run_zero (E := E) hC hz w
    have hna : z = .any → False := by
      rintro rfl
      unfold objRow at h
      obtain ⟨hn, _⟩ := cond_ok h
      simp [SV.cells, noAggO] at hn
    have hcells := (R.cells' hzR rfl hna hC.one).1
    refine fin _ rfl z.cells zv.cells.toList t _ _ hcells h ?_ (ptr _ _)
    simp only [Instr.alloc, Sem.run_bind, hzr, Result.andThen_ok, newVar, run_newRow]
    rfl
  case box t x =>
    simp only [objS] at h
    obtain ⟨v, hv, h⟩ := Rs.bind_ok h
    obtain ⟨hna, h⟩ := cond_ok h
    have hr := hev x (by simp [Op.operands]) _ hv
    have hcells := (R.cells' hr rfl (notAny_ne hna) hC.one).1
    refine fin _ rfl v.cells (ev x).cells.toList t _ _ hcells h ?_ (ptr _ _)
    simp only [Instr.box, Sem.run_bind, newVar, run_newRow, Result.andThen_ok]
    rfl
  case buildSlice t len ps =>
    simp only [objS] at h
    obtain ⟨pv, hp, h⟩ := Rs.bind_ok h
    obtain ⟨u, hu, h⟩ := Rs.bind_ok h
    split at h
    · rename_i e
      obtain ⟨z, hz, h⟩ := Rs.bind_ok h
      obtain ⟨zv, hzv, h⟩ := Rs.bind_ok h
      obtain ⟨hc, h⟩ := cond_ok h
      simp only [beq_eq, blt_eq, ble_eq, Bool.and_eq_true, decide_eq_true_eq] at hc
      obtain ⟨⟨⟨hna, hzl⟩, hz0⟩, hmax⟩ := hc
      obtain ⟨cells, hcells, h⟩ := Rs.bind_ok h
      obtain ⟨zval, hzr, hzR⟩ := CxOk.run_zero (E := E) hC hzv w
      obtain ⟨hzc, hzs⟩ := R.cells' hzR hzl (notAny_ne hna) hC.one
      have hps := evParts_ok (E := E) (ρ := ρ) (ev := ev) (fun x hx => hev x.2 (by simp [Op.operands]; exact ⟨x.1, by simpa using hx⟩)) hp
      have hrep := repeatL_ok hzc len
      have hsz := CxOk.run_size hC hz w
      have hund := CxOk.run_und hC hu w
      have hzeros := zero_cells zval.cells len
      obtain ⟨arr', h1, h2⟩ := fillS_ok hC (place' := fun i => some (i * z, z)) (fun i p hp => hp) (arr := ⟨(List.replicate len zval.cells.toList).flatten⟩) hrep hps hcells
      refine fin _ rfl cells arr'.toList e _ (.slice (some ⟨w.heap.size, 0, none⟩) len len) h2 h ?_ ?_
      · have hmax' : ¬ (2 ^ 24 < len * z) := by have : Nat.mul len z = len * z := rfl; omega
        refine run_buildSlice hund hsz hzr hzs (by omega) hz0 ?_
        simpa using h1
      · intro E' id hE'
        simp only [R]
        exact ⟨_, len, hE', rfl, rfl⟩
    · simp at h
  all_goals simp [objS] at h

end
end Go.Eng
