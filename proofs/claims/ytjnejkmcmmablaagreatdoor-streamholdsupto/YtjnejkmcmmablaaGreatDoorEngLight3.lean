import Derived.Test.YtjnejkmcmmablaaGreatDoorEngLight2
/-
  The operations that change no memory: the theorem.
-/
namespace Go.Eng
open Go.RowKit

section
variable {C : Cx} {ρ : Nat → Value} {w0 : World} {E : Env} {m : Mem} {w : World} {s : FS} {ev : Operand → Value}

theorem notAny_ne {x : SV} (h : notAny x = true) : x = .any → False := by rintro rfl; simp [notAny] at h

theorem fillS_ok (hC : CxOk C ρ w0) {place place' : Nat → Option (Nat × Nat)} (hp : ∀ i p, place i = some p → place' i = some p) : ∀ {ps : List (Nat × SV)} {cs l : List SV} {arr : Array Value} {vs : List (Nat × Value)}, Rs' E ρ cs arr.toList → RPs E ρ ps vs →
    fillS place cs ps = .ok l → ∃ arr', Instr.fill place' arr vs = some arr' ∧ Rs' E ρ l arr'.toList
  | [], cs, l, arr, vs, hc, hr, h => by
    simp only [RPs] at hr; subst hr
    simp only [fillS, Rs.ok.injEq] at h; subst h
    exact ⟨arr, rfl, hc⟩
  | (i, x) :: ps, cs, l, arr, vs, hc, hr, h => by
    simp only [RPs] at hr
    obtain ⟨v, vs', hv, hvs, rfl⟩ := hr
    simp only [fillS] at h
    split at h
    · rename_i off z hpl
      obtain ⟨hcond, h7⟩ := cond_ok h
      simp only [beq_eq, ble_eq, Bool.and_eq_true, decide_eq_true_eq] at hcond
      obtain ⟨⟨hna, hz⟩, hle⟩ := hcond
      obtain ⟨hcells, hsz⟩ := R.cells' hv hz (notAny_ne hna) hC.one
      rw [lenOf_eq] at hz hle
      have hlen : x.cells.length = z := by omega
      have hcl := hc.length
      have hoff : off + x.cells.length ≤ cs.length := by
        have : Nat.add off z = off + z := rfl
        omega
      have hone := fill_one hc hcells off hoff
      obtain ⟨arr', h1, h2⟩ := fillS_ok hC hp (arr := v.cells.toList.toArray.zipIdx.foldl (fun cs (x : Value × Nat) => cs.setIfInBounds (off + x.2) x.1) arr) hone hvs h7
      refine ⟨arr', ?_, h2⟩
      rw [← h1]
      simp only [Instr.fill, hp i _ hpl]
      rw [if_neg]
      simp only [Array.length_toList] at hcl
      have : Nat.add off z = off + z := rfl
      simp [hsz]; omega
    · simp at h

theorem placesS_ok (hC : CxOk C ρ w0) : ∀ {fs : List Field} {pl : List (Nat × Nat)}, placesS C fs = .ok pl → fs.mapM (fun f => (C.P.info? f.type).map fun i => (f.offset, i.size)) = some pl
  | [], pl, h => by simp only [placesS, Rs.ok.injEq] at h; subst h; rfl
  | f :: fs, pl, h => by
    simp only [placesS] at h
    obtain ⟨z, hz, h⟩ := Rs.bind_ok h
    obtain ⟨l, hl, h⟩ := Rs.bind_ok h
    simp only [Rs.ok.injEq] at h; subst h
    obtain ⟨i, hi, hs⟩ := CxOk.size_ok hC hz
    simp [List.mapM_cons, hi, placesS_ok hC hl, hs]

theorem build_ok (hC : CxOk C ρ w0) {t : TypeId} {ps : List (Nat × SV)} {vs : Array (Nat × Value)} {z r : SV} {u : TypeDesc} (hps : RPs E ρ ps vs.toList) (hz : C.zero t = .ok z) (hna : notAny z = true) (hu : C.und t = .ok u)
    (h : buildS C z ps u = .ok r) (w : World) : ∃ v, (Instr.build t vs).run C.P w = .ok v w ∧ R E ρ r v := by
  obtain ⟨it, zv, hit, hzv, hzr⟩ := CxOk.zero_ok (E := E) hC hz
  have hund := CxOk.und_ok hC hu
  have hzc : Rs' E ρ z.cells zv.cells.toList := (R.cells' hzr rfl (notAny_ne hna) hC.one).1
  unfold buildS at h
  split at h
  · obtain ⟨pl, hpl, h⟩ := Rs.bind_ok h
    obtain ⟨l, hl, h⟩ := Rs.bind_ok h
    simp only [Rs.ok.injEq] at h; subst h
    have hpl' := placesS_ok hC hpl
    obtain ⟨arr', h1, h2⟩ := fillS_ok hC (place' := (pl.toArray[·]?)) (fun i p hp => by simpa using hp) hzc hps hl
    refine ⟨.agg arr', run_build w t vs arr' ?_, by simp only [R]; exact ⟨arr'.toList, h2, rfl⟩⟩
    simp only [Program.built, hit, hund, hzv, hpl']
    exact h1
  · obtain ⟨sz, hs, h⟩ := Rs.bind_ok h
    obtain ⟨l, hl, h⟩ := Rs.bind_ok h
    simp only [Rs.ok.injEq] at h; subst h
    obtain ⟨ie, hie, hsz⟩ := CxOk.size_ok hC hs
    obtain ⟨arr', h1, h2⟩ := fillS_ok hC (place' := fun i => some (i * ie.size, ie.size)) (fun i p hp => by rw [hsz]; exact hp) hzc hps hl
    refine ⟨.agg arr', run_build w t vs arr' ?_, by simp only [R]; exact ⟨arr'.toList, h2, rfl⟩⟩
    simp only [Program.built, hit, hund, hzv, hie]
    exact h1
  · simp at h

theorem lookup_ok (hC : CxOk C ρ w0) (hM : RM C.P ρ w0 E m w) {t kt et : TypeId} {ku : TypeDesc} {mv k r : SV} {vm vk : Value} {ok : Bool} (hu : C.und t = .ok (.map kt et)) (hk : C.und kt = .ok ku) (hp : plainKey ku = true) (hm : R E ρ mv vm) (hkr : R E ρ k vk)
    (h : lookupS C m ku et ok k mv = .ok r) : ∃ v, (Instr.lookup t vm vk ok).run C.P w = .ok v w ∧ R E ρ r v := by
  have hund := CxOk.run_und hC hu w
  have hplain := fun (b : Bool) => keyPlain hC hk (by cases ku <;> first | rfl | (simp [plainKey] at hp; done)) vk b 9999 w
  have hunk := CxOk.und_ok hC hk
  have fin : ∀ (x : SV) (v : Value) (b : Bool), R E ρ x v → R E ρ (okS ok x b) (if ok then .tuple #[v, .bool b] else v) := by
    intro x v b hx
    cases ok with
    | false => exact hx
    | true =>
      simp only [okS, cond_true, if_true, R]
      exact ⟨[v, .bool b], Rs'.cons hx (Rs'.cons (by simp [R]) Rs'.nil), rfl⟩
  cases mv with
  | nilm =>
    simp only [lookupS] at h
    obtain ⟨z, hz, h⟩ := Rs.bind_ok h
    simp only [Rs.ok.injEq] at h; subst h
    simp only [R] at hm; subst hm
    obtain ⟨zv, hzr, hzR⟩ := CxOk.run_zero (E := E) hC hz w
    refine ⟨_, ?_, fin z zv false hzR⟩
    have hpl := hplain true
    simp only [Nat.reduceAdd] at hpl
    have hfind := findKey_run (P := C.P) (vk := vk) (fs := []) (r := none) hunk rfl w
    simp [Instr.lookup, hund, hpl, hfind, hzr]
  | mp id =>
    simp only [lookupS] at h
    split at h
    · rename_i es clock hrow
      obtain ⟨r0, hr0, h⟩ := Rs.bind_ok h
      simp only [R] at hm
      obtain ⟨L, hL, rfl⟩ := hm
      obtain ⟨fs, hblk, hents⟩ := hM.rows id _ L hrow hL
      obtain ⟨r', hfn, hmatch⟩ := findKeyS_ok hC hk hkr hents hr0
      have hfind := findKey_run (P := C.P) hunk hfn w
      have hpl := hplain
      simp only [Nat.reduceAdd] at hpl
      have hget : (getObj L.blk).run C.P w = .ok (.map ⟨fs⟩ clock) w := by simp [getObj, Sem.run, hblk]
      cases r0 with
      | none =>
        cases r' with
        | some _ => exact hmatch.elim
        | none =>
          obtain ⟨z, hz, h⟩ := Rs.bind_ok h
          simp only [Rs.ok.injEq] at h; subst h
          obtain ⟨zv, hzr, hzR⟩ := CxOk.run_zero (E := E) hC hz w
          refine ⟨_, ?_, fin z zv false hzR⟩
          simp [Instr.lookup, hund, hget, hpl, hfind, hzr]
      | some q =>
        cases r' with
        | none => exact hmatch.elim
        | some q' =>
          obtain ⟨j, x⟩ := q
          obtain ⟨j', v⟩ := q'
          obtain ⟨_, hxv, _, _⟩ := hmatch
          simp only [Rs.ok.injEq] at h; subst h
          refine ⟨_, ?_, fin x v true hxv⟩
          simp [Instr.lookup, hund, hget, hpl, hfind]
    · simp at h
  | _ => simp [lookupS] at h

end
end Go.Eng
