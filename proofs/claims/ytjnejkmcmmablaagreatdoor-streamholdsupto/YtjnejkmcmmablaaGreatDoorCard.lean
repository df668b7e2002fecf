/-
  StreamHolds is proved: by x, G and h the lines come back in the other order, by h and g they stay as they are; for all lines of bulk at most 1048576 (the second form); the listed variables are tied to the program's text by the given tie.
-/
import Derived.Test.YtjnejkmcmmablaaGreatDoorCards
import Derived.Test.YtjnejkmcmmablaaGreatDoorTie
import Derived.Test.YtjnejkmcmmablaaGreatDoorWalk
import Derived.Test.YtjnejkmcmmablaaGreatDoorChA
import Derived.Test.YtjnejkmcmmablaaGreatDoorChB
import Derived.ProofKit
import Derived.OpenShut
import Derived.Carry
import Derived.SliceStrings
import Derived.Lay
import Derived.LaidMore
import Derived.MakeChecks
import Derived.Deep.DeepHandedRow
import Derived.Deep.DeepWitnessRowRef
namespace Go.Proofs.YtjnejkmcmmablaaGreatDoor
open Go Go.ChangeShapes Go.WideShapes Go.ChangeAt Go.RowKit Go.Eng

/-- The lines, one behind the other: all states are good. -/
theorem good_A {blk off n cap : Nat} {L : Nat → ByteArray} {w0 : World} (hL : LinesAt w0 blk off n L) (hs : ∀ k, k < n → (allOf L k).size ≤ 65536) (hn : n ≤ 200) {c : Code} (hb : Tryz.f6.body = some c) {P : RunParts} (hP : runParts c = some P) :
    GoodAt (Cx.of Tryz.prog exts) (rhoOf blk off n cap L) w0 P Tryz.f6 good1 n 0 200 stA0 := by
  have s : ∀ {N k M : Nat} {ids : List Nat} {x y : SM}, seg (Cx.of Tryz.prog exts) Tryz.f6 good1 N k ids x = .ok y → GoodAt (Cx.of Tryz.prog exts) (rhoOf blk off n cap L) w0 P Tryz.f6 good1 n (k + N) M y → GoodAt (Cx.of Tryz.prog exts) (rhoOf blk off n cap L) w0 P Tryz.f6 good1 n k (N + M) x :=
    fun h hy => seg_ok (cx_ok' _ w0 rho_one) cx_fn types_are hL hs hb hP h hy
  exact s segA0 (s segA25 (s segA50 (s segA75 (s segA100 (s segA125 (s segA150 (s (M := 0) segA175 (GoodAt.vacuous hn))))))))

theorem good_B {blk off n cap : Nat} {L : Nat → ByteArray} {w0 : World} (hL : LinesAt w0 blk off n L) (hs : ∀ k, k < n → (allOf L k).size ≤ 65536) (hn : n ≤ 200) {c : Code} (hb : Tryz.f6.body = some c) {P : RunParts} (hP : runParts c = some P) :
    GoodAt (Cx.of Tryz.prog exts) (rhoOf blk off n cap L) w0 P Tryz.f6 good2 n 0 200 stB0 := by
  have s : ∀ {N k M : Nat} {ids : List Nat} {x y : SM}, seg (Cx.of Tryz.prog exts) Tryz.f6 good2 N k ids x = .ok y → GoodAt (Cx.of Tryz.prog exts) (rhoOf blk off n cap L) w0 P Tryz.f6 good2 n (k + N) M y → GoodAt (Cx.of Tryz.prog exts) (rhoOf blk off n cap L) w0 P Tryz.f6 good2 n k (N + M) x :=
    fun h hy => seg_ok (cx_ok' _ w0 rho_one) cx_fn types_are hL hs hb hP h hy
  exact s segB0 (s segB25 (s segB50 (s segB75 (s segB100 (s segB125 (s segB150 (s (M := 0) segB175 (GoodAt.vacuous hn))))))))

theorem parts6 : ∃ c P, Tryz.f6.body = some c ∧ runParts c = some P := by
  have h : (match Tryz.f6.body with | some c => (runParts c).isSome | none => false) = true := by kernel_rfl
  cases hb : Tryz.f6.body with
  | none => rw [hb] at h; cases h
  | some c =>
    rw [hb] at h
    simp only at h
    obtain ⟨P, hP⟩ := Option.isSome_iff_exists.1 h
    exact ⟨c, P, rfl, hP⟩

theorem all_size {L : Nat → ByteArray} {n : Nat} (h : n + sumTo L n ≤ 200) : ∀ k, k < n → (allOf L k).size ≤ 65536 := by
  intro k hk
  have h1 := congrArg ByteArray.size (allOf_end L k)
  have h2 := revOf_size L (k + 1)
  have h3 := sumTo_le L n (k + 1) hk
  rw [ByteArray.size_append] at h1
  omega

theorem run1_at {b off n cap : Nat} {L : Nat → ByteArray} (h0 : 0 < n) (h : n + sumTo L n ≤ 200) : Run1At b off n cap L := by
  intro w0 hL
  obtain ⟨c, P, hb, hP⟩ := parts6
  exact run1_of h0 hb hP (segStart_ok hb hP startA) (good_A hL (all_size h) (by omega) hb hP)
theorem run2_at {b off n cap : Nat} {L : Nat → ByteArray} (h0 : 0 < n) (h : n + sumTo L n ≤ 200) : Run2At b off n cap L := by
  intro w0 hL
  obtain ⟨c, P, hb, hP⟩ := parts6
  exact run2_of h0 hb hP (segStart_ok hb hP startB) (good_B hL (all_size h) (by omega) hb hP)

/-- The law, of lines that lie in memory. -/
theorem law_any (a0 : Option Addr) (b off n cap : Nat) (L : Nat → ByteArray) (w : World) (hb : 0 < n → b < w.heap.size) (ha : 0 < n → a0 = some ⟨b, off, none⟩)
    (hcell : ∀ k, k < n → w.cell? ⟨b, off + k, none⟩ = some (.string (L k))) (hbd : n + sumTo L n ≤ 4000000) :
    Calls Tryz.prog 3 #[.slice a0 n cap] w fun e w' => e = .returned (.bool true) ∧ Below w.heap.size w w' := by
  by_cases hno : n = 0 ∨ 200 < n + sumTo L n
  · exact walk_no a0 b off n cap L w hb ha hcell hbd hno
  · have h0 : 0 < n := by omega
    obtain rfl := ha h0
    exact walk_yes b off n cap L w (hb h0) hcell (by omega) h0 (run1_at h0 (by omega)) (run2_at h0 (by omega))

/- The row. -/
theorem own : ownKnob Tryz.prog.godebug = none := by kernel_rfl
theorem laid_out : laidOutB Tryz.prog = true := by kernel_rfl
theorem cells9 : Tryz.prog.cellsOf 9 = 1 := by kernel_rfl

/-- The lines' bulk is what Long counts. -/
theorem bulk_sum {H : Type} (ss : List ByteArray) : ∀ n, n ≤ ss.length → n + sumTo (fun k => ss.getD k ByteArray.empty) n ≤ Rows.uptoBulkAll (strs (H := H) (ss.take n))
  | 0, _ => by simp [sumTo]
  | n + 1, h => by
    have ih := bulk_sum (H := H) ss n (by omega)
    have e : ss.take (n + 1) = ss.take n ++ [ss.getD n ByteArray.empty] := by
      rw [List.take_succ_eq_append_getElem (by omega)]
      simp [List.getD, List.getElem?_eq_getElem (show n < ss.length by omega)]
    have app : ∀ (l r : List (DataW H)), Rows.uptoBulkAll (l ++ r) = Rows.uptoBulkAll l + Rows.uptoBulkAll r := by
      intro l r
      induction l with
      | nil => simp [Rows.uptoBulkAll]
      | cons x l ih => simp only [List.cons_append, Rows.uptoBulkAll, ih]; omega
    have one : Rows.uptoBulkAll (strs (H := H) [ss.getD n ByteArray.empty]) = (ss.getD n ByteArray.empty).size + 1 := by
      simp only [strs, List.map_cons, List.map_nil, Rows.uptoBulkAll, Rows.uptoBulk]
      have : (ss.getD n ByteArray.empty).data.toList.length = (ss.getD n ByteArray.empty).size := by rw [Array.length_toList]; rfl
      omega
    have e2 : strs (H := H) (ss.take n ++ [ss.getD n ByteArray.empty]) = strs (ss.take n) ++ strs [ss.getD n ByteArray.empty] := by simp [strs]
    rw [e, e2, app, one]
    simp only [sumTo]
    omega

set_option maxRecDepth 100000 in
/-- What the walk gives, for all lines that the second form lets in. -/
theorem contract (H : Type) (enc : TypeId × Value → H) (W : World) (base : Nat) (args : Array Value) (ds gs : List (DataW H)) (before : List MemPlace)
    (hval : ∀ (j : Nat) t v, Tryz.f3.params[j]? = some t → args[j]? = some v → Value.okWide Tryz.prog W .any base t v)
    (hW : DataW.Whole enc Tryz.prog Tryz.f3.params.toList Rows.streamHoldsSpec.vars false W args.toList ds gs before) (hk : Rows.uptoSmall H (ds ++ gs) = true) :
    Calls Tryz.prog 3 args W fun e W' => ∃ v, e = .returned v ∧ Rows.streamHoldsSpec.post enc Tryz.prog Tryz.f3 false true false false W args v W' := by
  have hW' := hW
  obtain ⟨p, q, hA0, hV, rfl, hfz, hnd⟩ := hW
  have hA : DataW.TrodAll enc Tryz.prog W 0 (fun _ => true) true Tryz.f3.params.toList args.toList ds p := hA0
  rw [Tryz.params3] at hA hval
  obtain ⟨v0, vs0, d0, ds0, p0, q0, hargs, rfl, rfl, h0, r0⟩ := trodAll_cons hA
  obtain ⟨rfl, rfl, rfl⟩ := trodAll_nil r0
  obtain rfl : args = #[v0] := by cases args; simp_all
  obtain ⟨rfl, rfl⟩ := trodVars_none hV
  obtain ⟨a0, n, cap, rfl⟩ := okWide_slice Tryz.underlying22 (hval 0 22 v0 rfl rfl)
  have h0k := h0
  obtain ⟨fuel, hf⟩ := h0
  clear hA0
  simp only [List.append_nil] at hW' hk
  have hlt : ∀ x ∈ p0, x.block < W.heap.size := fun x hx => by simpa using hW'.lt x (by simpa using hx)
  have hbulk : Rows.uptoBulkAll [d0] ≤ 1048576 := of_decide_eq_true hk
  have hl : ∃ (b off : Nat) (L : Nat → ByteArray), (0 < n → b < W.heap.size) ∧ (0 < n → a0 = some ⟨b, off, none⟩) ∧ (∀ k, k < n → W.cell? ⟨b, off + k, none⟩ = some (.string (L k))) ∧ n + sumTo L n ≤ 4000000 := by
    rcases open_strings Tryz.underlying22 Tryz.underlying9 cells9 hf with ⟨hcs, hx⟩ | ⟨a, len', cap', ss, hcs, _, hl, hm, hz, hx, hcell, _⟩
    · cases hcs
      exact ⟨0, 0, fun _ => ⟨#[]⟩, fun h => absurd h (by omega), fun h => absurd h (by omega), fun k h => absurd h (by omega), by simp [sumTo]⟩
    · cases hcs
      simp only [if_true] at hz
      obtain ⟨rfl, rfl⟩ := Prod.mk.inj hx
      obtain ⟨b, off, spot⟩ := a
      have hb0 : Rows.uptoBulkAll (strs (H := H) (ss.take n)) + 1 ≤ 1048576 := by
        have h : Rows.uptoBulkAll [DataW.slice (strs (H := H) (ss.take n)) (strs (ss.drop n))] ≤ 1048576 := hbulk
        simp only [Rows.uptoBulkAll, Rows.uptoBulk] at h
        omega
      have hsum : n + sumTo (fun k => ss.getD k ByteArray.empty) n ≤ 1048576 := by
        have := bulk_sum (H := H) ss n (by omega)
        omega
      refine ⟨b, off, fun k => ss.getD k ByteArray.empty, fun h => ?_, fun h => ?_, fun k hk => ?_, by omega⟩
      · have hc0 := hcell 0 (by omega)
        have hspot : spot = none := by simpa [Addr.add] using World.cell?_spot hc0
        subst hspot
        exact cell_old hc0
      · have hspot : spot = none := by simpa [Addr.add] using World.cell?_spot (hcell 0 (by omega))
        subst hspot
        rfl
      · have hspot : spot = none := by simpa [Addr.add] using World.cell?_spot (hcell 0 (by omega))
        subst hspot
        have := hcell k (by omega)
        rw [addr_add] at this
        exact this
  obtain ⟨b, off, L, hb, ha, hcell, hbd⟩ := hl
  refine (law_any a0 b off n cap L W hb ha hcell hbd).mono fun e W' ⟨he, hg⟩ => ?_
  subst he
  refine ⟨_, rfl, _, _, _, [], p0, [], hW', ?_, ?_, ?_, hg.frame _, fun h => by cases h⟩
  · exact trodAll_cons_mk (shut_bool Tryz.underlying4 _) trodAll_mk0
  · have := trodAll_cons_mk (Below.trod laid_out (by kernel_rfl) (of_decide_eq_true (by kernel_rfl)) h0k hg hlt) trodAll_mk0
    rw [List.append_nil] at this
    exact this
  · rfl

/- A world for the witness: the settled one, the listed variables laid. -/
theorem laid_met (os : Os) : laidMetH Tryz.prog Rows.streamHoldsUptoRow.laid ((World.laidAll Tryz.prog os Rows.streamHoldsUptoRow.laid).forCall (fun _ _ => 0) ⟨#[], #[.slice none 0 0], []⟩).memory := by
  rw [MakeChecks.laidMetH_plain _ _ _ (by kernel_rfl)]
  exact laidMet_laidAll _ (by kernel_rfl) (by kernel_rfl)
theorem reads (os : Os) {H : Type} (enc : TypeId × Value → H) : ∃ places, DataW.whole enc Tryz.prog ((World.laidAll Tryz.prog os Rows.streamHoldsUptoRow.laid).forCall (fun _ _ => 0) ⟨#[], #[.slice none 0 0], []⟩).memory Tryz.f3.params.toList Rows.streamHoldsSpec.vars false #[Value.slice none 0 0].toList 8 = some ([.nil], [], places) :=
  ⟨[], by kernel_rfl⟩

set_option maxRecDepth 100000 in
theorem lifted (os : Os) (started : os.Started) (H : Type) (enc : TypeId × Value → H) (F : Stop.Interp) :
    ReturnsInHanded {} Tryz.checked os 3 .any ((Rows.OpenSpec.upto Rows.streamHoldsSpec).preRow enc Tryz.prog Tryz.f3 Rows.streamHoldsUptoRow.domain false Rows.streamHoldsUptoRow.laid) (((Rows.OpenSpec.upto Rows.streamHoldsSpec).at F).post enc Tryz.prog Tryz.f3 false true false false) := by
  obtain ⟨places, hx⟩ := reads os enc
  refine returnsInHanded_of_row (C := Tryz.checked) (s := Rows.OpenSpec.upto Rows.streamHoldsSpec) own started (by kernel_rfl) Tryz.func3
    (witness_row_atRef (enc := enc) (C := Tryz.checked) false (World.laidAll Tryz.prog os Rows.streamHoldsUptoRow.laid) #[.slice none 0 0] (World.laidAll_os _ _ _) (by kernel_rfl) (by kernel_rfl) (by kernel_rfl)
      (OpenSpec.preRow_of_cond 8 hx (by kernel_rfl) (fun k hk => by cases hk; kernel_rfl) (by kernel_rfl) (laid_met os))) ?_
  intro W base args ds gs before hval hW _ hcond _ _ _ _
  exact contract H enc W base args ds gs before hval hW (hcond _ rfl)

theorem said : Rows.StreamHoldsUptoSaid :=
  OpenClaim.holds_of_cond 3 Tryz.f3 rfl rfl rfl rfl rfl rfl rfl ⟨rfl, rfl, rfl, rfl, rfl⟩ rfl rfl rfl rfl rfl (by kernel_rfl) Tryz.func3 (by kernel_rfl)
    (of_decide_eq_true (by kernel_rfl)) (by unfold Func.isWrapper; first | (rw [if_pos (by decide +kernel)]; kernel_rfl) | (rw [if_neg (by decide +kernel)]; exact ⟨rfl, rfl⟩))
    (fun os started H enc _ F => by rw [OpenClaim.pre_eq_preRow]; exact lifted os started H enc F)

theorem plain (f : FuncId) (fn : Func) (hf : Tryz.pinned.checked.prog.funcNamed "dragoman/dragomanlaw09.StreamHolds" = some f) (hfn : Tryz.pinned.checked.prog.funcs[f]? = some fn) :
    true = Tryz.pinned.checked.prog.looks [] ∧ ∀ (j : Nat) t, fn.params[j]? = some t → Tryz.pinned.checked.prog.wantsStandIn t = false := by
  obtain rfl : f = 3 := Option.some.inj ((show Tryz.prog.funcNamed "dragoman/dragomanlaw09.StreamHolds" = some 3 by kernel_rfl).symm.trans hf) |>.symm
  obtain rfl : fn = Tryz.f3 := (Option.some.inj (Tryz.func3.symm.trans hfn)).symm
  refine ⟨by kernel_rfl, fun j t ht => ?_⟩
  rw [Tryz.params3] at ht
  obtain rfl : t = 22 := by simpa using Array.mem_of_getElem? ht
  exact (show Tryz.prog.wantsStandIn 22 = false by kernel_rfl)

/-- The second form's card. -/
theorem holds : Rows.StreamHoldsUptoCardSaid :=
  Claim7.holds_tied_plain_at .later [] _ _ _ _ said (fun _ h => by cases h) (by kernel_rfl) (fun _ h => by cases h) streamHoldsUpto_row_tie rfl ⟨rfl, rfl⟩ (by kernel_rfl) rfl plain (by kernel_rfl)

#print axioms holds
end Go.Proofs.YtjnejkmcmmablaaGreatDoor
