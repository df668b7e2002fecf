import Derived.Test.YtjnejkmcmmablaaGreatDoorRows
import Derived.Test.YtjnejkmcmmablaaGreatDoorChainOk
import Derived.Test.YtjnejkmcmmablaaGreatDoorEngMk
import Derived.WalkKit
/-
  What the abstract run goes by, of this program; the document's example.
-/
namespace Go.Proofs.YtjnejkmcmmablaaGreatDoor
open Go Go.Eng Go.RowKit

def exts : List (Nat × Ext) := [(69, .countString), (84, .indexByteString), (104, .noEscape), (121, .makeNoZero 5)]

theorem ext69 : ExtOk Tryz.prog 69 .countString := fun args w =>
  run_callFunc_extern Tryz.func69 (by kernel_rfl) (by kernel_rfl) (by kernel_rfl) (by kernel_rfl) args w
theorem ext84 : ExtOk Tryz.prog 84 .indexByteString := fun args w =>
  run_callFunc_extern Tryz.func84 (by kernel_rfl) (by kernel_rfl) (by kernel_rfl) (by kernel_rfl) args w
theorem ext104 : ExtOk Tryz.prog 104 .noEscape := fun args w =>
  run_callFunc_extern Tryz.func104 (by kernel_rfl) (by kernel_rfl) (by kernel_rfl) (by kernel_rfl) args w
theorem ext121 : ExtOk Tryz.prog 121 (.makeNoZero 5) :=
  ⟨Tryz.f121.params, Tryz.f121.resultTypes, 102, by kernel_rfl, by kernel_rfl, by kernel_rfl, by kernel_rfl, fun args w =>
  run_callFunc_extern Tryz.func121 (by kernel_rfl) (by kernel_rfl) (by kernel_rfl) (by kernel_rfl) args w⟩

theorem exts_ok : ∀ f e, findExt exts f = some e → ExtOk Tryz.prog f e := by
  intro f e h
  unfold exts at h
  rcases findExt_cons h with ⟨rfl, rfl⟩ | h
  · exact ext69
  rcases findExt_cons h with ⟨rfl, rfl⟩ | h
  · exact ext84
  rcases findExt_cons h with ⟨rfl, rfl⟩ | h
  · exact ext104
  rcases findExt_cons h with ⟨rfl, rfl⟩ | h
  · exact ext121
  · cases h

theorem mixed : Tryz.prog.follows .mixedOrders = true := by kernel_rfl
theorem cx_ok (ρ : Nat → Value) (w0 : World) (h1 : ∀ i, (ρ i).oneCell' = true) : CxOk (Cx.of Tryz.prog exts) ρ w0 := Cx.of_ok exts_ok mixed h1
theorem cx_fn : FnOk (Cx.of Tryz.prog exts) := Cx.of_fn (by kernel_rfl)

theorem types_are : TypesAre Tryz.prog where
  lines := by kernel_rfl
  text := by kernel_rfl
  cells := by kernel_rfl
  there := by kernel_rfl

def retTrue : Rs (CO × Mem) → Bool
  | .ok (.ret (.bool true), _) => true
  | _ => false
theorem retTrue_ok {r : Rs (CO × Mem)} (h : retTrue r = true) : ∃ m, r = .ok (.ret (.bool true), m) := by
  unfold retTrue at h
  split at h
  · exact ⟨_, rfl⟩
  · cases h

theorem shown_run : retTrue ((run (Cx.of Tryz.prog exts) 1000).call 4 [] ⟨0, .lf⟩) = true := by kernel_rfl

/-- The document's example is as it says. -/
theorem shown_any (w : World) : Calls Tryz.prog 4 #[] w fun e w' => e = .returned (.bool true) ∧ Below w.heap.size w w' := by
  obtain ⟨m, hm⟩ := retTrue_ok shown_run
  have h := run_calls (ρ := fun _ => .bool true) (w0 := w) (cx_ok _ w fun _ => rfl) cx_fn 1000 Rs'.nil hm
  refine Calls.mono h ?_
  rintro e w' ⟨E, v', rfl, hR, hM⟩
  simp only [R] at hR
  exact ⟨by rw [hR], hM.below⟩

end Go.Proofs.YtjnejkmcmmablaaGreatDoor
