import Derived.Test.YtjnejkmcmmablaaGreatDoorEngCalls2
import Derived.Test.YtjnejkmcmmablaaGreatDoorEngDraw4
/-
  The whole: what the abstract run says of a call, the model's call does.
-/
namespace Go.Eng
open Go.RowKit

section
variable {C : Cx} {ρ : Nat → Value} {w0 : World}

theorem run_all (hC : CxOk C ρ w0) (hN : FnOk C) (n : Nat) : CallOk C ρ w0 (run C n) ∧ CodeOk C ρ w0 n (run C n) ∧ ScopeOk C ρ w0 n (run C n) :=
  run_ok hC hN (fun _ hI => drawS_ok hC hI) n

theorem RM.start (P : Program) (ρ : Nat → Value) (w : World) : RM P ρ w (fun _ => none) ⟨0, .lf⟩ w :=
  ⟨Below.refl _ _, fun _ _ h => (by cases h), fun _ _ _ _ h => (by cases h), fun _ _ _ _ _ _ _ _ _ _ _ h => (by cases h)⟩

theorem run_calls (hC : CxOk C ρ w0) (hN : FnOk C) (n : Nat) {f : Nat} {args : List SV} {vs : List Value} {v : SV} {m' : Mem} (hr : Rs' (fun _ => none) ρ args vs) (h : (run C n).call f args ⟨0, .lf⟩ = .ok (.ret v, m')) :
    Calls C.P f ⟨vs⟩ w0 fun e w' => ∃ E v', e = .returned v' ∧ R E ρ v v' ∧ RM C.P ρ w0 E m' w' := by
  refine Calls.mono ((run_all hC hN n).1 f args ⟨0, .lf⟩ _ m' h _ vs w0 hr (RM.start C.P ρ w0)).2 ?_
  rintro e w' ⟨E, _, _, hM, _, hend⟩
  cases e with
  | returned v' => exact ⟨E, v', rfl, hend, hM⟩
  | panicked _ => exact hend.elim
  | outgrown => exact hend.elim

end
end Go.Eng
