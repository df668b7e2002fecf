import Derived.Test.YtjnejkmcmmablaaGreatDoorRows
import Derived.WalkKit
import Derived.WalkSpells
import Derived.WalkLawsBesides
import Derived.Deep.QuietTactic
import Derived.BigQuiet
import Derived.Lib.Hide
/-
  The reference's Long and Same, of lines that came in.
-/
namespace Go.Proofs.YtjnejkmcmmablaaGreatDoor
open Go.RowKit

/-- How many bytes the first k lines have. -/
def sumTo (L : Nat → ByteArray) : Nat → Nat
  | 0 => 0
  | k + 1 => sumTo L k + (L k).size

theorem sumTo_le (L : Nat → ByteArray) : ∀ (n k : Nat), k ≤ n → sumTo L k ≤ sumTo L n
  | 0, k, h => by
    have e : k = 0 := by omega
    rw [e]; exact Nat.le_refl _
  | n + 1, k, h => by
    by_cases e : k = n + 1
    · rw [e]; exact Nat.le_refl _
    · have := sumTo_le L n k (by omega); simp only [sumTo]; omega

theorem ret_int {k : IntKind} {a b : Int} (h : a = b) : Ending.returned (.int k a) = .returned (.int k b) := by rw [h]

set_option maxHeartbeats 400000 in
theorem long_any (a0 : Option Addr) (b off n cap : Nat) (L : Nat → ByteArray) (w : World) (ha : 0 < n → a0 = some ⟨b, off, none⟩)
    (hcell : ∀ k, k < n → w.cell? ⟨b, off + k, none⟩ = some (.string (L k))) (hbd : n + sumTo L n ≤ 4000000) :
    Calls Tryz.prog 5 #[.slice a0 n cap] w fun e w' => e = .returned (.int .i64 ((n + sumTo L n : Nat) : Int)) ∧ w = w' := by
  go_enter Tryz.func5, Tryz.ntmps5
  go_wp2
  go_loop [3, 4] (fun s i => ∃ k : Nat, k ≤ n ∧ i = .int .i64 k ∧ s = .int .i64 ((n + sumTo L k : Nat) : Int)) (fun _ i => n - (intOf i).toNat)
  case atStart => exact ⟨0, Nat.zero_le _, rfl, rfl⟩
  case round =>
    obtain ⟨k, hk, rfl, rfl⟩ := hrel
    by_cases hlt : k < n
    · obtain rfl := ha (by omega)
      have hc := hcell k hlt
      have h1 := sumTo_le L n (k + 1) (by omega)
      have h2 : sumTo L (k + 1) = sumTo L k + (L k).size := rfl
      rw [h2] at h1
      have H : Hid (sumTo L (k + 1) = sumTo L k + (L k).size) := Lib.hid h2
      clear h2 hcell
      go_wp2
      go_round
      case rel => exact ⟨k + 1, by omega, by go_num, by rw [H.out]; go_num⟩
      case measure => simp [intOf]; omega
    · go_wp2
      go_ret
      obtain rfl : k = n := by omega
      exact ⟨rfl, rfl⟩

set_option maxHeartbeats 800000 in
theorem same_yes (b1 o1 c1 b2 o2 c2 n : Nat) (L : Nat → ByteArray) (w : World) (hn : n ≤ 4000000)
    (h1 : ∀ k, k < n → w.cell? ⟨b1, o1 + k, none⟩ = some (.string (L k))) (h2 : ∀ k, k < n → w.cell? ⟨b2, o2 + k, none⟩ = some (.string (L k))) :
    Calls Tryz.prog 7 #[.slice (some ⟨b1, o1, none⟩) n c1, .slice (some ⟨b2, o2, none⟩) n c2] w fun e w' => e = .returned (.bool true) ∧ ∃ q, w' = w.drewN q := by
  go_enter Tryz.func7, Tryz.ntmps7
  go_wp2
  go_loopw [5] (fun i wr => ∃ k q : Nat, k ≤ n ∧ i = .int .i64 k ∧ wr = w.drewN q) (fun i _ => n - (intOf i).toNat)
  case atStart => exact ⟨0, 0, Nat.zero_le _, rfl, rfl⟩
  case round =>
    obtain ⟨k, q, hk, rfl, rfl⟩ := hrel
    by_cases hlt : k < n
    · have g1 := h1 k hlt
      have g2 := h2 k hlt
      clear h1 h2
      go_wp2
      go_quiet (fail)
      go_wp2
      go_roundw
      case rel => exact ⟨k + 1, _, by omega, by go_num, rfl⟩
      case measure => simp [intOf]; omega
    · go_wp2
      go_ret
      exact ⟨rfl, _, rfl⟩

end Go.Proofs.YtjnejkmcmmablaaGreatDoor
