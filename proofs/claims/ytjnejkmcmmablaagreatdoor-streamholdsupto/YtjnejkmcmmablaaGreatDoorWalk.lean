import Derived.Test.YtjnejkmcmmablaaGreatDoorRunOk
import Derived.Test.YtjnejkmcmmablaaGreatDoorSmall
import Derived.Outline
/-
  The law's walk.
-/
namespace Go.Proofs.YtjnejkmcmmablaaGreatDoor
open Go Go.RowKit Go.Eng

theorem bcell {W w1 : World} (hb : Below W.heap.size W w1) : (∀ b o, b < W.heap.size → w1.cell? ⟨b, o, none⟩ = W.cell? ⟨b, o, none⟩) :=
  fun b o h => hb.cell (p := ⟨b, o, none⟩) h

/-- The lines, the last one first, each with an end. -/
def revOf (L : Nat → ByteArray) : Nat → ByteArray
  | 0 => ⟨#[]⟩
  | k + 1 => (L k ++ ⟨#[10]⟩) ++ revOf L k

theorem revOf_size (L : Nat → ByteArray) : ∀ k, (revOf L k).size = sumTo L k + k
  | 0 => rfl
  | k + 1 => by
    have := revOf_size L k
    have h1 : (⟨#[10]⟩ : ByteArray).size = 1 := rfl
    simp only [revOf, ByteArray.size_append, sumTo, h1, this]
    omega

set_option maxRecDepth 100000 in
set_option maxHeartbeats 1000000 in
theorem walk_no (a0 : Option Addr) (b off n cap : Nat) (L : Nat → ByteArray) (w : World) (hb : 0 < n → b < w.heap.size) (ha : 0 < n → a0 = some ⟨b, off, none⟩)
    (hcell : ∀ k, k < n → w.cell? ⟨b, off + k, none⟩ = some (.string (L k))) (hbd : n + sumTo L n ≤ 4000000) (hno : n = 0 ∨ 200 < n + sumTo L n) :
    Calls Tryz.prog 3 #[.slice a0 n cap] w fun e w' => e = .returned (.bool true) ∧ Below w.heap.size w w' := by
  have HC := Lib.hid hcell
  have HA := Lib.hid ha
  have HK := Lib.hid hb
  clear hcell ha hb
  by_cases h : 200 < n + sumTo L n
  · have hd : decide (((n + sumTo L n : Nat) : Int) > 200) = true := by simp; omega
    clear hno
    go_enter Tryz.func3, Tryz.ntmps3
    go_wp2_with (first
      | (go_at_call 4; refine (shown_any _).mono ?_; rintro e w1 ⟨rfl, hb1⟩; have hc1 := Lib.hid (bcell hb1); have HB := Lib.hid hb1; clear hb1)
      | (go_at_call 5; refine (long_any _ b off n cap L _ HA.out (fun k hk => (hc1.out b (off + k) (HK.out (by omega))).trans (HC.out k hk)) hbd).mono ?_; rintro e w2 ⟨rfl, rfl⟩))
    go_ret
    exact ⟨rfl, HB.out⟩
  · obtain rfl : n = 0 := by omega
    have hd : decide (((0 + sumTo L 0 : Nat) : Int) > 200) = false := by simp [sumTo]
    go_enter Tryz.func3, Tryz.ntmps3
    go_wp2_with (first
      | (go_at_call 4; refine (shown_any _).mono ?_; rintro e w1 ⟨rfl, hb1⟩; have hc1 := Lib.hid (bcell hb1); have HB := Lib.hid hb1; clear hb1)
      | (go_at_call 5; refine (long_any _ b off 0 cap L _ HA.out (fun k hk => (hc1.out b (off + k) (HK.out (by omega))).trans (HC.out k hk)) hbd).mono ?_; rintro e w2 ⟨rfl, rfl⟩))
    go_ret
    exact ⟨rfl, HB.out⟩

/-- What stream.Run over the two scripts hands back. -/
def Run1At (b off n cap : Nat) (L : Nat → ByteArray) : Prop := ∀ w0 : World, LinesAt w0 b off n L →
  Calls Tryz.prog 6 #[.slice (some ⟨w0.heap.size, 0, none⟩) 3 3, .slice (some ⟨b, off, none⟩) n cap, .bool false, .int .i64 1500] (w0.alloc (.cells ⟨vals1⟩ 32)) fun e w' =>
      ∃ rb ro rc fk fu, e = .returned (.tuple #[.slice (some ⟨rb, ro, none⟩) 1 rc, .int fk fu, .int .i64 0]) ∧ w'.cell? ⟨rb, ro, none⟩ = some (.string (allOf L (n - 1))) ∧ Below w0.heap.size w0 w'
def Run2At (b off n cap : Nat) (L : Nat → ByteArray) : Prop := ∀ w0 : World, LinesAt w0 b off n L →
  Calls Tryz.prog 6 #[.slice (some ⟨w0.heap.size, 0, none⟩) 3 3, .slice (some ⟨b, off, none⟩) n cap, .bool false, .int .i64 1500] (w0.alloc (.cells ⟨vals2⟩ 32)) fun e w' =>
      ∃ rb ro rc fk fu, e = .returned (.tuple #[.slice (some ⟨rb, ro, none⟩) n rc, .int fk fu, .int .i64 0]) ∧ (∀ i, i < n → w'.cell? ⟨rb, ro + i, none⟩ = some (.string (L i))) ∧ Below w0.heap.size w0 w'

theorem vals1_eq : (⟨vals1⟩ : Array Value) = #[.int .u8 71, .int .i64 1, .int .i64 1, .slice none 0 0, .int .i64 0, .int .i64 0, .slice none 0 0, .bool true, .slice none 0 0, .slice none 0 0, .bool false, .bool false, .string ⟨#[]⟩, .int .u8 104, .int .i64 0, .int .i64 0, .slice none 0 0, .int .i64 0, .int .i64 0, .slice none 0 0, .bool false, .slice none 0 0, .slice none 0 0, .bool false, .bool false, .string ⟨#[]⟩, .int .u8 100, .int .i64 2, .int .i64 0, .slice none 0 0, .int .i64 0, .int .i64 0, .slice none 0 0, .bool true, .slice none 0 0, .slice none 0 0, .bool false, .bool false, .string ⟨#[]⟩] := rfl
theorem vals2_eq : (⟨vals2⟩ : Array Value) = #[.int .u8 104, .int .i64 0, .int .i64 0, .slice none 0 0, .int .i64 0, .int .i64 0, .slice none 0 0, .bool false, .slice none 0 0, .slice none 0 0, .bool false, .bool false, .string ⟨#[]⟩, .int .u8 120, .int .i64 0, .int .i64 0, .slice none 0 0, .int .i64 0, .int .i64 0, .slice none 0 0, .bool false, .slice none 0 0, .slice none 0 0, .bool false, .bool false, .string ⟨#[]⟩, .int .u8 103, .int .i64 0, .int .i64 0, .slice none 0 0, .int .i64 0, .int .i64 0, .slice none 0 0, .bool false, .slice none 0 0, .slice none 0 0, .bool false, .bool false, .string ⟨#[]⟩] := rfl

theorem lines_later {w w' : World} {b off n : Nat} {L : Nat → ByteArray} (h : LinesAt w b off n L) (hB : Below w.heap.size w w') : LinesAt w' b off n L :=
  ⟨Nat.lt_of_lt_of_le h.old hB.size, fun k hk => (hB.cell (p := ⟨b, off + k, none⟩) h.old).trans (h.cell k hk)⟩

theorem cell_old {w : World} {b o : Nat} {v : Value} (h : w.cell? ⟨b, o, none⟩ = some v) : b < w.heap.size := by
  unfold World.cell? at h
  by_cases hb : b < w.heap.size
  · exact hb
  · have : w.heap[b]? = none := Array.getElem?_eq_none (by omega)
    simp [this] at h

theorem endOf_eq : endOf = ⟨#[10]⟩ := rfl
theorem allOf_end (L : Nat → ByteArray) : ∀ k, allOf L k ++ ⟨#[10]⟩ = revOf L (k + 1)
  | 0 => by
    show L 0 ++ ⟨#[10]⟩ = (L 0 ++ ⟨#[10]⟩) ++ ⟨#[]⟩
    exact (ByteArray.append_empty).symm
  | k + 1 => by
    have := allOf_end L k
    show ((L (k + 1) ++ endOf) ++ allOf L k) ++ ⟨#[10]⟩ = (L (k + 1) ++ ⟨#[10]⟩) ++ revOf L (k + 1)
    rw [ByteArray.append_assoc, this, endOf_eq]

set_option maxRecDepth 100000 in
set_option maxHeartbeats 1000000 in
theorem walk_yes (b off n cap : Nat) (L : Nat → ByteArray) (w : World) (hb : b < w.heap.size)
    (hcell : ∀ k, k < n → w.cell? ⟨b, off + k, none⟩ = some (.string (L k))) (hbd : n + sumTo L n ≤ 200) (h0 : 0 < n) (R1 : Run1At b off n cap L) (R2 : Run2At b off n cap L) :
    Calls Tryz.prog 3 #[.slice (some ⟨b, off, none⟩) n cap] w fun e w' => e = .returned (.bool true) ∧ Below w.heap.size w w' := by
  have HC := Lib.hid hcell
  clear hcell
  have hd : decide (((n + sumTo L n : Nat) : Int) > 200) = false := by simp; omega
  have hz : ((n : Int) == 0) = false := by simp; omega
  have HR1 : ∀ (w0 : World) (h : Nat), w0.heap.size = h → LinesAt w0 b off n L → Calls Tryz.prog 6 #[.slice (some ⟨h, 0, none⟩) 3 3, .slice (some ⟨b, off, none⟩) n cap, .bool false, .int .i64 1500] (w0.alloc (.cells #[.int .u8 71, .int .i64 1, .int .i64 1, .slice none 0 0, .int .i64 0, .int .i64 0, .slice none 0 0, .bool true, .slice none 0 0, .slice none 0 0, .bool false, .bool false, .string ⟨#[]⟩, .int .u8 104, .int .i64 0, .int .i64 0, .slice none 0 0, .int .i64 0, .int .i64 0, .slice none 0 0, .bool false, .slice none 0 0, .slice none 0 0, .bool false, .bool false, .string ⟨#[]⟩, .int .u8 100, .int .i64 2, .int .i64 0, .slice none 0 0, .int .i64 0, .int .i64 0, .slice none 0 0, .bool true, .slice none 0 0, .slice none 0 0, .bool false, .bool false, .string ⟨#[]⟩] 32)) fun e w' =>
      ∃ rb ro rc fk fu, e = .returned (.tuple #[.slice (some ⟨rb, ro, none⟩) 1 rc, .int fk fu, .int .i64 0]) ∧ w'.cell? ⟨rb, ro, none⟩ = some (.string (allOf L (n - 1))) ∧ Below w0.heap.size w0 w' := by
    rintro w0 h rfl hl
    have := R1 w0 hl
    rw [vals1_eq] at this
    exact this
  have HR2 : ∀ (w0 : World) (h : Nat), w0.heap.size = h → LinesAt w0 b off n L → Calls Tryz.prog 6 #[.slice (some ⟨h, 0, none⟩) 3 3, .slice (some ⟨b, off, none⟩) n cap, .bool false, .int .i64 1500] (w0.alloc (.cells #[.int .u8 104, .int .i64 0, .int .i64 0, .slice none 0 0, .int .i64 0, .int .i64 0, .slice none 0 0, .bool false, .slice none 0 0, .slice none 0 0, .bool false, .bool false, .string ⟨#[]⟩, .int .u8 120, .int .i64 0, .int .i64 0, .slice none 0 0, .int .i64 0, .int .i64 0, .slice none 0 0, .bool false, .slice none 0 0, .slice none 0 0, .bool false, .bool false, .string ⟨#[]⟩, .int .u8 103, .int .i64 0, .int .i64 0, .slice none 0 0, .int .i64 0, .int .i64 0, .slice none 0 0, .bool false, .slice none 0 0, .slice none 0 0, .bool false, .bool false, .string ⟨#[]⟩] 32)) fun e w' =>
      ∃ rb ro rc fk fu, e = .returned (.tuple #[.slice (some ⟨rb, ro, none⟩) n rc, .int fk fu, .int .i64 0]) ∧ (∀ i, i < n → w'.cell? ⟨rb, ro + i, none⟩ = some (.string (L i))) ∧ Below w0.heap.size w0 w' := by
    rintro w0 h rfl hl
    have := R2 w0 hl
    rw [vals2_eq] at this
    exact this
  have X1 := Lib.hid HR1
  have X2 := Lib.hid HR2
  clear R1 R2 HR1 HR2
  go_enter Tryz.func3, Tryz.ntmps3
  go_wp2_with (first
      | (go_at_call 4; refine (shown_any _).mono ?_; rintro e w1 ⟨rfl, hb1⟩; have hc1 := Lib.hid (bcell hb1); have HB := Lib.hid hb1; clear hb1)
      | (go_at_call 5; refine (long_any _ b off n cap L _ (fun _ => rfl) (fun k hk => (hc1.out b (off + k) hb).trans (HC.out k hk)) (by omega)).mono ?_; rintro e w2 ⟨rfl, rfl⟩))
  go_loop [4, 5] (fun s i => ∃ k : Nat, k ≤ n ∧ i = .int .i64 k ∧ s = .string (revOf L k)) (fun _ i => n - (intOf i).toNat)
  case atStart => exact ⟨0, Nat.zero_le _, rfl, rfl⟩
  case round =>
    obtain ⟨k, hk, rfl, rfl⟩ := hrel
    have s1 := revOf_size L k
    have s2 := sumTo_le L n k hk
    by_cases hlt : k < n
    · have g := (hc1.out b (off + k) hb).trans (HC.out k hlt)
      have s3 := sumTo_le L n (k + 1) hlt
      have s4 : sumTo L (k + 1) = sumTo L k + (L k).size := rfl
      have s5 : (L k).size ≤ 200 := by omega
      have s6 : (revOf L k).size ≤ 400 := by omega
      clear s1 s2 s3 s4
      go_wp2
      go_loop [6] (fun t => ∃ j : Nat, j ≤ (L k).size ∧ t = .int .i64 j) (fun t => (L k).size - (intOf t).toNat)
      case atStart => exact ⟨0, Nat.zero_le _, rfl⟩
      case round =>
        obtain ⟨j, hj, rfl⟩ := hrel
        by_cases hjt : j < (L k).size
        · go_wp2
          · go_ret
            exact ⟨rfl, HB.out⟩
          · go_round
            case rel => exact ⟨j + 1, by omega, by go_num⟩
            case measure => simp [intOf]; omega
        · go_wp2
          go_round
          case rel => exact ⟨k + 1, by omega, by go_num, rfl⟩
          case measure => simp [intOf]; omega
    · obtain rfl : k = n := by omega
      have HL1 : Hid (LinesAt w1 b off k L) := ⟨Nat.lt_of_lt_of_le hb HB.out.size, fun i hi => (hc1.out b (off + i) hb).trans (HC.out i hi)⟩
      have s7 : (allOf L (k - 1)).size + 1 = sumTo L k + k := by
        have := congrArg ByteArray.size (allOf_end L (k - 1))
        rw [ByteArray.size_append, show k - 1 + 1 = k from by omega, s1] at this
        exact this
      have s8 : (allOf L (k - 1)).size ≤ 400 := by omega
      have s9 : allOf L (k - 1) ++ ⟨#[10]⟩ = revOf L k := by rw [allOf_end, show k - 1 + 1 = k from by omega]
      have S9 := Lib.hid s9
      clear s1 s2 s7 s9
      go_wp2_with (first
        | (go_at_call 6; with_reducible refine (X1.out _ _ (by simp) (lines_later HL1.out (((Below.refl _ _).alloc (Nat.le_refl _) _).alloc (by simp) _))).mono ?_
           rintro e w2 ⟨rb, ro, rc, fk, fu, rfl, hcA, hb2⟩
           have hB2 := Lib.hid ((((Below.refl w1.heap.size w1).alloc (Nat.le_refl _) (.cells #[.int .i64 1, .int .i64 1, .slice none 0 0] 27)).alloc (by simp) (.cells #[.int .i64 2, .int .i64 0, .slice none 0 0] 27)).trans (hb2.mono (by simp; omega)))
           have HL2 := Lib.hid (lines_later HL1.out hB2.out)
           have HA2 := Lib.hid hcA
           clear hb2 hcA))
      ((with_reducible refine (X2.out _ _ rfl HL2.out).mono ?_); skip)
      rintro e w3 ⟨rb2, ro2, rc2, fk2, fu2, rfl, hcB, hb3⟩
      have hA3 := (hb3.cell (p := ⟨rb, ro, none⟩) (cell_old HA2.out)).trans HA2.out
      have HB3 := Lib.hid hb3
      have HL3 := Lib.hid (lines_later HL2.out hb3)
      have HB2 := Lib.hid hcB
      clear hb3 hcB
      have s9 := S9.out
      go_wp2_with (go_at_call 7; refine (same_yes _ _ _ _ _ _ k L _ (by omega) HB2.out (fun i hi => HL3.out.cell i hi)).mono ?_; rintro e w4 ⟨rfl, q, rfl⟩)
      go_ret
      exact ⟨rfl, ((HB.out.trans (hB2.out.mono HB.out.size)).trans (HB3.out.mono (Nat.le_trans HB.out.size hB2.out.size))) |> fun h => ⟨h.os, h.tape, h.output, h.size, h.block⟩⟩
end Go.Proofs.YtjnejkmcmmablaaGreatDoor
