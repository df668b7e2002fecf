import Derived.Test.YtjnejkmcmmablaaGreatDoorEngLight
/-
  The abstract run's arithmetic is the model's.
-/
namespace Go.Eng

theorem wrap_small_i64 (n : Int) (h1 : -9223372036854775808 ≤ n) (h2 : n < 9223372036854775808) : IntKind.i64.wrap n = n := by
  simp only [IntKind.wrap, IntKind.bits, IntKind.signed]
  simp only [Bool.true_and]
  split <;> simp_all <;> omega

theorem wrap_nonneg (k : IntKind) (n : Nat) (h : n < 2 ^ (k.bits - 1)) : k.wrap (n : Int) = n := by
  cases k <;> simp only [IntKind.bits] at h <;> simp only [IntKind.wrap, IntKind.bits, IntKind.signed, Bool.true_and, Bool.false_and] <;> split <;> simp_all <;> omega

theorem wrapS_eq (k : IntKind) (n : Int) : wrapS k n = k.wrap n := by
  unfold wrapS
  split
  · rename_i m
    rw [cond_eq, blt_eq]
    split
    · rename_i h; rw [decide_eq_true_eq] at h
      rw [wrap_small_i64]
      · show (-9223372036854775808 : Int) ≤ (m : Int); omega
      · show (m : Int) < 9223372036854775808; omega
    · rfl
  · rename_i m
    rw [cond_eq, blt_eq]
    split
    · rename_i h; rw [decide_eq_true_eq] at h
      rw [wrap_small_i64] <;> omega
    · rfl
  · rename_i m
    simp only [IntKind.wrap, IntKind.bits, IntKind.signed]
    simp
    rfl
  · rename_i m
    rw [cond_eq, blt_eq]
    split
    · rename_i h; rw [decide_eq_true_eq] at h
      exact (wrap_nonneg .i32 m (by simpa [IntKind.bits] using h)).symm
    · rfl
  · rename_i m
    simp only [IntKind.wrap, IntKind.bits, IntKind.signed]
    simp
    rfl
  · rename_i m
    simp only [IntKind.wrap, IntKind.bits, IntKind.signed]
    simp
    rfl
  · rfl

theorem addI_eq (a b : Int) : addI a b = a + b := by
  unfold addI; split
  · rfl
  · rfl
theorem subI_eq (a b : Int) : subI a b = a - b := by
  unfold subI; split
  · rename_i a b
    rw [cond_eq, ble_eq]
    have e1 : Nat.sub a b = a - b := rfl
    have e2 : Nat.sub (Nat.sub b a) 1 = b - a - 1 := rfl
    rw [e1, e2]
    show _ = (a : Int) - (b : Int)
    split
    · rename_i h; rw [decide_eq_true_eq] at h
      show ((a - b : Nat) : Int) = _
      omega
    · rename_i h; rw [decide_eq_true_eq] at h
      rw [Int.negSucc_eq]; omega
  · rfl
theorem mulI_eq (a b : Int) : mulI a b = a * b := by
  unfold mulI; split
  · rfl
  · rfl
theorem quoI_eq (a b : Int) : quoI a b = a.tdiv b := by
  unfold quoI; split
  · rfl
  · rfl
theorem remI_eq (a b : Int) : remI a b = a.tmod b := by
  unfold remI; split
  · rfl
  · rfl
theorem isZero_eq (a : Int) : isZero a = decide (a = 0) := by
  cases a with
  | ofNat n => simp only [isZero, beq_eq]; rw [Bool.eq_iff_iff]; simp
  | negSucc n => simp [isZero]

theorem ofInt_nat (w n : Nat) : BitVec.ofInt w (n : Int) = BitVec.ofNat w n := by
  apply BitVec.eq_of_toNat_eq
  simp

theorem bits_lt (k : IntKind) : 2 ^ (k.bits - 1) ≤ 2 ^ k.bits := Nat.pow_le_pow_right (by omega) (by omega)

theorem bitsI_eq (k : IntKind) (f : Nat → Nat → Nat) (g : BitVec k.bits → BitVec k.bits → BitVec k.bits)
    (hf : ∀ (a b : Nat), a < 2 ^ (k.bits - 1) → b < 2 ^ (k.bits - 1) → f a b < 2 ^ (k.bits - 1))
    (hg : ∀ (a b : BitVec k.bits), (g a b).toNat = f a.toNat b.toNat) (a b : Int) : bitsI k f (bvG k g) a b = bvG k g a b := by
  unfold bitsI
  split
  · rename_i a b
    rw [cond_eq]
    split
    · rename_i h
      simp only [blt_eq, Bool.and_eq_true, decide_eq_true_eq] at h
      unfold bvG
      rw [hg]
      have hb := bits_lt k
      have ea : (BitVec.ofInt k.bits (Int.ofNat a)).toNat = a := by
        rw [show Int.ofNat a = (a : Int) from rfl, ofInt_nat, BitVec.toNat_ofNat, Nat.mod_eq_of_lt (by omega)]
      have eb : (BitVec.ofInt k.bits (Int.ofNat b)).toNat = b := by
        rw [show Int.ofNat b = (b : Int) from rfl, ofInt_nat, BitVec.toNat_ofNat, Nat.mod_eq_of_lt (by omega)]
      rw [ea, eb, wrap_nonneg k _ (hf a b h.1 h.2)]
      rfl
    · rfl
  · rfl

theorem land_lt {n a b : Nat} (ha : a < 2 ^ n) : Nat.land a b < 2 ^ n := Nat.lt_of_le_of_lt Nat.and_le_left ha
theorem lor_lt {n a b : Nat} (ha : a < 2 ^ n) (hb : b < 2 ^ n) : Nat.lor a b < 2 ^ n := Nat.or_lt_two_pow ha hb
theorem xor_lt {n a b : Nat} (ha : a < 2 ^ n) (hb : b < 2 ^ n) : Nat.xor a b < 2 ^ n := Nat.xor_lt_two_pow ha hb

theorem binInt_ok {P : Program} {op : BinOp} {k : IntKind} {a b : Int} {x : SV} (h : binInt op k a b = .ok x) (t : TypeId) (w : World) :
    ∃ v, (binOp op t (.int k a) (.int k b)).run P w = .ok v w ∧ ∀ E ρ, R E ρ x v := by
  have hand := bitsI_eq k Nat.land (· &&& ·) (fun a b ha _ => land_lt ha) (fun a b => BitVec.toNat_and a b) a b
  have hor := bitsI_eq k Nat.lor (· ||| ·) (fun a b ha hb => lor_lt ha hb) (fun a b => BitVec.toNat_or a b) a b
  have hxor := bitsI_eq k Nat.xor (· ^^^ ·) (fun a b ha hb => xor_lt ha hb) (fun a b => BitVec.toNat_xor a b) a b
  cases op <;> simp only [binInt] at h
  case add => simp only [Rs.ok.injEq] at h; subst h; exact ⟨_, by simp [binOp, Op.intArith]; rfl, fun _ _ => by simp [R, wrapS_eq, addI_eq]⟩
  case sub => simp only [Rs.ok.injEq] at h; subst h; exact ⟨_, by simp [binOp, Op.intArith]; rfl, fun _ _ => by simp [R, wrapS_eq, subI_eq]⟩
  case mul => simp only [Rs.ok.injEq] at h; subst h; exact ⟨_, by simp [binOp, Op.intArith]; rfl, fun _ _ => by simp [R, wrapS_eq, mulI_eq]⟩
  case quo =>
    rw [isZero_eq] at h
    by_cases hb : b = 0
    · simp [hb] at h
    · simp only [hb, decide_false, cond_false, Rs.ok.injEq] at h; subst h; exact ⟨_, by simp [binOp, Op.intDiv, hb]; rfl, fun _ _ => by simp [R, wrapS_eq, quoI_eq]⟩
  case rem =>
    rw [isZero_eq] at h
    by_cases hb : b = 0
    · simp [hb] at h
    · simp only [hb, decide_false, cond_false, Rs.ok.injEq] at h; subst h; exact ⟨_, by simp [binOp, Op.intDiv, hb]; rfl, fun _ _ => by simp [R, remI_eq]⟩
  case and => simp only [Rs.ok.injEq] at h; subst h; exact ⟨_, by simp [binOp, Op.intBits]; rfl, fun _ _ => by simp only [R]; rw [hand]; rfl⟩
  case or => simp only [Rs.ok.injEq] at h; subst h; exact ⟨_, by simp [binOp, Op.intBits]; rfl, fun _ _ => by simp only [R]; rw [hor]; rfl⟩
  case xor => simp only [Rs.ok.injEq] at h; subst h; exact ⟨_, by simp [binOp, Op.intBits]; rfl, fun _ _ => by simp only [R]; rw [hxor]; rfl⟩
  case andNot =>
    simp only [Rs.ok.injEq] at h; subst h
    have e : binOp .andNot t (.int k a) (.int k b) = Op.intBits .andNot k a b := by simp [binOp]
    refine ⟨_, ?_, fun _ _ => rfl⟩
    rw [e]; rfl
  case shl => simp at h
  case shr => simp at h
  case eql => simp only [Rs.ok.injEq] at h; subst h; exact ⟨_, by simp [binOp, Op.intCmp]; rfl, fun _ _ => by simp [R, intEq_eq]⟩
  case neq => simp only [Rs.ok.injEq] at h; subst h; exact ⟨_, by simp [binOp, Op.intCmp]; rfl, fun _ _ => by simp [R, intEq_eq, bne]⟩
  case lss => simp only [Rs.ok.injEq] at h; subst h; exact ⟨_, by simp [binOp, Op.intCmp]; rfl, fun _ _ => by simp [R, intLt_eq]⟩
  case leq => simp only [Rs.ok.injEq] at h; subst h; exact ⟨_, by simp [binOp, Op.intCmp]; rfl, fun _ _ => by simp [R, intLe_eq]⟩
  case gtr => simp only [Rs.ok.injEq] at h; subst h; exact ⟨_, by simp [binOp, Op.intCmp]; rfl, fun _ _ => by simp [R, intLt_eq]⟩
  case geq => simp only [Rs.ok.injEq] at h; subst h; exact ⟨_, by simp [binOp, Op.intCmp]; rfl, fun _ _ => by simp [R, intLe_eq]⟩

theorem shiftS_ok {P : Program} {op : BinOp} {k yk : IntKind} {a b : Int} {x : SV} (h : shiftS op k a b = .ok x) (t : TypeId) (w : World) :
    ∃ v, (binOp op t (.int k a) (.int yk b)).run P w = .ok v w ∧ ∀ E ρ, R E ρ x v := by
  unfold shiftS at h
  split at h
  · rename_i n
    simp only [Rs.ok.injEq] at h; subst h
    refine ⟨_, by simp [binOp, Op.shift]; rfl, fun _ _ => ?_⟩
    simp only [R, wrapS_eq, mulI_eq]
    congr 2
  · rename_i n
    simp only [Rs.ok.injEq] at h; subst h
    refine ⟨_, by simp [binOp, Op.shift]; rfl, fun _ _ => ?_⟩
    simp only [R]
    congr 1
    cases a with
    | ofNat m =>
      show _ = Int.ofNat (m / 2 ^ min n k.bits)
      have : ((2 : Int) ^ min n k.bits) = ((2 ^ min n k.bits : Nat) : Int) := by simp
      rw [this]
      exact Int.fdiv_eq_ediv_of_nonneg _ (Int.natCast_nonneg _)
    | negSucc m => simp
  · simp at h

end Go.Eng
