import Derived.Test.YtjnejkmcmmablaaGreatDoorEngDefs
import Derived.Laws.Sem
import Derived.Laws.World
import Derived.Laws.Entries
import Derived.Laws.Strings
import Derived.Laws.Tables
import Derived.Laws.Rows
/-
  What an abstract value, a frame, a memory of the abstract run stand for.
-/
namespace Go.Eng
open Go.RowKit

/- Tables by numbers. -/
theorem cond_eq {α : Type} (c : Bool) (a b : α) : cond c a b = if c = true then a else b := by cases c <;> rfl

theorem Tr.get_setF {α : Type} (v : Option α) : ∀ (n : Nat) (t : Tr α) (k j : Nat), k < n → (Tr.setF v n t k).get j = if j = k then v else t.get j := by
  intro n
  induction n with
  | zero => intro t k j h; omega
  | succ n ih =>
    intro t k j h
    have e1 : ∀ q, Nat.div q 2 = q / 2 := fun _ => rfl
    have e2 : ∀ q, Nat.mod q 2 = q % 2 := fun _ => rfl
    have e3 : ∀ p q, Nat.sub p q = p - q := fun _ _ => rfl
    have e4 : ∀ p q, Nat.beq p q = decide (p = q) := fun p q => by
      rw [Bool.eq_iff_iff]; simp [Nat.beq_eq]
    have key : ∀ (u : Option α) (l r : Tr α), (Tr.setF v (n + 1) (.nd u l r) k).get j = if j = k then v else (Tr.nd u l r).get j := by
      intro u l r
      simp only [Tr.setF, cond_eq, e4, e1, e2, e3, decide_eq_true_eq]
      by_cases hk : k = 0
      · subst hk
        simp only [if_true, Tr.get, cond_eq, e4, decide_eq_true_eq]
        by_cases hj : j = 0 <;> simp [hj]
      · rw [if_neg hk]
        by_cases ho : k % 2 = 1
        · rw [if_pos ho]
          simp only [Tr.get, cond_eq, e4, e1, e2, e3, decide_eq_true_eq]
          by_cases hj : j = 0
          · simp [hj, Ne.symm hk]
          · rw [if_neg hj, if_neg hj]
            by_cases hjo : j % 2 = 1
            · rw [if_pos hjo, if_pos hjo, ih _ _ _ (by omega)]
              by_cases hjk : j = k
              · simp [hjk]
              · rw [if_neg hjk, if_neg (by omega)]
            · rw [if_neg hjo, if_neg hjo, if_neg (by omega)]
        · rw [if_neg ho]
          simp only [Tr.get, cond_eq, e4, e1, e2, e3, decide_eq_true_eq]
          by_cases hj : j = 0
          · simp [hj, Ne.symm hk]
          · rw [if_neg hj, if_neg hj]
            by_cases hjo : j % 2 = 1
            · rw [if_pos hjo, if_pos hjo, if_neg (by omega)]
            · rw [if_neg hjo, if_neg hjo, ih _ _ _ (by omega)]
              by_cases hjk : j = k
              · simp [hjk]
              · rw [if_neg hjk, if_neg (by omega)]
    cases t with
    | nd u l r => exact key u l r
    | lf =>
      have hl : Tr.setF v (n + 1) .lf k = Tr.setF v (n + 1) (.nd none .lf .lf) k := by simp [Tr.setF]
      rw [hl, key]
      by_cases hjk : j = k
      · simp [hjk]
      · simp [hjk, Tr.get]

theorem Tr.get_set {α : Type} (t : Tr α) (k j : Nat) (v : α) : (t.set k v).get j = if j = k then some v else t.get j :=
  Tr.get_setF (some v) (k + 1) t k j (by omega)

theorem Tr.get_ofListFrom {α : Type} : ∀ (l : List α) (k : Nat) (t : Tr α) (j : Nat), (Tr.ofListFrom k l t).get j = if k ≤ j ∧ j < k + l.length then l[j - k]? else t.get j
  | [], k, t, j => by simp [Tr.ofListFrom]; omega
  | x :: xs, k, t, j => by
    rw [Tr.ofListFrom, Tr.get_ofListFrom xs, Tr.get_set]
    simp only [Nat.succ_eq_add_one, List.length_cons]
    by_cases h1 : k + 1 ≤ j ∧ j < k + 1 + xs.length
    · rw [if_pos h1, if_pos (by omega)]
      obtain ⟨d, hd⟩ : ∃ d, j - k = d + 1 := ⟨j - k - 1, by omega⟩
      rw [hd, show j - (k + 1) = d from by omega]; simp
    · rw [if_neg h1]
      by_cases h2 : j = k
      · rw [if_pos h2, if_pos (by omega), h2]; simp
      · rw [if_neg h2, if_neg (by omega)]

theorem lenOf_eq {α : Type} : ∀ (l : List α) (n : Nat), lenOf l n = n + l.length
  | [], n => by simp [lenOf]
  | _ :: l, n => by rw [lenOf, lenOf_eq l]; simp; omega

/- Texts. -/
theorem length_bytesOf (l n : Nat) : (bytesOf l n).length = l := by simp [bytesOf]
theorem getElem_bytesOf (l n i : Nat) (h : i < (bytesOf l n).length) : (bytesOf l n)[i] = UInt8.ofNat (n / 256 ^ (l - 1 - i)) := by simp [bytesOf]
theorem toList_mkStr (l n : Nat) : (mkStr l n).toList = bytesOf l n := by simp [mkStr]
theorem data_mkStr (l n : Nat) : (mkStr l n).data.toList = bytesOf l n := by simp [mkStr]
theorem size_mkStr (l n : Nat) : (mkStr l n).size = l := by
  show (mkStr l n).data.size = l
  simp [mkStr, length_bytesOf]

theorem bytesOf_succ (l n : Nat) : bytesOf (l + 1) n = bytesOf l (n / 256) ++ [UInt8.ofNat n] := by
  apply List.ext_getElem
  · simp [length_bytesOf]
  · intro i h1 h2
    rw [getElem_bytesOf]
    simp only [length_bytesOf] at h1
    by_cases hi : i < l
    · rw [List.getElem_append_left (by simpa [length_bytesOf] using hi), getElem_bytesOf]
      rw [show l + 1 - 1 - i = (l - 1 - i) + 1 from by omega, Nat.pow_succ, Nat.mul_comm, Nat.div_div_eq_div_mul]
    · rw [List.getElem_append_right (by simpa [length_bytesOf] using hi)]
      have : i = l := by omega
      subst this
      simp [length_bytesOf]

theorem numOf_append (a b : List UInt8) (n : Nat) : numOf (a ++ b) n = numOf b (numOf a n) := by
  induction a generalizing n with
  | nil => rfl
  | cons x a ih => simp [numOf, ih]

theorem numOf_bytesOf : ∀ (l n : Nat), n < 256 ^ l → numOf (bytesOf l n) 0 = n
  | 0, n, h => by simp at h; simp [bytesOf, numOf, h]
  | l + 1, n, h => by
    rw [bytesOf_succ, numOf_append, numOf_bytesOf l (n / 256) (by rw [Nat.pow_succ] at h; omega)]
    simp only [numOf, UInt8.toNat_ofNat']
    show n / 256 * 256 + n % 2 ^ 8 = n
    omega

theorem numOf_lt : ∀ (a : List UInt8) (n : Nat), numOf a n < (n + 1) * 256 ^ a.length
  | [], n => by simp [numOf]
  | b :: a, n => by
    have h := numOf_lt a (n * 256 + b.toNat)
    have hb := b.toNat_lt
    simp only [numOf, List.length_cons, Nat.pow_succ]
    refine Nat.lt_of_lt_of_le h ?_
    have : n * 256 + b.toNat + 1 ≤ (n + 1) * 256 := by omega
    calc (n * 256 + b.toNat + 1) * 256 ^ a.length ≤ ((n + 1) * 256) * 256 ^ a.length := Nat.mul_le_mul_right _ this
      _ = (n + 1) * (256 ^ a.length * 256) := by rw [Nat.mul_assoc, Nat.mul_comm 256]

theorem bytesOf_numOf (a : List UInt8) : bytesOf a.length (numOf a 0) = a := by
  generalize hn : a.length = n
  induction n generalizing a with
  | zero => rw [List.length_eq_zero_iff.1 hn]; simp [bytesOf]
  | succ n ih =>
    have hne : a ≠ [] := by intro h; simp [h] at hn
    have hc : a = a.dropLast ++ [a.getLast hne] := (List.dropLast_concat_getLast hne).symm
    have hl : a.dropLast.length = n := by simp [hn]
    rw [bytesOf_succ]
    have hnum : numOf a 0 = numOf a.dropLast 0 * 256 + (a.getLast hne).toNat := by
      conv => lhs; rw [hc]
      rw [numOf_append]; rfl
    have hb := (a.getLast hne).toNat_lt
    rw [hnum, show (numOf a.dropLast 0 * 256 + (a.getLast hne).toNat) / 256 = numOf a.dropLast 0 from by omega, ih _ hl]
    conv => rhs; rw [hc]
    congr 2
    apply UInt8.toNat_inj.1
    simp only [UInt8.toNat_ofNat']
    omega

theorem bytesOf_inj {l n l' n' : Nat} (h : n < 256 ^ l) (h' : n' < 256 ^ l') (e : bytesOf l n = bytesOf l' n') : l = l' ∧ n = n' := by
  have hl : l = l' := by rw [← length_bytesOf l n, ← length_bytesOf l' n', e]
  subst hl
  exact ⟨rfl, by rw [← numOf_bytesOf l n h, ← numOf_bytesOf l n' h', e]⟩

theorem bytesOf_cat (l n l' n' : Nat) (h' : n' < 256 ^ l') : bytesOf (l + l') (n * 256 ^ l' + n') = bytesOf l n ++ bytesOf l' n' := by
  induction l' generalizing n' with
  | zero => simp at h'; subst h'; simp [bytesOf]
  | succ k ih =>
    rw [show l + (k + 1) = (l + k) + 1 from rfl, bytesOf_succ, bytesOf_succ, ← List.append_assoc]
    have e1 : (n * 256 ^ (k + 1) + n') / 256 = n * 256 ^ k + n' / 256 := by
      rw [Nat.pow_succ, ← Nat.mul_assoc]; omega
    rw [e1, ih (n' / 256) (by rw [Nat.pow_succ] at h'; omega)]
    congr 2
    apply UInt8.toNat_inj.1
    simp only [UInt8.toNat_ofNat']
    rw [Nat.pow_succ, ← Nat.mul_assoc]
    omega

theorem cat_lt {l n l' n' : Nat} (h : n < 256 ^ l) (h' : n' < 256 ^ l') : n * 256 ^ l' + n' < 256 ^ (l + l') := by
  rw [Nat.pow_add]
  calc n * 256 ^ l' + n' < n * 256 ^ l' + 256 ^ l' := by omega
    _ = (n + 1) * 256 ^ l' := by rw [Nat.add_mul, Nat.one_mul]
    _ ≤ 256 ^ l * 256 ^ l' := Nat.mul_le_mul_right _ h

theorem mkStr_cat (l n l' n' : Nat) (h' : n' < 256 ^ l') : mkStr (l + l') (n * 256 ^ l' + n') = mkStr l n ++ mkStr l' n' := by
  apply ByteArray.ext
  show _ = (mkStr l n ++ mkStr l' n').data
  rw [ByteArray.data_append]
  simp [mkStr, bytesOf_cat l n l' n' h']

theorem strAt_eq (l n i : Nat) (hi : i < l) : ((mkStr l n)[i]?).map (·.toNat) = some (strAt l n i) := by
  have hs := size_mkStr l n
  rw [getElem?_pos (mkStr l n) i (by omega)]
  simp only [Option.map_some]
  congr 1
  have : (mkStr l n)[i]'(by omega) = (bytesOf l n)[i]'(by rw [length_bytesOf]; exact hi) := by
    show (mkStr l n).data[i]'_ = _
    simp [mkStr]
  rw [this, getElem_bytesOf]
  simp only [UInt8.toNat_ofNat']
  rfl

theorem bytesOf_cut (l n lo hi : Nat) (h1 : lo ≤ hi) (h2 : hi ≤ l) :
    bytesOf (hi - lo) (n / 256 ^ (l - hi) % 256 ^ (hi - lo)) = ((bytesOf l n).take hi).drop lo := by
  apply List.ext_getElem
  · simp [length_bytesOf]; omega
  · intro i g1 g2
    rw [length_bytesOf] at g1
    rw [getElem_bytesOf, List.getElem_drop, List.getElem_take, getElem_bytesOf]
    apply UInt8.toNat_inj.1
    simp only [UInt8.toNat_ofNat']
    have e : 256 ^ (hi - lo) = 256 ^ (hi - lo - 1 - i) * 256 ^ (i + 1) := by rw [← Nat.pow_add]; congr 1; omega
    rw [e, Nat.mod_mul_right_div_self, Nat.div_div_eq_div_mul, ← Nat.pow_add, show l - hi + (hi - lo - 1 - i) = l - 1 - (lo + i) from by omega]
    rw [Nat.pow_succ]
    show _ % (256 ^ i * 256) % 256 = _ % 256
    rw [Nat.mod_mul_left_mod]

theorem extract_mkStr (l n lo hi : Nat) (h1 : lo ≤ hi) (h2 : hi ≤ l) : (mkStr l n).extract lo hi = mkStr (hi - lo) (n / 256 ^ (l - hi) % 256 ^ (hi - lo)) := by
  apply ByteArray.ext
  rw [ByteArray.data_extract]
  apply Array.toList_inj.1
  rw [Array.toList_extract]
  simp only [mkStr, bytesOf_cut l n lo hi h1 h2]
  rw [List.extract_eq_take_drop]
  rw [List.drop_take]

/- Values. -/
structure Loc where
  blk : Nat
  off : Nat
  cap : Nat
  es : Nat

abbrev Env := Nat → Option Loc

mutual
def R (E : Env) (ρ : Nat → Value) : SV → Value → Prop
  | .bool b, v => v = .bool b
  | .int k n, v => v = .int k n
  | .str l n, v => n < 256 ^ l ∧ v = .string (mkStr l n)
  | .nilp, v => v = .pointer none
  | .ptr id off, v => ∃ L, E id = some L ∧ v = .pointer (some ⟨L.blk, L.off + off, none⟩)
  | .gptr b off, v => v = .pointer (some ⟨b, off, none⟩)
  | .nils, v => v = .slice none 0 0
  | .sl id off len cap, v => ∃ L c, E id = some L ∧ v = .slice (some ⟨L.blk, L.off + off, none⟩) len c ∧ (match cap with | some c' => c = c' | none => off ≤ L.cap ∧ c * L.es = L.cap - off)
  | .sle, v => ∃ a c, v = .slice (some a) 0 c
  | .nilm, v => v = .map none
  | .mp id, v => ∃ L, E id = some L ∧ v = .map (some L.blk)
  | .fn f a c, v => ∃ a' c', Rs' E ρ a a' ∧ Rs' E ρ c c' ∧ v = .func f ⟨a'⟩ ⟨c'⟩
  | .nilf, v => v = .nilFunc
  | .ifc t x, v => ∃ x', R E ρ x x' ∧ v = .iface t x'
  | .nili, v => v = .nilIface
  | .agg cs, v => ∃ cs', Rs' E ρ cs cs' ∧ v = .agg ⟨cs'⟩
  | .tup cs, v => ∃ cs', Rs' E ρ cs cs' ∧ v = .tuple ⟨cs'⟩
  | .op i, v => v = ρ i
  | .any, _ => True
def Rs' (E : Env) (ρ : Nat → Value) : List SV → List Value → Prop
  | [], vs => vs = []
  | x :: xs, vs => ∃ v vs', R E ρ x v ∧ Rs' E ρ xs vs' ∧ vs = v :: vs'
end

/-- E' says of all numbers below n what E says. -/
def Agree (n : Nat) (E E' : Env) : Prop := ∀ id, id < n → E' id = E id
/-- E' says all that E says. -/
def Env.le (E E' : Env) : Prop := ∀ id L, E id = some L → E' id = some L

theorem Env.le_refl (E : Env) : E.le E := fun _ _ h => h
theorem Env.le_trans {A B C : Env} (h : A.le B) (k : B.le C) : A.le C := fun _ _ e => k _ _ (h _ _ e)

mutual
theorem R.mono {E E' : Env} {ρ : Nat → Value} (h : E.le E') : ∀ (x : SV) (v : Value), R E ρ x v → R E' ρ x v
  | .bool _, _, r | .int _ _, _, r | .str _ _, _, r | .nilp, _, r | .gptr _ _, _, r | .nils, _, r | .sle, _, r | .nilm, _, r | .nilf, _, r | .nili, _, r | .op _, _, r => by simpa [R] using r
  | .any, _, _ => by simp [R]
  | .ptr _ _, _, r => by simp only [R] at r ⊢; obtain ⟨L, e, hv⟩ := r; exact ⟨L, h _ _ e, hv⟩
  | .sl _ _ _ _, _, r => by simp only [R] at r ⊢; obtain ⟨L, c, e, hv⟩ := r; exact ⟨L, c, h _ _ e, hv⟩
  | .mp _, _, r => by simp only [R] at r ⊢; obtain ⟨L, e, hv⟩ := r; exact ⟨L, h _ _ e, hv⟩
  | .fn _ a c, _, r => by simp only [R] at r ⊢; obtain ⟨a', c', ha, hc, hv⟩ := r; exact ⟨a', c', Rs'.mono h a a' ha, Rs'.mono h c c' hc, hv⟩
  | .ifc _ x, _, r => by simp only [R] at r ⊢; obtain ⟨x', hx, hv⟩ := r; exact ⟨x', R.mono h x x' hx, hv⟩
  | .agg cs, _, r => by simp only [R] at r ⊢; obtain ⟨x', hx, hv⟩ := r; exact ⟨x', Rs'.mono h cs x' hx, hv⟩
  | .tup cs, _, r => by simp only [R] at r ⊢; obtain ⟨x', hx, hv⟩ := r; exact ⟨x', Rs'.mono h cs x' hx, hv⟩
theorem Rs'.mono {E E' : Env} {ρ : Nat → Value} (h : E.le E') : ∀ (xs : List SV) (vs : List Value), Rs' E ρ xs vs → Rs' E' ρ xs vs
  | [], _, r => by simpa [Rs'] using r
  | x :: xs, _, r => by simp only [Rs'] at r ⊢; obtain ⟨v, vs', hv, hvs, e⟩ := r; exact ⟨v, vs', R.mono h x v hv, Rs'.mono h xs vs' hvs, e⟩
end

variable {E E' : Env} {ρ : Nat → Value}

theorem Rs'.length : ∀ {xs : List SV} {vs : List Value}, Rs' E ρ xs vs → vs.length = xs.length
  | [], _, r => by simp only [Rs'] at r; simp [r]
  | _ :: _, _, r => by
    simp only [Rs'] at r; obtain ⟨v, vs', _, hvs, rfl⟩ := r
    simp [Rs'.length hvs]

theorem Rs'.append : ∀ {xs ys : List SV} {vs us : List Value}, Rs' E ρ xs vs → Rs' E ρ ys us → Rs' E ρ (xs ++ ys) (vs ++ us)
  | [], _, _, _, r, k => by simp only [Rs'] at r; subst r; simpa using k
  | _ :: _, _, _, _, r, k => by
    simp only [Rs'] at r; obtain ⟨v, vs', hv, hvs, rfl⟩ := r
    simp only [List.cons_append, Rs']
    exact ⟨v, _, hv, Rs'.append hvs k, rfl⟩

theorem Rs'.get : ∀ {xs : List SV} {vs : List Value}, Rs' E ρ xs vs → ∀ (i : Nat) (x : SV), xs[i]? = some x → ∃ v, vs[i]? = some v ∧ R E ρ x v
  | [], _, _, _, _, h => by simp at h
  | _ :: _, _, r, i, x, h => by
    simp only [Rs'] at r; obtain ⟨v, vs', hv, hvs, rfl⟩ := r
    cases i with
    | zero => simp at h; subst h; exact ⟨v, by simp, hv⟩
    | succ i => simpa using Rs'.get hvs i x (by simpa using h)

theorem Rs'.of_get : ∀ {xs : List SV} {vs : List Value}, vs.length = xs.length → (∀ (i : Nat) (x : SV), xs[i]? = some x → ∃ v, vs[i]? = some v ∧ R E ρ x v) → Rs' E ρ xs vs
  | [], vs, hl, _ => by simp only [Rs']; exact List.length_eq_zero_iff.1 (by simpa using hl)
  | x :: xs, [], hl, _ => by simp at hl
  | x :: xs, v :: vs, hl, h => by
    obtain ⟨u, hu, hr⟩ := h 0 x (by simp)
    simp at hu; subst hu
    exact ⟨v, vs, hr, Rs'.of_get (by simpa using hl) (fun i y hy => by simpa using h (i + 1) y (by simpa using hy)), rfl⟩

theorem Rs'.take {xs : List SV} {vs : List Value} (h : Rs' E ρ xs vs) (n : Nat) : Rs' E ρ (xs.take n) (vs.take n) := by
  have hl := h.length
  refine Rs'.of_get (by simp [hl]) fun i x hx => ?_
  rw [List.getElem?_take] at hx
  split at hx
  · rename_i hi
    obtain ⟨v, hv, hr⟩ := h.get i x hx
    exact ⟨v, by rw [List.getElem?_take, if_pos hi]; exact hv, hr⟩
  · simp at hx
theorem Rs'.drop {xs : List SV} {vs : List Value} (h : Rs' E ρ xs vs) (n : Nat) : Rs' E ρ (xs.drop n) (vs.drop n) := by
  have hl := h.length
  refine Rs'.of_get (by simp [hl]) fun i x hx => ?_
  rw [List.getElem?_drop] at hx ⊢
  exact h.get _ x hx

theorem Rs'.cons {x : SV} {v : Value} {xs : List SV} {vs : List Value} (h : R E ρ x v) (hs : Rs' E ρ xs vs) : Rs' E ρ (x :: xs) (v :: vs) := ⟨v, vs, h, hs, rfl⟩
theorem Rs'.nil : Rs' E ρ [] [] := rfl

/-- The cells of a value. -/
theorem R.cells {x : SV} {v : Value} (h : R E ρ x v) (ho : x = .any ∨ (∃ i, x = .op i) → v.cells = #[v]) : Rs' E ρ x.cells v.cells.toList := by
  cases x with
  | agg cs => simp only [R] at h; obtain ⟨cs', hc, rfl⟩ := h; exact hc
  | any => rw [ho (.inl rfl)]; exact Rs'.cons h Rs'.nil
  | op i => rw [ho (.inr ⟨i, rfl⟩)]; exact Rs'.cons h Rs'.nil
  | _ =>
    have : v.cells = #[v] := by
      simp only [R] at h
      first
        | (subst h; rfl)
        | (obtain ⟨_, rfl⟩ := h; rfl)
        | (obtain ⟨_, _, rfl⟩ := h; rfl)
        | (obtain ⟨_, _, _, rfl⟩ := h; rfl)
        | (obtain ⟨_, _, _, rfl, _⟩ := h; rfl)
        | (obtain ⟨_, _, _, _, rfl⟩ := h; rfl)
    rw [this]
    exact Rs'.cons h Rs'.nil

/- Closed values. -/
mutual
theorem ofValue_R {E : Env} {ρ : Nat → Value} : ∀ (v : Value) (x : SV), ofValue v = .ok x → R E ρ x v
  | .bool b, x, h => by simp only [ofValue, Rs.ok.injEq] at h; subst h; simp [R]
  | .int k n, x, h => by simp only [ofValue, Rs.ok.injEq] at h; subst h; simp [R]
  | .string s, x, h => by
    simp only [ofValue, Rs.ok.injEq] at h; subst h
    simp only [R, lenOf_eq, Nat.zero_add]
    refine ⟨by have := numOf_lt s.data.toList 0; simpa using this, ?_⟩
    congr 1
    apply ByteArray.ext
    apply Array.toList_inj.1
    rw [data_mkStr, bytesOf_numOf]
  | .pointer none, x, h => by simp only [ofValue, Rs.ok.injEq] at h; subst h; simp [R]
  | .pointer (some _), x, h => by simp [ofValue] at h
  | .slice none 0 0, x, h => by simp only [ofValue, Rs.ok.injEq] at h; subst h; simp [R]
  | .slice none 0 (c + 1), x, h => by simp [ofValue] at h
  | .slice none (n + 1) _, x, h => by simp [ofValue] at h
  | .slice (some _) _ _, x, h => by simp [ofValue] at h
  | .map none, x, h => by simp only [ofValue, Rs.ok.injEq] at h; subst h; simp [R]
  | .map (some _), x, h => by simp [ofValue] at h
  | .nilFunc, x, h => by simp only [ofValue, Rs.ok.injEq] at h; subst h; simp [R]
  | .nilIface, x, h => by simp only [ofValue, Rs.ok.injEq] at h; subst h; simp [R]
  | .agg ⟨cs⟩, x, h => by
    simp only [ofValue] at h
    cases hc : ofValues cs with
    | er a b => rw [hc] at h; simp [Rs.bind] at h
    | ok l => rw [hc] at h; simp only [Rs.bind, Rs.ok.injEq] at h; subst h; simp only [R]; exact ⟨cs, ofValues_R cs l hc, rfl⟩
  | .tuple ⟨cs⟩, x, h => by
    simp only [ofValue] at h
    cases hc : ofValues cs with
    | er a b => rw [hc] at h; simp [Rs.bind] at h
    | ok l => rw [hc] at h; simp only [Rs.bind, Rs.ok.injEq] at h; subst h; simp only [R]; exact ⟨cs, ofValues_R cs l hc, rfl⟩
  | .float _ _, x, h => by simp [ofValue] at h
  | .complex _ _ _, x, h => by simp [ofValue] at h
  | .chan _, x, h => by simp [ofValue] at h
  | .func _ _ _, x, h => by simp [ofValue] at h
  | .iface _ _, x, h => by simp [ofValue] at h
theorem ofValues_R {E : Env} {ρ : Nat → Value} : ∀ (vs : List Value) (xs : List SV), ofValues vs = .ok xs → Rs' E ρ xs vs
  | [], xs, h => by simp only [ofValues, Rs.ok.injEq] at h; subst h; exact Rs'.nil
  | v :: vs, xs, h => by
    simp only [ofValues] at h
    cases hv : ofValue v with
    | er a b => rw [hv] at h; simp [Rs.bind] at h
    | ok x =>
      cases hvs : ofValues vs with
      | er a b => rw [hv, hvs] at h; simp [Rs.bind] at h
      | ok l =>
        rw [hv, hvs] at h; simp only [Rs.bind, Rs.ok.injEq] at h; subst h
        exact Rs'.cons (ofValue_R v x hv) (ofValues_R vs l hvs)
end

theorem Rs.bind_ok {α β : Type} {x : Rs α} {f : α → Rs β} {b : β} (h : x.bind f = .ok b) : ∃ a, x = .ok a ∧ f a = .ok b := by
  cases x with
  | ok a => exact ⟨a, rfl, h⟩
  | er s v => simp [Rs.bind] at h

theorem cond_ok {α : Type} {c : Bool} {x : Rs α} {s : String} {v : List SV} {a : α} (h : cond c x (.er s v) = .ok a) : c = true ∧ x = .ok a := by
  cases c with
  | true => exact ⟨rfl, h⟩
  | false => simp at h

/- Equality. -/
theorem kindEq_eq {a b : IntKind} (h : kindEq a b = true) : a = b := by cases a <;> cases b <;> first | rfl | (simp [kindEq] at h)
theorem kindEq_refl (a : IntKind) : kindEq a a = true := by cases a <;> rfl
theorem beq_eq {a b : Nat} : Nat.beq a b = decide (a = b) := by rw [Bool.eq_iff_iff]; simp [Nat.beq_eq]
theorem ble_eq {a b : Nat} : Nat.ble a b = decide (a ≤ b) := by rw [Bool.eq_iff_iff]; simp [Nat.ble_eq]
theorem blt_eq {a b : Nat} : Nat.blt a b = decide (a < b) := by rw [Bool.eq_iff_iff]; simp [Nat.blt_eq]
theorem intEq_eq (a b : Int) : intEq a b = (a == b) := by
  cases a <;> cases b <;> simp only [intEq, beq_eq] <;> rw [Bool.eq_iff_iff] <;> simp <;> omega
theorem intLe_eq (a b : Int) : intLe a b = decide (a ≤ b) := by
  cases a <;> cases b <;> simp only [intLe, ble_eq] <;> rw [Bool.eq_iff_iff] <;> simp <;> omega
theorem intLt_eq (a b : Int) : intLt a b = decide (a < b) := by
  rw [intLt, intLe_eq, Bool.eq_iff_iff]; simp

mutual
theorem SV.beq_sound : ∀ (a b : SV), SV.beq a b = true → a = b
  | .bool a, b, h => by cases b <;> simp [SV.beq] at h; rename_i b; cases a <;> cases b <;> simp_all
  | .int k n, b, h => by
    cases b <;> simp [SV.beq] at h
    rw [intEq_eq] at h; simp at h
    rw [kindEq_eq h.1, h.2]
  | .str l n, b, h => by cases b <;> simp [SV.beq, beq_eq] at h; rw [h.1, h.2]
  | .nilp, b, h => by cases b <;> simp [SV.beq] at h; rfl
  | .nils, b, h => by cases b <;> simp [SV.beq] at h; rfl
  | .nilm, b, h => by cases b <;> simp [SV.beq] at h; rfl
  | .nilf, b, h => by cases b <;> simp [SV.beq] at h; rfl
  | .nili, b, h => by cases b <;> simp [SV.beq] at h; rfl
  | .sle, b, h => by cases b <;> simp [SV.beq] at h
  | .any, b, h => by cases b <;> simp [SV.beq] at h
  | .ptr l n, b, h => by cases b <;> simp [SV.beq, beq_eq] at h; rw [h.1, h.2]
  | .gptr l n, b, h => by cases b <;> simp [SV.beq, beq_eq] at h; rw [h.1, h.2]
  | .sl i o l none, b, h => by
    cases b <;> try (simp [SV.beq] at h; done)
    rename_i i' o' l' c'
    cases c' <;> simp [SV.beq, beq_eq] at h
    obtain ⟨⟨rfl, rfl⟩, rfl⟩ := h; rfl
  | .sl i o l (some c), b, h => by
    cases b <;> try (simp [SV.beq] at h; done)
    rename_i i' o' l' c'
    cases c' <;> simp [SV.beq, beq_eq] at h
    obtain ⟨⟨⟨rfl, rfl⟩, rfl⟩, rfl⟩ := h; rfl
  | .mp i, b, h => by cases b <;> simp [SV.beq, beq_eq] at h; rw [h]
  | .op i, b, h => by cases b <;> simp [SV.beq, beq_eq] at h; rw [h]
  | .fn f a c, b, h => by
    cases b <;> try (simp [SV.beq] at h; done)
    rename_i f' a' c'
    cases f <;> cases f' <;> simp [SV.beq, beq_eq] at h
    obtain ⟨⟨rfl, h1⟩, h2⟩ := h
    rw [SV.beqs_sound a a' h1, SV.beqs_sound c c' h2]
  | .ifc t v, b, h => by
    cases b <;> try (simp [SV.beq] at h; done)
    rename_i t' v'
    simp [SV.beq, beq_eq] at h
    rw [h.1, SV.beq_sound v v' h.2]
  | .agg a, b, h => by
    cases b <;> try (simp [SV.beq] at h; done)
    rename_i a'
    simp [SV.beq] at h
    rw [SV.beqs_sound a a' h]
  | .tup a, b, h => by
    cases b <;> try (simp [SV.beq] at h; done)
    rename_i a'
    simp [SV.beq] at h
    rw [SV.beqs_sound a a' h]
theorem SV.beqs_sound : ∀ (a b : List SV), SV.beqs a b = true → a = b
  | [], [], _ => rfl
  | [], _ :: _, h => by simp [SV.beqs] at h
  | _ :: _, [], h => by simp [SV.beqs] at h
  | x :: xs, y :: ys, h => by
    simp [SV.beqs] at h
    rw [SV.beq_sound x y h.1, SV.beqs_sound xs ys h.2]
end

/- Frames. -/
def RD (E : Env) (ρ : Nat → Value) (d : SD) (d' : Deferred) : Prop := ∃ cs as, d'.target = .fn d.fn ⟨cs⟩ ∧ d'.args = ⟨as⟩ ∧ Rs' E ρ d.captured cs ∧ Rs' E ρ d.args as
def RDs (E : Env) (ρ : Nat → Value) : List SD → List Deferred → Prop
  | [], ds => ds = []
  | d :: ds, es => ∃ e es', RD E ρ d e ∧ RDs E ρ ds es' ∧ es = e :: es'

theorem RD.mono {E E' : Env} {ρ : Nat → Value} (h : E.le E') {d : SD} {d' : Deferred} (r : RD E ρ d d') : RD E' ρ d d' := by
  obtain ⟨cs, as, h1, h2, h3, h4⟩ := r
  exact ⟨cs, as, h1, h2, Rs'.mono h _ _ h3, Rs'.mono h _ _ h4⟩
theorem RDs.mono {E E' : Env} {ρ : Nat → Value} (h : E.le E') : ∀ {ds : List SD} {es : List Deferred}, RDs E ρ ds es → RDs E' ρ ds es
  | [], _, r => r
  | _ :: _, _, ⟨e, es', r, rs, hh⟩ => ⟨e, es', r.mono h, RDs.mono h rs, hh⟩

structure RF (E : Env) (ρ : Nat → Value) (s : FS) (a : Act) : Prop where
  size : a.tmps.size = s.sz
  tmps : ∀ t, R E ρ (s.get t) (a.tmps.getD t undef)
  defers : RDs E ρ s.df a.defers

theorem RF.mono {E E' : Env} {ρ : Nat → Value} (h : E.le E') {s : FS} {a : Act} (r : RF E ρ s a) : RF E' ρ s a :=
  ⟨r.size, fun t => R.mono h _ _ (r.tmps t), r.defers.mono h⟩

theorem FS.get_set (s : FS) (d t : Nat) (v : SV) : FS.get { s with tm := s.tm.set d v } t = if t = d then v else s.get t := by
  simp only [FS.get, Tr.get_set]
  by_cases h : t = d <;> simp [h]

theorem RF.put {E : Env} {ρ : Nat → Value} {s s' : FS} {a : Act} (r : RF E ρ s a) {d : Option Tmp} {x : SV} {v : Value} (hx : R E ρ x v) (h : s.put d x = .ok s') : RF E ρ s' (a.put d v) := by
  cases d with
  | none => simp only [FS.put, Rs.ok.injEq] at h; subst h; exact r
  | some d =>
    simp only [FS.put] at h
    obtain ⟨hlt, h⟩ := cond_ok h
    simp only [Rs.ok.injEq] at h; subst h
    rw [blt_eq, decide_eq_true_eq] at hlt
    refine ⟨by simp [Act.put, r.size], fun t => ?_, r.defers⟩
    rw [FS.get_set]
    simp only [Act.put]
    by_cases ht : t = d
    · subst ht
      rw [if_pos rfl]
      have : (a.tmps.setIfInBounds t v).getD t undef = v := by simp [Array.getD, r.size, hlt]
      rw [this]; exact hx
    · rw [if_neg ht]
      have : (a.tmps.setIfInBounds d v).getD t undef = a.tmps.getD t undef := by
        simp only [Array.getD_eq_getD_getElem?]
        rw [Array.getElem?_setIfInBounds_ne (fun e => ht e.symm)]
      rw [this]; exact r.tmps t

theorem RF.ev {E : Env} {ρ : Nat → Value} {s : FS} {a : Act} (r : RF E ρ s a) {x : Operand} {v : SV} (h : s.ev x = .ok v) : R E ρ v (a.eval x) := by
  cases x with
  | tmp t => simp only [FS.ev, Rs.ok.injEq] at h; subst h; exact r.tmps t
  | const c => exact ofValue_R c v h
  | global g => simp only [FS.ev, Rs.ok.injEq] at h; subst h; simp [R, Act.eval]
  | func f => simp only [FS.ev, Rs.ok.injEq] at h; subst h; simp [R, Rs', Act.eval]

/- Memory. -/
def FzOk (fz : Fz) (fr : Nat × Nat) (L : Loc) (size : Nat) : Prop := match fz with
  | .no => fr.1 = fr.2
  | .below k => fr.1 = fr.2 ∨ fr.2 ≤ L.off + k
  | .behind => fr.1 = fr.2 ∨ size ≤ fr.1
  | .some => True

def REnts (E : Env) (ρ : Nat → Value) : List Ent → List MapEntry → Prop
  | [], es => es = []
  | e :: es, fs => ∃ f fs', R E ρ e.key f.key ∧ R E ρ e.val f.val ∧ f.born = e.born ∧ REnts E ρ es fs' ∧ fs = f :: fs'

theorem REnts.mono {E E' : Env} {ρ : Nat → Value} (h : E.le E') : ∀ {es : List Ent} {fs : List MapEntry}, REnts E ρ es fs → REnts E' ρ es fs
  | [], _, r => r
  | _ :: _, _, ⟨f, fs', h1, h2, h3, h4, h5⟩ => ⟨f, fs', R.mono h _ _ h1, R.mono h _ _ h2, h3, REnts.mono h h4, h5⟩

theorem REnts.length {E : Env} {ρ : Nat → Value} : ∀ {es : List Ent} {fs : List MapEntry}, REnts E ρ es fs → fs.length = es.length
  | [], _, r => by simp only [REnts] at r; simp [r]
  | _ :: _, _, r => by
    simp only [REnts] at r
    obtain ⟨_, _, _, _, _, h4, rfl⟩ := r
    simp [REnts.length h4]

def RO (P : Program) (E : Env) (ρ : Nat → Value) (L : Loc) (w : World) : SO → Prop
  | .row e n cells exact fz => ∃ c fr, w.heap[L.blk]? = some (.cells c e fr) ∧ L.off + L.cap = c.size ∧ n ≤ L.cap ∧ (exact = true → n = L.cap ∧ L.off = 0) ∧
      (∀ i, i < n → ∃ x v, cells.get i = some x ∧ c[L.off + i]? = some v ∧ R E ρ x v ∧ v.oneCell' = true) ∧ FzOk fz fr L c.size ∧ L.es = P.cellsOf e
  | .map es clock => ∃ fs, w.heap[L.blk]? = some (.map ⟨fs⟩ clock) ∧ REnts E ρ es fs
  | .sit l n pos => n < 256 ^ l ∧ w.heap[L.blk]? = some (.stringIter (mkStr l n) pos)
  | .dead => True

def SO.live : SO → Bool
  | .dead => false
  | _ => true

structure RM (P : Program) (ρ : Nat → Value) (w0 : World) (E : Env) (m : Mem) (w : World) : Prop where
  below : Below w0.heap.size w0 w
  ids : ∀ id L, E id = some L → id < m.nx ∧ w0.heap.size ≤ L.blk ∧ L.blk < w.heap.size
  rows : ∀ id o L, m.hp.get id = some o → E id = some L → RO P E ρ L w o
  apart : ∀ i j oi oj Li Lj, i ≠ j → m.hp.get i = some oi → m.hp.get j = some oj → oi.live = true → oj.live = true → E i = some Li → E j = some Lj → Li.blk ≠ Lj.blk

end Go.Eng
