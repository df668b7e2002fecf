import Derived.Test.YtjnejkmcmmablaaGreatDoorEngNum
/-
  Values that are built of parts.
-/
namespace Go.Eng

theorem fillNow_get : ∀ (cs new : List SV) (k : Nat), new.length ≤ cs.length → (fillAt.fillNow cs new)[k]? = if k < new.length then new[k]? else cs[k]?
  | cs, [], k, _ => by cases cs <;> simp [fillAt.fillNow]
  | [], v :: vs, k, h => by simp at h
  | c :: cs, v :: vs, k, h => by
    simp only [fillAt.fillNow]
    cases k with
    | zero => simp
    | succ k =>
      simp only [List.getElem?_cons_succ, List.length_cons, Nat.add_lt_add_iff_right]
      exact fillNow_get cs vs k (by simpa using h)

theorem fillAt_get : ∀ (cs : List SV) (off : Nat) (new : List SV) (k : Nat), off + new.length ≤ cs.length →
    (fillAt cs off new)[k]? = if off ≤ k ∧ k < off + new.length then new[k - off]? else cs[k]?
  | cs, 0, new, k, h => by
    have e : fillAt cs 0 new = fillAt.fillNow cs new := by cases cs <;> rfl
    rw [e, fillNow_get cs new k (by omega)]
    simp
  | [], off + 1, new, k, h => by simp at h
  | c :: cs, off + 1, new, k, h => by
    simp only [fillAt]
    cases k with
    | zero => simp
    | succ k =>
      simp only [List.getElem?_cons_succ]
      rw [fillAt_get cs off new k (by simp at h; omega)]
      by_cases hk : off ≤ k ∧ k < off + new.length
      · rw [if_pos hk, if_pos (by omega)]; congr 1; omega
      · rw [if_neg hk, if_neg (by omega)]

theorem foldl_set (vs : List Value) : ∀ (j off : Nat) (arr : Array Value) (k : Nat), off + j + vs.length ≤ arr.size →
    ((vs.zipIdx j).foldl (fun cs (x : Value × Nat) => cs.setIfInBounds (off + x.2) x.1) arr)[k]? = if off + j ≤ k ∧ k < off + j + vs.length then vs[k - (off + j)]? else arr[k]? := by
  induction vs with
  | nil => intro j off arr k h; simp; omega
  | cons v vs ih =>
    intro j off arr k h
    simp only [List.zipIdx_cons, List.foldl_cons]
    rw [ih (j + 1) off _ k (by simp at h ⊢; omega)]
    simp only [List.length_cons] at h ⊢
    by_cases h1 : off + (j + 1) ≤ k ∧ k < off + (j + 1) + vs.length
    · rw [if_pos h1, if_pos (by omega)]
      obtain ⟨d, hd⟩ : ∃ d, k - (off + j) = d + 1 := ⟨k - (off + j) - 1, by omega⟩
      rw [hd, show k - (off + (j + 1)) = d from by omega]; simp
    · rw [if_neg h1, Array.getElem?_setIfInBounds]
      by_cases h2 : off + j = k
      · subst h2
        rw [if_pos rfl, if_pos (by omega), if_pos (by omega)]; simp
      · rw [if_neg h2, if_neg (by omega)]

theorem foldl_set_size (vs : List (Value × Nat)) (off : Nat) : ∀ (arr : Array Value), (vs.foldl (fun cs (x : Value × Nat) => cs.setIfInBounds (off + x.2) x.1) arr).size = arr.size := by
  induction vs with
  | nil => intro arr; rfl
  | cons v vs ih => intro arr; simp [ih]

theorem fillAt_length : ∀ (cs : List SV) (off : Nat) (new : List SV), off + new.length ≤ cs.length → (fillAt cs off new).length = cs.length := by
  intro cs off new h
  have h1 : ∀ k : Nat, (fillAt cs off new)[k]? = none ↔ cs[k]? = none := by
    intro k
    rw [fillAt_get cs off new k h]
    split
    · rename_i hk
      simp; omega
    · rfl
  apply Nat.le_antisymm
  · have := (h1 cs.length).2 (by simp); simpa using this
  · have := (h1 (fillAt cs off new).length).1 (by simp); simpa using this

variable {E : Env} {ρ : Nat → Value}

/-- One part laid. -/
theorem fill_one {cs new : List SV} {arr : Array Value} {vs : List Value} (hc : Rs' E ρ cs arr.toList) (hn : Rs' E ρ new vs) (off : Nat) (h : off + new.length ≤ cs.length) :
    Rs' E ρ (fillAt cs off new) (vs.toArray.zipIdx.foldl (fun cs (x : Value × Nat) => cs.setIfInBounds (off + x.2) x.1) arr).toList := by
  have hl := hc.length
  have hl2 := hn.length
  have e : vs.toArray.zipIdx.foldl (fun cs (x : Value × Nat) => cs.setIfInBounds (off + x.2) x.1) arr = (vs.zipIdx 0).foldl (fun cs (x : Value × Nat) => cs.setIfInBounds (off + x.2) x.1) arr := by
    rw [← Array.foldl_toList]; simp
  rw [e]
  have hsz : off + 0 + vs.length ≤ arr.size := by rw [hl2]; simp at hl; omega
  refine Rs'.of_get ?_ fun k x hx => ?_
  · rw [fillAt_length cs off new h, Array.length_toList, foldl_set_size]; simpa using hl
  · rw [fillAt_get cs off new k h] at hx
    rw [Array.getElem?_toList, foldl_set vs 0 off arr k hsz]
    by_cases hk : off ≤ k ∧ k < off + new.length
    · rw [if_pos hk] at hx
      rw [if_pos (by omega)]
      obtain ⟨v, hv, hr⟩ := hn.get _ x hx
      exact ⟨v, by simpa using hv, hr⟩
    · rw [if_neg hk] at hx
      rw [if_neg (by omega)]
      obtain ⟨v, hv, hr⟩ := hc.get _ x hx
      exact ⟨v, by simpa using hv, hr⟩

/-- Parts, by their numbers. -/
def RPs (E : Env) (ρ : Nat → Value) : List (Nat × SV) → List (Nat × Value) → Prop
  | [], vs => vs = []
  | (i, x) :: xs, vs => ∃ v vs', R E ρ x v ∧ RPs E ρ xs vs' ∧ vs = (i, v) :: vs'

/-- Every value that is no tuple has cells. -/
theorem R.cells' {x : SV} {v : Value} (h : R E ρ x v) {n : Nat} (hn : lenOf x.cells 0 = n) (ho : x = .any → False) (h1 : ∀ i, (ρ i).oneCell' = true) : Rs' E ρ x.cells v.cells.toList ∧ v.cells.size = n := by
  have hc : Rs' E ρ x.cells v.cells.toList := R.cells h (fun hx => by
    rcases hx with hx | ⟨i, rfl⟩
    · exact (ho hx).elim
    · simp only [R] at h; subst h
      have := h1 i
      cases hv : ρ i <;> simp [hv, Value.oneCell'] at this <;> rfl)
  refine ⟨hc, ?_⟩
  have := hc.length
  rw [lenOf_eq] at hn
  simp at this; omega

theorem noAny : ∀ (x : SV), (match x with | .any => false | _ => true) = true → x = .any → False
  | .any, h, _ => by simp at h

end Go.Eng
