import Derived.Test.YtjnejkmcmmablaaGreatDoorEngTop
/-
  What the run goes by, of a program: made of its tables.
-/
namespace Go.Eng
open Go.RowKit

def Cx.of (P : Program) (exts : List (Nat × Ext)) : Cx := ⟨P, Tr.ofListFrom 0 P.funcs.toList .lf, Tr.ofListFrom 0 P.types.toList .lf, exts, []⟩

theorem Cx.of_P (P : Program) (exts : List (Nat × Ext)) : (Cx.of P exts).P = P := rfl
theorem Cx.of_exts (P : Program) (exts : List (Nat × Ext)) : (Cx.of P exts).exts = exts := rfl
theorem Cx.of_facts (P : Program) (exts : List (Nat × Ext)) : (Cx.of P exts).facts = [] := rfl

theorem Cx.of_ok {P : Program} {exts : List (Nat × Ext)} (he : ∀ f e, findExt exts f = some e → ExtOk P f e) (hm : P.follows .mixedOrders = true) {ρ : Nat → Value} {w0 : World} (h1 : ∀ i, (ρ i).oneCell' = true) : CxOk (Cx.of P exts) ρ w0 where
  funcs f fn h := by
    show P.funcs[f]? = some fn
    unfold Cx.of at h
    simp only at h
    rw [Tr.get_ofListFrom] at h
    split at h
    · rw [← Array.getElem?_toList]; simpa using h
    · simp [Tr.get] at h
  types t i h := by
    show P.info? t = some i
    unfold Cx.of at h
    simp only at h
    rw [Tr.get_ofListFrom] at h
    split at h
    · rename_i hlt
      have hlt' : t < P.types.size := by simpa using hlt.2
      have h2 : P.types[t]? = some i := by rw [← Array.getElem?_toList]; simpa using h
      show (if t < P.types.size then P.types[t]? else _) = some i
      rw [if_pos hlt']; exact h2
    · simp [Tr.get] at h
  facts f h := by simp [Cx.of] at h
  exts := he
  mixed := hm
  one := h1

theorem Cx.of_fn {P : Program} {exts : List (Nat × Ext)} (hall : (P.funcs.toList.all fun fn => !(fn.name == "runtime.NumGoroutine")) = true) : FnOk (Cx.of P exts) := by
  intro f fn h
  unfold Cx.of at h
  simp only at h
  rw [Tr.get_ofListFrom] at h
  split at h
  · rw [List.all_eq_true] at hall
    have := hall fn (List.mem_of_getElem? h)
    simpa using this
  · simp [Tr.get] at h

theorem findExt_cons {g f : Nat} {x e : Ext} {l : List (Nat × Ext)} (h : findExt ((g, x) :: l) f = some e) : (f = g ∧ x = e) ∨ findExt l f = some e := by
  simp only [findExt, cond_eq, beq_eq, decide_eq_true_eq] at h
  split at h
  · rename_i hf; exact .inl ⟨hf, Option.some.inj h⟩
  · exact .inr h

end Go.Eng
