import Derived.Test.YtjnejkmcmmablaaGreatDoorEngLight4
/-
  What becomes of memory: a new block, a row written, a row that grows.
-/
namespace Go.Eng
open Go.RowKit

/-- A frame of two memories: what stands beside block b is as it was. -/
structure Beside (b : Nat) (w w' : World) : Prop where
  os : w'.os = w.os
  tape : w'.tape = w.tape
  output : w'.output = w.output
  size : w'.heap.size = w.heap.size
  block : ∀ k, k ≠ b → w'.heap[k]? = w.heap[k]?

def Env.put (E : Env) (n : Nat) (L : Loc) : Env := fun id => if id = n then some L else E id

section
variable {P : Program} {ρ : Nat → Value} {w0 : World} {E : Env} {m : Mem} {w : World}

theorem RM.none_above (hM : RM P ρ w0 E m w) {id : Nat} (h : m.nx ≤ id) : E id = none := by
  cases hE : E id with
  | none => rfl
  | some L => have := (hM.ids id L hE).1; omega

theorem RM.put_le (hM : RM P ρ w0 E m w) (L : Loc) : E.le (E.put m.nx L) := by
  intro id L' h
  unfold Env.put
  rw [if_neg]
  · exact h
  · rintro rfl
    rw [hM.none_above (Nat.le_refl _)] at h; cases h

theorem Env.put_agree (n : Nat) (L : Loc) : Agree n E (E.put n L) := by
  intro id h; unfold Env.put; rw [if_neg (by omega)]

theorem Env.put_same (n : Nat) (L : Loc) : E.put n L n = some L := by simp [Env.put]

theorem RO.heap {E E' : Env} {L : Loc} {w w' : World} {o : SO} (hE : E.le E') (h : RO P E ρ L w o) (hw : w'.heap[L.blk]? = w.heap[L.blk]?) : RO P E' ρ L w' o := by
  cases o with
  | row e n cells x fz =>
    obtain ⟨c, fr, h1, h2, h3, h4, h5, h6, h7⟩ := h
    exact ⟨c, fr, by rw [hw]; exact h1, h2, h3, h4, fun i hi => by
      obtain ⟨y, v, a, b, c, d⟩ := h5 i hi
      exact ⟨y, v, a, b, R.mono hE _ _ c, d⟩, h6, h7⟩
  | map es clock =>
    obtain ⟨fs, h1, h2⟩ := h
    exact ⟨fs, by rw [hw]; exact h1, h2.mono hE⟩
  | sit l n pos => exact ⟨h.1, by rw [hw]; exact h.2⟩
  | dead => trivial

/-- Nothing but the count of draws has turned. -/
theorem RM.drawn (hM : RM P ρ w0 E m w) (n : Nat) : RM P ρ w0 E m { w with drawn := n } :=
  ⟨⟨hM.below.os, hM.below.tape, hM.below.output, hM.below.size, hM.below.block⟩, hM.ids, fun id o L h1 h2 => (hM.rows id o L h1 h2).heap (Env.le_refl E) rfl, hM.apart⟩

/-- A new block. -/
theorem RM.alloc (hM : RM P ρ w0 E m w) (o : Obj) (so : SO) (L : Loc) (hL : L.blk = w.heap.size) (hro : RO P (E.put m.nx L) ρ L (w.alloc o) so) :
    RM P ρ w0 (E.put m.nx L) (m.new so).2 (w.alloc o) := by
  have hle := hM.put_le L
  refine ⟨hM.below.alloc hM.below.size o, fun id L' h => ?_, fun id o' L' h1 h2 => ?_, fun i j oi oj Li Lj hij h1 h2 h3 h4 h5 h6 => ?_⟩
  · unfold Env.put at h
    simp only [Mem.new, World.size_alloc]
    split at h
    · cases h; subst_vars
      exact ⟨by simp, by rw [hL]; exact hM.below.size, by omega⟩
    · obtain ⟨a, b, c⟩ := hM.ids id L' h
      exact ⟨by show id < m.nx + 1; omega, b, by omega⟩
  · simp only [Mem.new, Tr.get_set] at h1
    unfold Env.put at h2
    split at h1
    · rename_i hid
      rw [if_pos hid] at h2; cases h1; cases h2
      exact hro
    · rename_i hid
      rw [if_neg hid] at h2
      refine (hM.rows id o' L' h1 h2).heap hle ?_
      have := (hM.ids id L' h2).2.2
      exact Below.heap_alloc w o L'.blk this
  · simp only [Mem.new, Tr.get_set] at h1 h2
    unfold Env.put at h5 h6
    by_cases hi : i = m.nx
    · rw [if_pos hi] at h5; cases h5
      rw [if_neg (by omega)] at h6
      have := (hM.ids j Lj h6).2.2
      omega
    · rw [if_neg hi] at h5 h1
      by_cases hj : j = m.nx
      · rw [if_pos hj] at h6; cases h6
        have := (hM.ids i Li h5).2.2
        omega
      · rw [if_neg hj] at h6 h2
        exact hM.apart i j oi oj Li Lj hij h1 h2 h3 h4 h5 h6

theorem Beside.below {b : Nat} {w w' : World} (h : Beside b w w') (hB : w0.heap.size ≤ b) (hw : Below w0.heap.size w0 w) : Below w0.heap.size w0 w' :=
  hw.trans ⟨h.os, h.tape, h.output, by rw [h.size]; exact Nat.le_refl _, fun k hk => h.block k (by omega)⟩

/-- One block written. -/
theorem RM.write (hM : RM P ρ w0 E m w) {id : Nat} {L : Loc} {o so : SO} {w' : World} (hid : m.hp.get id = some o) (hlive : o.live = true) (hE : E id = some L) (hb : Beside L.blk w w') (hro : RO P E ρ L w' so) :
    RM P ρ w0 E { m with hp := m.hp.set id so } w' := by
  have hids := hM.ids id L hE
  refine ⟨hb.below hids.2.1 hM.below, fun i L' h => ?_, fun i o' L' h1 h2 => ?_, fun i j oi oj Li Lj hij h1 h2 h3 h4 h5 h6 => ?_⟩
  · obtain ⟨a, b, c⟩ := hM.ids i L' h
    exact ⟨a, b, by rw [hb.size]; exact c⟩
  · simp only [Tr.get_set] at h1
    split at h1
    · rename_i hi
      subst hi; cases h1
      rw [hE] at h2; cases h2
      exact hro
    · rename_i hi
      cases hl : o'.live with
      | false => cases o' <;> simp [SO.live] at hl; trivial
      | true =>
        have hne := hM.apart i id o' o L' L hi h1 hid hl hlive h2 hE
        exact (hM.rows i o' L' h1 h2).heap (Env.le_refl E) (hb.block _ hne)
  · simp only [Tr.get_set] at h1 h2
    by_cases hi : i = id
    · rw [if_pos hi] at h1
      rw [if_neg (by omega)] at h2
      subst hi
      exact hM.apart i j o oj Li Lj hij hid h2 hlive h4 h5 h6
    · rw [if_neg hi] at h1
      by_cases hj : j = id
      · subst hj
        exact hM.apart i j oi o Li Lj hij h1 hid h3 hlive h5 h6
      · rw [if_neg hj] at h2
        exact hM.apart i j oi oj Li Lj hij h1 h2 h3 h4 h5 h6

/-- A row is given up, and another one stands in its block, which was written. -/
theorem RM.regrow (hM : RM P ρ w0 E m w) {id : Nat} {L L' : Loc} {o so : SO} {w' : World} (hid : m.hp.get id = some o) (hlive : o.live = true) (hE : E id = some L) (hb : Beside L.blk w w') (hL' : L'.blk = L.blk)
    (hro : RO P (E.put m.nx L') ρ L' w' so) : RM P ρ w0 (E.put m.nx L') ((⟨m.nx, m.hp.set id .dead⟩ : Mem).new so).2 w' := by
  have hids := hM.ids id L hE
  have hle := hM.put_le L'
  refine ⟨hb.below hids.2.1 hM.below, fun i Li h => ?_, fun i oi Li h1 h2 => ?_, fun i j oi oj Li Lj hij h1 h2 h3 h4 h5 h6 => ?_⟩
  · unfold Env.put at h
    simp only [Mem.new]
    split at h
    · cases h; subst_vars
      exact ⟨by simp, by rw [hL']; exact hids.2.1, by rw [hL', hb.size]; exact hids.2.2⟩
    · obtain ⟨a, b, c⟩ := hM.ids i Li h
      exact ⟨by show i < m.nx + 1; omega, b, by rw [hb.size]; exact c⟩
  · simp only [Mem.new, Tr.get_set] at h1
    unfold Env.put at h2
    split at h1
    · rename_i hi
      rw [if_pos hi] at h2; cases h1; cases h2; exact hro
    · rename_i hi
      rw [if_neg hi] at h2
      split at h1
      · cases h1; trivial
      · rename_i hi2
        cases hl : oi.live with
        | false => cases oi <;> simp [SO.live] at hl; trivial
        | true =>
          have hne := hM.apart i id oi o Li L hi2 h1 hid hl hlive h2 hE
          exact (hM.rows i oi Li h1 h2).heap hle (hb.block _ hne)
  · simp only [Mem.new, Tr.get_set] at h1 h2
    unfold Env.put at h5 h6
    by_cases hi : i = m.nx
    · rw [if_pos hi] at h1 h5; cases h5
      rw [if_neg (by omega)] at h6 h2
      split at h2
      · cases h2; simp [SO.live] at h4
      · rename_i hj2
        have := hM.apart j id oj o Lj L hj2 h2 hid h4 hlive h6 hE
        rw [hL']; exact fun e => this e.symm
    · rw [if_neg hi] at h1 h5
      split at h1
      · cases h1; simp [SO.live] at h3
      · rename_i hi2
        by_cases hj : j = m.nx
        · rw [if_pos hj] at h2 h6; cases h6
          have := hM.apart i id oi o Li L hi2 h1 hid h3 hlive h5 hE
          rw [hL']; exact this
        · rw [if_neg hj] at h2 h6
          split at h2
          · cases h2; simp [SO.live] at h4
          · exact hM.apart i j oi oj Li Lj hij h1 h2 h3 h4 h5 h6

/-- A row is given up. -/
theorem RM.kill (hM : RM P ρ w0 E m w) (id : Nat) : RM P ρ w0 E ⟨m.nx, m.hp.set id .dead⟩ w := by
  refine ⟨hM.below, hM.ids, fun i o L h1 h2 => ?_, fun i j oi oj Li Lj hij h1 h2 h3 h4 h5 h6 => ?_⟩
  · simp only [Tr.get_set] at h1
    split at h1
    · cases h1; trivial
    · exact hM.rows i o L h1 h2
  · simp only [Tr.get_set] at h1 h2
    split at h1
    · cases h1; simp [SO.live] at h3
    · split at h2
      · cases h2; simp [SO.live] at h4
      · exact hM.apart i j oi oj Li Lj hij h1 h2 h3 h4 h5 h6

/-- The cells of a row, after some were written. -/
def wr (c : Array Value) (o : Nat) : List Value → Array Value
  | [] => c
  | v :: vs => wr (c.setIfInBounds o v) (o + 1) vs

theorem wr_size (vs : List Value) : ∀ (c : Array Value) (o : Nat), (wr c o vs).size = c.size := by
  induction vs with
  | nil => intro c o; rfl
  | cons v vs ih => intro c o; simp [wr, ih]

theorem wr_get (vs : List Value) : ∀ (c : Array Value) (o k : Nat), o + vs.length ≤ c.size → (wr c o vs)[k]? = if o ≤ k ∧ k < o + vs.length then vs[k - o]? else c[k]? := by
  induction vs with
  | nil => intro c o k _; simp [wr]; omega
  | cons v vs ih =>
    intro c o k h
    simp only [List.length_cons] at h ⊢
    rw [wr, ih _ _ _ (by simp; omega)]
    by_cases h1 : o + 1 ≤ k ∧ k < o + 1 + vs.length
    · rw [if_pos h1, if_pos (by omega)]
      obtain ⟨d, hd⟩ : ∃ d, k - o = d + 1 := ⟨k - o - 1, by omega⟩
      rw [hd, show k - (o + 1) = d from by omega]; simp
    · rw [if_neg h1, Array.getElem?_setIfInBounds]
      by_cases h2 : o = k
      · subst h2
        rw [if_pos rfl, if_pos (by omega), if_pos (by omega)]; simp
      · rw [if_neg h2, if_neg (by omega)]

theorem run_store_cell (w : World) (b o : Nat) (c : Array Value) (e : TypeId) (fr : Nat × Nat) (v : Value) (hb : w.heap[b]? = some (.cells c e fr)) (ho : o < c.size) (hf : ¬ (fr.1 ≤ o ∧ o < fr.2)) (hv : v.oneCell' = true) :
    (store ⟨b, o, none⟩ v).run P w = .ok () (w.setRow b (c.setIfInBounds o v)) := by
  rw [run_store P w ⟨b, o, none⟩ v .plain hv]
  have h1 : w.cell? ⟨b, o, none⟩ = some c[o] := by simp [World.cell?, hb, ho]
  have h2 : w.frozen? ⟨b, o, none⟩ = false := by
    simp only [World.frozen?, hb]
    rw [Bool.and_eq_false_iff]
    simp only [decide_eq_false_iff_not]
    omega
  rw [h1]
  simp only [h2, Bool.false_eq_true, if_false]
  rw [setCell_eq_setRow w b o c e fr v hb]

theorem setRow_setRow (w : World) (b : Nat) (c c' : Array Value) (old : Array Value) (e : TypeId) (fr : Nat × Nat) (hb : w.heap[b]? = some (.cells old e fr)) : (w.setRow b c).setRow b c' = w.setRow b c' := by
  unfold World.setRow
  congr 1
  apply Array.ext
  · simp
  · intro i h1 h2
    simp only [Array.getElem_modify]
    by_cases hi : b = i
    · subst hi
      have hlt : b < w.heap.size := (Array.getElem?_eq_some_iff.1 hb).1
      have hv : w.heap[b] = .cells old e fr := (Array.getElem?_eq_some_iff.1 hb).2
      simp only [if_true]
      rw [hv]
    · simp [hi]

theorem run_storeCells_wr (b : Nat) (e : TypeId) (fr : Nat × Nat) (o : Nat) : ∀ (vs : List Value) (i : Nat) (c : Array Value) (w : World), w.heap[b]? = some (.cells c e fr) → o + i + vs.length ≤ c.size →
    (∀ k, o + i ≤ k → k < o + i + vs.length → ¬ (fr.1 ≤ k ∧ k < fr.2)) → (∀ v, v ∈ vs → v.oneCell' = true) → (storeCells ⟨b, o, none⟩ vs i).run P w = .ok () (w.setRow b (wr c (o + i) vs))
  | [], i, c, w, hb, _, _, _ => by
    simp only [storeCells, wr, Sem.run_pure]
    congr 1
    have hlt : b < w.heap.size := (Array.getElem?_eq_some_iff.1 hb).1
    have hv : w.heap[b] = .cells c e fr := (Array.getElem?_eq_some_iff.1 hb).2
    unfold World.setRow
    cases w
    congr 1
    apply Array.ext
    · simp
    · intro k h1 h2
      simp only [Array.getElem_modify]
      by_cases hk : b = k
      · subst hk; simp only [if_true]; simp only at hv; rw [hv]
      · simp [hk]
  | v :: vs, i, c, w, hb, hle, hf, h1 => by
    simp only [storeCells, addr_add, Sem.run_bind]
    simp only [List.length_cons] at hle hf
    rw [run_store_cell w b (o + i) c e fr v hb (by omega) (hf _ (Nat.le_refl _) (by omega)) (h1 v (by simp))]
    simp only [Result.andThen_ok]
    have hb' := setRow_heap w b c (c.setIfInBounds (o + i) v) e fr hb
    rw [run_storeCells_wr b e fr o vs (i + 1) _ _ hb' (by simp; omega) (fun k h2 h3 => hf k (by omega) (by omega)) (fun u hu => h1 u (by simp [hu]))]
    rw [setRow_setRow w b _ _ c e fr hb]
    simp only [wr]
    rfl

theorem beside_setRow (w : World) (b : Nat) (c : Array Value) : Beside b w (w.setRow b c) :=
  ⟨rfl, rfl, rfl, by simp, fun k hk => setRow_other w b k c hk⟩

end
end Go.Eng
