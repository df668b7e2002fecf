import Derived.Test.YtjnejkmcmmablaaGreatDoorEngCode
/-
  A region whose order is open: what its plan says.
-/
namespace Go.Eng
open Go.RowKit

/- Which operations stand ahead of which. -/
theorem testBit_lor (a b j : Nat) : Nat.testBit (Nat.lor a b) j = (Nat.testBit a j || Nat.testBit b j) := Nat.testBit_or a b j

theorem edgeMask_bit (tab : Tr Nat) : ∀ (es : List Edge) (acc j : Nat), Nat.testBit (edgeMask tab es acc) j = true → Nat.testBit acc j = true ∨ ∃ e ∈ es, Region.binds .any e = true ∧ (j = e.on ∨ Nat.testBit (maskAt tab e.on) j = true)
  | [], acc, j, h => .inl h
  | e :: es, acc, j, h => by
    simp only [edgeMask] at h
    rcases edgeMask_bit tab es _ j h with h | ⟨e', he', h⟩
    · cases hb : Region.binds .any e with
      | false => rw [hb] at h; exact .inl h
      | true =>
        rw [hb] at h
        simp only [cond_true, testBit_lor, Bool.or_eq_true] at h
        rcases h with h | h | h
        · exact .inl h
        · refine .inr ⟨e, by simp, hb, .inl ?_⟩
          have : Nat.testBit (2 ^ e.on) j = true := h
          rw [Nat.testBit_two_pow] at this
          exact (by simpa using this : e.on = j).symm
        · exact .inr ⟨e, by simp, hb, .inr h⟩
    · exact .inr ⟨e', by simp [he'], h⟩

theorem masksOf_get : ∀ (l : List Oper) (i : Nat) (tab : Tr Nat), (∀ k, i ≤ k → tab.get k = none) → (∀ k, k < i → (masksOf l i tab).get k = tab.get k) ∧
    ∀ j o, l[j]? = some o → ∀ b, Nat.testBit (maskAt (masksOf l i tab) (i + j)) b = true → ∃ e ∈ o.after.toList, Region.binds .any e = true ∧ (b = e.on ∨ Nat.testBit (maskAt (masksOf l i tab) e.on) b = true)
  | [], i, tab, _ => ⟨fun _ _ => rfl, fun j o h => by simp at h⟩
  | o :: l, i, tab, hn => by
    have hn' : ∀ k, i + 1 ≤ k → (tab.set i (edgeMask tab o.after.toList 0)).get k = none := fun k hk => by
      rw [Tr.get_set, if_neg (by omega)]; exact hn k (by omega)
    obtain ⟨h1, h2⟩ := masksOf_get l (i + 1) _ hn'
    refine ⟨fun k hk => ?_, fun j o' hj b hb => ?_⟩
    · show (masksOf l (i + 1) _).get k = _
      rw [h1 k (by omega), Tr.get_set, if_neg (by omega)]
    · cases j with
      | succ j =>
        refine h2 j o' (by simpa using hj) b ?_
        rw [show i + 1 + j = i + (j + 1) from by omega]; exact hb
      | zero =>
        simp at hj; subst hj
        have hb' : Nat.testBit (edgeMask tab o.after.toList 0) b = true := by
          have hg : (masksOf l (i + 1) (tab.set i (edgeMask tab o.after.toList 0))).get i = some (edgeMask tab o.after.toList 0) := by
            rw [h1 i (by omega), Tr.get_set, if_pos rfl]
          have : maskAt (masksOf (o :: l) i tab) (i + 0) = edgeMask tab o.after.toList 0 := by
            unfold maskAt
            show (match (masksOf l (i + 1) (tab.set i (edgeMask tab o.after.toList 0))).get i with | some k => k | none => 0) = _
            rw [hg]
          rw [this] at hb; exact hb
        rcases edgeMask_bit tab _ 0 b hb' with h | ⟨e, he, hbd, h⟩
        · simp at h
        · refine ⟨e, he, hbd, h.imp id fun h => ?_⟩
          by_cases hlt : e.on < i
          · have : maskAt (masksOf (o :: l) i tab) e.on = maskAt tab e.on := by
              unfold maskAt
              show (match (masksOf l (i + 1) (tab.set i (edgeMask tab o.after.toList 0))).get e.on with | some k => k | none => 0) = _
              rw [h1 _ (by omega), Tr.get_set, if_neg (by omega)]
              rfl
            rw [this]; exact h
          · have : maskAt tab e.on = 0 := by unfold maskAt; rw [hn _ (by omega)]
            rw [this] at h; simp at h

/- Who writes what. -/
theorem writersOf_get : ∀ (l : List Oper) (i : Nat) (tab wr : Tr Nat), writersOf l i tab = .ok wr → (∀ t j, tab.get t = some j → wr.get t = some j) ∧ (∀ j o d, l[j]? = some o → o.dst = some d → wr.get d = some (i + j)) ∧
    ∀ t j, wr.get t = some j → tab.get t = some j ∨ ∃ k o, j = i + k ∧ l[k]? = some o ∧ o.dst = some t
  | [], i, tab, wr, h => by
    simp only [writersOf, Rs.ok.injEq] at h; subst h
    exact ⟨fun _ _ h => h, fun j o d h => by simp at h, fun _ _ h => .inl h⟩
  | o :: l, i, tab, wr, h => by
    simp only [writersOf] at h
    cases hd : o.dst with
    | none =>
      rw [hd] at h
      obtain ⟨h1, h2, h3⟩ := writersOf_get l (i + 1) tab wr h
      refine ⟨h1, fun j o' d hj hd' => ?_, fun t j ht => ?_⟩
      · cases j with
        | zero => simp at hj; subst hj; rw [hd] at hd'; cases hd'
        | succ j => rw [h2 j o' d (by simpa using hj) hd']; congr 1; omega
      · rcases h3 t j ht with h | ⟨k, o', rfl, hk, hd'⟩
        · exact .inl h
        · exact .inr ⟨k + 1, o', by omega, by simpa using hk, hd'⟩
    | some d0 =>
      rw [hd] at h
      simp only at h
      split at h
      · simp at h
      · rename_i hnone
        obtain ⟨h1, h2, h3⟩ := writersOf_get l (i + 1) _ wr h
        have hset : ∀ t, (tab.set d0 i).get t = if t = d0 then some i else tab.get t := fun t => Tr.get_set tab d0 t i
        refine ⟨fun t j ht => h1 t j ?_, fun j o' d hj hd' => ?_, fun t j ht => ?_⟩
        · rw [hset, if_neg]
          · exact ht
          · rintro rfl; rw [hnone] at ht; cases ht
        · cases j with
          | zero =>
            simp at hj; subst hj
            rw [hd] at hd'; cases hd'
            exact h1 _ _ (by rw [hset, if_pos rfl]; rfl)
          | succ j => rw [h2 j o' d (by simpa using hj) hd']; congr 1; omega
        · rcases h3 t j ht with h | ⟨k, o', rfl, hk, hd'⟩
          · rw [hset] at h
            split at h
            · rename_i he
              cases h
              exact .inr ⟨0, o, rfl, rfl, by rw [he]; exact hd⟩
            · exact .inl h
          · exact .inr ⟨k + 1, o', by omega, by simpa using hk, hd'⟩

/- The items. -/
def itemAt (T : Tr TypeInfo) (tab : Tr Nat) (hs : List Nat) (i : Nat) (o : Oper) : DI := ⟨i, o, opClass T o.op, loOf (maskAt tab i) hs 0 0, hiOf tab i hs 0⟩

theorem itemsOf_get (T : Tr TypeInfo) (ops : Array Oper) (wr tab : Tr Nat) (hs : List Nat) : ∀ (os : List Oper) (i : Nat) (l : List DI), itemsOf T ops wr tab hs os i = .ok l → l.length = os.length ∧
    ∀ j o, os[j]? = some o → l[j]? = some (itemAt T tab hs (i + j) o) ∧ edgesOk (i + j) o.after.toList = true ∧ looksOk wr tab (i + j) (o.looksAt ops) = true
  | [], i, l, h => by
    simp only [itemsOf, Rs.ok.injEq] at h; subst h
    exact ⟨rfl, fun j o h => by simp at h⟩
  | o :: os, i, l, h => by
    simp only [itemsOf] at h
    obtain ⟨hc, h⟩ := cond_ok h
    simp only [Bool.and_eq_true] at hc
    obtain ⟨l', hl', h⟩ := Rs.bind_ok h
    simp only [Rs.ok.injEq] at h; subst h
    obtain ⟨h1, h2⟩ := itemsOf_get T ops wr tab hs os (i + 1) l' hl'
    refine ⟨by simp [h1], fun j o' hj => ?_⟩
    cases j with
    | zero => simp at hj; subst hj; exact ⟨rfl, hc.1, hc.2⟩
    | succ j =>
      obtain ⟨a, b, c⟩ := h2 j o' (by simpa using hj)
      have e : i + 1 + j = i + (j + 1) := by omega
      rw [e] at a b c
      exact ⟨by simpa using a, b, c⟩

theorem edgesOk_lt {i : Nat} : ∀ {es : List Edge}, edgesOk i es = true → ∀ e ∈ es, Region.binds .any e = true → e.on < i
  | [], _, e, he, _ => by simp at he
  | e :: es, h, e', he', hb => by
    simp only [edgesOk, Bool.and_eq_true] at h
    rcases List.mem_cons.1 he' with rfl | he'
    · rw [hb] at h
      have := h.1
      simp only [cond_true, blt_eq, decide_eq_true_eq] at this
      exact this
    · exact edgesOk_lt h.2 e' he' hb

theorem looksOk_at {wr tab : Tr Nat} {i : Nat} : ∀ {ts : List Tmp}, looksOk wr tab i ts = true → ∀ t ∈ ts, ∀ j, wr.get t = some j → Nat.testBit (maskAt tab i) j = true
  | [], _, t, ht, _, _ => by simp at ht
  | t0 :: ts, h, t, ht, j, hj => by
    simp only [looksOk, Bool.and_eq_true] at h
    rcases List.mem_cons.1 ht with rfl | ht
    · have := h.1; rw [hj] at this; exact this
    · exact looksOk_at h.2 t ht j hj

/- The heavy ones. -/
theorem heaviesOf_mem (T : Tr TypeInfo) : ∀ (l : List Oper) (i x : Nat), x ∈ heaviesOf T l i ↔ ∃ j o, x = i + j ∧ l[j]? = some o ∧ opClass T o.op = 2
  | [], i, x => by simp [heaviesOf]
  | o :: l, i, x => by
    have ih := heaviesOf_mem T l (i + 1) x
    simp only [heaviesOf, cond_eq, beq_eq, decide_eq_true_eq]
    have sh : (∃ j o', x = i + 1 + j ∧ l[j]? = some o' ∧ opClass T o'.op = 2) → ∃ j o', x = i + j ∧ (o :: l)[j]? = some o' ∧ opClass T o'.op = 2 := fun ⟨j, o', h1, h2, h3⟩ => ⟨j + 1, o', by omega, by simpa using h2, h3⟩
    by_cases h : opClass T o.op = 2
    · rw [if_pos h]
      simp only [List.mem_cons]
      constructor
      · rintro (rfl | hx)
        · exact ⟨0, o, rfl, rfl, h⟩
        · exact sh (ih.1 hx)
      · rintro ⟨j, o', h1, h2, h3⟩
        cases j with
        | zero => exact .inl h1
        | succ j => exact .inr (ih.2 ⟨j, o', by omega, by simpa using h2, h3⟩)
    · rw [if_neg h]
      constructor
      · intro hx; exact sh (ih.1 hx)
      · rintro ⟨j, o', h1, h2, h3⟩
        cases j with
        | zero => simp at h2; subst h2; exact (h h3).elim
        | succ j => exact ih.2 ⟨j, o', by omega, by simpa using h2, h3⟩

theorem chained_at {tab : Tr Nat} : ∀ {hs : List Nat}, chained tab hs = true → ∀ k x y, hs[k]? = some x → hs[k + 1]? = some y → Nat.testBit (maskAt tab y) x = true
  | [], _, k, x, y, hx, _ => by simp at hx
  | [h], _, k, x, y, hx, hy => by simp at hy
  | h :: g :: l, hc, k, x, y, hx, hy => by
    simp only [chained, Bool.and_eq_true] at hc
    cases k with
    | zero => simp at hx hy; subst hx hy; exact hc.1
    | succ k => exact chained_at hc.2 k x y (by simpa using hx) (by simpa using hy)

theorem loOf_le (mask h : Nat) : ∀ (hs : List Nat) (a acc : Nat), (∀ k x, hs[k]? = some x → Nat.testBit mask x = true → a + k < h) → acc ≤ h → loOf mask hs a acc ≤ h
  | [], a, acc, _, hacc => hacc
  | x :: hs, a, acc, hx, hacc => by
    simp only [loOf]
    refine loOf_le mask h hs (a + 1) _ (fun k y hy hb => by have := hx (k + 1) y (by simpa using hy) hb; omega) ?_
    cases hb : Nat.testBit mask x with
    | false => exact hacc
    | true => have := hx 0 x rfl hb; simp only [cond_true]; omega

theorem le_hiOf (tab : Tr Nat) (i h : Nat) : ∀ (hs : List Nat) (a : Nat), (∀ k x, hs[k]? = some x → Nat.testBit (maskAt tab x) i = true → h ≤ a + k) → h ≤ a + hs.length → h ≤ hiOf tab i hs a
  | [], a, _, hl => by simpa [hiOf] using hl
  | x :: hs, a, hx, hl => by
    simp only [hiOf]
    cases hb : Nat.testBit (maskAt tab x) i with
    | true => have := hx 0 x rfl hb; simpa using this
    | false =>
      simp only [cond_false]
      exact le_hiOf tab i h hs (a + 1) (fun k y hy hb => by have := hx (k + 1) y (by simpa using hy) hb; omega) (by simp at hl; omega)

theorem opClass_le (T : Tr TypeInfo) (op : Op) : opClass T op = 0 ∨ opClass T op = 1 ∨ opClass T op = 2 := by
  cases op <;> simp only [opClass] <;> first | simp | skip
  · split <;> simp
  · split <;> simp

/-- What a plan says. -/
structure PlanOk (T : Tr TypeInfo) (ops : Array Oper) (p : Plan) where
  tab : Tr Nat
  wr : Tr Nat
  mask : ∀ (i : Nat) (o : Oper), ops[i]? = some o → ∀ b, Nat.testBit (maskAt tab i) b = true → ∃ e ∈ o.after.toList, Region.binds .any e = true ∧ (b = e.on ∨ Nat.testBit (maskAt tab e.on) b = true)
  edge : ∀ (i : Nat) (o : Oper), ops[i]? = some o → ∀ e ∈ o.after.toList, Region.binds .any e = true → e.on < i
  writes : ∀ (i : Nat) (o : Oper) d, ops[i]? = some o → o.dst = some d → wr.get d = some i
  written : ∀ t j, wr.get t = some j → ∃ o, ops[j]? = some o ∧ o.dst = some t
  looks : ∀ (i : Nat) (o : Oper), ops[i]? = some o → ∀ t ∈ o.looksAt ops, ∀ j, wr.get t = some j → Nat.testBit (maskAt tab i) j = true
  item : ∀ (i : Nat) (o : Oper), ops[i]? = some o → p.items[i]? = some (itemAt T tab p.hs i o)
  items : p.items.length = ops.size
  heavy : ∀ x, x ∈ p.hs ↔ ∃ o, ops[x]? = some o ∧ opClass T o.op = 2
  chain : ∀ k x y, p.hs[k]? = some x → p.hs[k + 1]? = some y → Nat.testBit (maskAt tab y) x = true

theorem planOf_ok {T : Tr TypeInfo} {ops : Array Oper} {p : Plan} (h : planOf T ops = .ok p) : Nonempty (PlanOk T ops p) := by
  unfold planOf at h
  obtain ⟨wr, hwr, h⟩ := Rs.bind_ok h
  obtain ⟨hc, h⟩ := cond_ok h
  obtain ⟨l, hl, h⟩ := Rs.bind_ok h
  simp only [Rs.ok.injEq] at h
  subst h
  have hg : ∀ i : Nat, ops.toList[i]? = ops[i]? := fun i => Array.getElem?_toList
  obtain ⟨w1, w2, w3⟩ := writersOf_get _ _ _ _ hwr
  obtain ⟨i1, i2⟩ := itemsOf_get T ops wr _ _ _ _ _ hl
  obtain ⟨_, m2⟩ := masksOf_get ops.toList 0 .lf (fun k _ => rfl)
  refine ⟨⟨masksOf ops.toList 0 .lf, wr, fun i o hi b hb => ?_, fun i o hi e he hb => ?_, fun i o d hi hd => ?_, fun t j hj => ?_, fun i o hi t ht j hj => ?_, fun i o hi => ?_, by simp [i1], fun x => ?_, fun k x y hx hy => chained_at hc k x y hx hy⟩⟩
  · have := m2 i o (by rw [hg]; exact hi) b (by rw [Nat.zero_add]; exact hb)
    exact this
  · have := (i2 i o (by rw [hg]; exact hi)).2.1
    rw [Nat.zero_add] at this
    exact edgesOk_lt this e he hb
  · have := w2 i o d (by rw [hg]; exact hi) hd
    rwa [Nat.zero_add] at this
  · rcases w3 t j hj with h | ⟨k, o, rfl, hk, hd⟩
    · simp [Tr.get] at h
    · exact ⟨o, by rw [Nat.zero_add, ← hg]; exact hk, hd⟩
  · have := (i2 i o (by rw [hg]; exact hi)).2.2
    rw [Nat.zero_add] at this
    exact looksOk_at this t ht j hj
  · have := (i2 i o (by rw [hg]; exact hi)).1
    rwa [Nat.zero_add] at this
  · have := heaviesOf_mem T ops.toList 0 x
    show x ∈ heaviesOf T ops.toList 0 ↔ _
    rw [this]
    constructor
    · rintro ⟨j, o, rfl, hj, ho⟩
      exact ⟨o, by rw [Nat.zero_add, ← hg]; exact hj, ho⟩
    · rintro ⟨o, hj, ho⟩
      exact ⟨x, o, by omega, by rw [hg]; exact hj, ho⟩

end Go.Eng
