import Derived.Test.YtjnejkmcmmablaaGreatDoorEngDraw
/-
  A region whose order is open: the run in stages, and its check.
-/
namespace Go.Eng
open Go.RowKit

/-- m2 is m with more blocks. -/
def Mem.Ext (m m2 : Mem) : Prop := m.nx ≤ m2.nx ∧ ∀ id, id < m.nx → m2.hp.get id = m.hp.get id

theorem Mem.Ext.refl (m : Mem) : m.Ext m := ⟨Nat.le_refl _, fun _ _ => rfl⟩
theorem Mem.Ext.trans {a b c : Mem} (h : a.Ext b) (k : b.Ext c) : a.Ext c := ⟨Nat.le_trans h.1 k.1, fun id hid => (k.2 id (Nat.lt_of_lt_of_le hid h.1)).trans (h.2 id hid)⟩
theorem Mem.Ext.new (m : Mem) (o : SO) : m.Ext (m.new o).2 := ⟨Nat.le_succ _, fun id hid => by simp only [Mem.new, Tr.get_set]; rw [if_neg (by omega)]⟩

section
variable {C : Cx} {ρ : Nat → Value} {w0 : World} {E : Env} {m : Mem} {w : World}

theorem RM.ext {P : Program} {m2 : Mem} (hM : RM P ρ w0 E m w) (h : m.Ext m2) : RM P ρ w0 E m2 w :=
  ⟨hM.below, fun id L hE => by obtain ⟨a, b, c⟩ := hM.ids id L hE; exact ⟨Nat.lt_of_lt_of_le a h.1, b, c⟩,
    fun id o L h1 h2 => hM.rows id o L (by rw [← h.2 id (hM.ids id L h2).1]; exact h1) h2,
    fun i j oi oj Li Lj hij h1 h2 h3 h4 h5 h6 => hM.apart i j oi oj Li Lj hij (by rw [← h.2 i (hM.ids i Li h5).1]; exact h1) (by rw [← h.2 j (hM.ids j Lj h6).1]; exact h2) h3 h4 h5 h6⟩

/-- A block of the run's memory gets its place. -/
theorem RM.place {P : Program} (hM : RM P ρ w0 E m w) {id : Nat} {so : SO} {L : Loc} (o : Obj) (hid : id < m.nx) (hn : E id = none) (hso : m.hp.get id = some so) (hL : L.blk = w.heap.size) (hro : RO P (E.put id L) ρ L (w.alloc o) so) :
    E.le (E.put id L) ∧ RM P ρ w0 (E.put id L) m (w.alloc o) := by
  have hle : E.le (E.put id L) := by
    intro i L' h
    unfold Env.put
    rw [if_neg]
    · exact h
    · rintro rfl; rw [hn] at h; cases h
  refine ⟨hle, hM.below.alloc hM.below.size o, fun i L' h => ?_, fun i o' L' h1 h2 => ?_, fun i j oi oj Li Lj hij h1 h2 h3 h4 h5 h6 => ?_⟩
  · unfold Env.put at h
    simp only [World.size_alloc]
    split at h
    · cases h; subst_vars
      exact ⟨hid, by rw [hL]; exact hM.below.size, by omega⟩
    · obtain ⟨a, b, c⟩ := hM.ids i L' h
      exact ⟨a, b, by omega⟩
  · unfold Env.put at h2
    split at h2
    · rename_i hi
      subst hi
      cases h2
      rw [hso] at h1; cases h1
      exact hro
    · refine (hM.rows i o' L' h1 h2).heap hle ?_
      exact Below.heap_alloc w o L'.blk (hM.ids i L' h2).2.2
  · unfold Env.put at h5 h6
    split at h5
    · cases h5
      rw [if_neg (by omega)] at h6
      have := (hM.ids j Lj h6).2.2
      omega
    · split at h6
      · cases h6
        have := (hM.ids i Li h5).2.2
        omega
      · exact hM.apart i j oi oj Li Lj hij h1 h2 h3 h4 h5 h6

/-- What a frame's writes leave as it was. -/
structure FS.Off (items : List DI) (s s' : FS) : Prop where
  sz : s'.sz = s.sz
  df : s'.df = s.df
  get : ∀ t, (∀ d ∈ items, d.o.dst ≠ some t) → s'.get t = s.get t

theorem FS.Off.refl (items : List DI) (s : FS) : FS.Off items s s := ⟨rfl, rfl, fun _ _ => rfl⟩
theorem FS.Off.trans {items : List DI} {a b c : FS} (h : FS.Off items a b) (k : FS.Off items b c) : FS.Off items a c := ⟨k.sz.trans h.sz, k.df.trans h.df, fun t ht => (k.get t ht).trans (h.get t ht)⟩
theorem FS.Off.put {items : List DI} {s s' : FS} {d : DI} (hd : d ∈ items) {v : SV} (h : s.put d.o.dst v = .ok s') : FS.Off items s s' := by
  cases hx : d.o.dst with
  | none => rw [hx] at h; simp only [FS.put, Rs.ok.injEq] at h; subst h; exact .refl _ _
  | some t0 =>
    rw [hx] at h
    simp only [FS.put] at h
    obtain ⟨_, h⟩ := cond_ok h
    simp only [Rs.ok.injEq] at h; subst h
    refine ⟨rfl, rfl, fun t ht => ?_⟩
    rw [FS.get_set, if_neg]
    rintro rfl
    exact ht d hd hx

theorem stageS_ok {all : List Oper} {k : Nat} {items : List DI} : ∀ (ds : List DI) {s s' : FS} {m m' : Mem}, (∀ d ∈ ds, d ∈ items) → stageS C all k ds s m = .ok (s', m') → FS.Off items s s' ∧ m.Ext m'
  | [], s, s', m, m', _, h => by
    simp only [stageS, Rs.ok.injEq, Prod.mk.injEq] at h
    obtain ⟨rfl, rfl⟩ := h
    exact ⟨.refl _ _, .refl _⟩
  | d :: ds, s, s', m, m', hin, h => by
    have hd := hin d (by simp)
    have hin' : ∀ d ∈ ds, d ∈ items := fun x hx => hin x (by simp [hx])
    simp only [stageS, cond_eq] at h
    split at h
    · obtain ⟨g, hg, h⟩ := Rs.bind_ok h
      split at h
      · split at h
        · obtain ⟨⟨o, f⟩, ho, h⟩ := Rs.bind_ok h
          obtain ⟨s1, hs1, h⟩ := Rs.bind_ok h
          obtain ⟨a, b⟩ := stageS_ok ds hin' h
          exact ⟨(FS.Off.put hd hs1).trans a, (Mem.Ext.new m o).trans b⟩
        · obtain ⟨v, hv, h⟩ := Rs.bind_ok h
          obtain ⟨s1, hs1, h⟩ := Rs.bind_ok h
          obtain ⟨a, b⟩ := stageS_ok ds hin' h
          exact ⟨(FS.Off.put hd hs1).trans a, b⟩
      · obtain ⟨s1, hs1, h⟩ := Rs.bind_ok h
        obtain ⟨a, b⟩ := stageS_ok ds hin' h
        exact ⟨(FS.Off.put hd hs1).trans a, b⟩
    · exact stageS_ok ds hin' h

/-- The stages hang together. -/
def ChainOk (C : Cx) (ih : Run) (all : List Oper) (items : List DI) (e : XE) (mF : Mem) : List Nat → Mem → List St → Prop
  | [], m, [t] => t.hv = none ∧ m.Ext t.mem ∧ e = .normal ∧ mF = t.mem
  | i :: hs, m, t :: ts => m.Ext t.mem ∧ ∃ d s v m', items[i]? = some d ∧ t.hv = some (d, s, v, m') ∧
      ((guardOk all s d.o = .ok false ∧ v = .tup [] ∧ m' = t.mem ∧ ChainOk C ih all items e mF hs m' ts) ∨
       (guardOk all s d.o = .ok true ∧ opS C ih s t.mem d.o.op = .ok (.val v m') ∧ ChainOk C ih all items e mF hs m' ts) ∨
       (guardOk all s d.o = .ok true ∧ ∃ ch, opS C ih s t.mem d.o.op = .ok (.panic ch m') ∧ e = .panic ch ∧ mF = m' ∧ ts = []))
  | _, _, _ => False

theorem stagesS_ok {ih : Run} {all : List Oper} {items : List DI} : ∀ (hs : List Nat) (k : Nat) {s sF : FS} {m mF : Mem} {acc sts : List St} {e : XE}, stagesS C ih all items hs k s m acc = .ok (e, sF, mF, sts) →
    FS.Off items s sF ∧ ∃ T, sts = T.reverse ++ acc ∧ ChainOk C ih all items e mF hs m T
  | [], k, s, sF, m, mF, acc, sts, e, h => by
    simp only [stagesS] at h
    obtain ⟨⟨s1, m1⟩, h1, h⟩ := Rs.bind_ok h
    simp only [Rs.ok.injEq, Prod.mk.injEq] at h
    obtain ⟨rfl, rfl, rfl, rfl⟩ := h
    obtain ⟨a, b⟩ := stageS_ok items (fun _ h => h) h1
    exact ⟨a, [⟨m1, none⟩], by simp, rfl, b, rfl, rfl⟩
  | i :: hs, k, s, sF, m, mF, acc, sts, e, h => by
    simp only [stagesS] at h
    obtain ⟨⟨s1, m1⟩, h1, h⟩ := Rs.bind_ok h
    obtain ⟨a, b⟩ := stageS_ok items (fun _ h => h) h1
    simp only at h
    split at h
    · simp at h
    · rename_i d hd
      have hdm : d ∈ items := List.mem_of_getElem? hd
      obtain ⟨g, hg, h⟩ := Rs.bind_ok h
      cases g with
      | false =>
        simp only [cond_false] at h
        obtain ⟨s2, hs2, h⟩ := Rs.bind_ok h
        obtain ⟨c1, T, c2, c3⟩ := stagesS_ok hs (k + 1) h
        refine ⟨(a.trans (FS.Off.put hdm hs2)).trans c1, ⟨m1, some (d, s1, .tup [], m1)⟩ :: T, by simp [c2], b, d, s1, _, _, hd, rfl, .inl ⟨hg, rfl, rfl, c3⟩⟩
      | true =>
        simp only [cond_true] at h
        obtain ⟨r, hr, h2⟩ := Rs.bind_ok h
        clear h
        cases r with
        | val v m2 =>
          simp only at h2
          obtain ⟨s2, hs2, h⟩ := Rs.bind_ok h2
          obtain ⟨c1, T, c2, c3⟩ := stagesS_ok hs (k + 1) h
          exact ⟨(a.trans (FS.Off.put hdm hs2)).trans c1, ⟨m1, some (d, s1, v, m2)⟩ :: T, by simp [c2], b, d, s1, _, _, hd, rfl, .inr (.inl ⟨hg, hr, c3⟩)⟩
        | panic ch m2 =>
          simp only [Rs.ok.injEq, Prod.mk.injEq] at h2
          obtain ⟨rfl, rfl, rfl, rfl⟩ := h2
          exact ⟨a, [⟨m1, some (d, s1, dstV s1 d.o, m2)⟩], by simp, b, d, s1, _, _, hd, rfl, .inr (.inr ⟨hg, ch, hr, rfl, rfl, rfl⟩)⟩
        | defer d' m2 => simp at h2

/- The check. -/
theorem allIn_at {all : List Oper} {s : FS} {d : DI} : ∀ {T : List St} {k : Nat}, allIn C all s d T k = true → ∀ j t, T[j]? = some t → d.lo ≤ k + j → k + j ≤ d.hi → sameIn C all s d t.mem = true
  | [], k, _, j, t, ht, _, _ => by simp at ht
  | t0 :: T, k, h, j, t, ht, h1, h2 => by
    simp only [allIn, Bool.and_eq_true] at h
    cases j with
    | zero =>
      simp at ht; subst ht
      have := h.1
      simp only [cond_eq, ble_eq, Bool.and_eq_true, decide_eq_true_eq] at this
      rw [if_pos ⟨by omega, by omega⟩] at this
      exact this
    | succ j => exact allIn_at h.2 j t (by simpa using ht) (by show d.lo ≤ k + 1 + j; omega) (by show k + 1 + j ≤ d.hi; omega)

theorem itemsOk_at {all : List Oper} {s : FS} {T : List St} : ∀ {ds : List DI}, itemsOk C all s T ds = true → ∀ d ∈ ds, d.cls < 2 → allIn C all s d T 0 = true
  | [], _, d, hd, _ => by simp at hd
  | d0 :: ds, h, d, hd, hc => by
    simp only [itemsOk, Bool.and_eq_true] at h
    rcases List.mem_cons.1 hd with rfl | hd
    · have := h.1
      simp only [cond_eq, blt_eq, decide_eq_true_eq, hc, if_true] at this
      exact this
    · exact itemsOk_at h.2 d hd hc

theorem stOk_at {all : List Oper} {ops : Array Oper} {sF : FS} {made : List Nat} : ∀ {T : List St}, stOk all ops sF made T = true → ∀ t ∈ T, ∀ d s v m', t.hv = some (d, s, v, m') →
    dstIs sF d.o v = true ∧ looksSame s sF (d.o.looksAt ops) = true ∧ noneMade t.mem.nx m'.nx made = true
  | [], _, t, ht, _, _, _, _, _ => by simp at ht
  | t0 :: T, h, t, ht, d, s, v, m', hv => by
    simp only [stOk, Bool.and_eq_true] at h
    rcases List.mem_cons.1 ht with rfl | ht
    · have := h.1
      rw [hv] at this
      simp only [Bool.and_eq_true] at this
      exact ⟨this.1.1, this.1.2, this.2⟩
    · exact stOk_at h.2 t ht d s v m' hv

theorem dstIs_ok {s : FS} {o : Oper} {v : SV} (h : dstIs s o v = true) : ∀ t, o.dst = some t → s.get t = v := by
  intro t ht
  unfold dstIs at h
  rw [ht] at h
  exact SV.beq_sound _ _ h

theorem looksSame_ok {s s' : FS} : ∀ {ts : List Tmp}, looksSame s s' ts = true → ∀ t ∈ ts, s.get t = s'.get t
  | [], _, t, ht => by simp at ht
  | t0 :: ts, h, t, ht => by
    simp only [looksSame, Bool.and_eq_true] at h
    rcases List.mem_cons.1 ht with rfl | ht
    · exact SV.beq_sound _ _ h.1
    · exact looksSame_ok h.2 t ht

theorem noneMade_ok {lo hi : Nat} : ∀ {l : List Nat}, noneMade lo hi l = true → ∀ k ∈ l, k < lo ∨ hi ≤ k
  | [], _, k, hk => by simp at hk
  | k0 :: l, h, k, hk => by
    simp only [noneMade, Bool.and_eq_true, Bool.or_eq_true, blt_eq, ble_eq, decide_eq_true_eq] at h
    rcases List.mem_cons.1 hk with rfl | hk
    · exact h.1
    · exact noneMade_ok h.2 k hk

theorem mem_madeIds {all : List Oper} {s : FS} : ∀ {ds : List DI} {d : DI} {id : Nat}, d ∈ ds → madeId all s d = some id → id ∈ madeIds all s ds
  | [], d, id, hd, _ => by simp at hd
  | d0 :: ds, d, id, hd, h => by
    simp only [madeIds]
    rcases List.mem_cons.1 hd with rfl | hd
    · rw [h]; simp
    · have := mem_madeIds hd h
      split
      · simp [this]
      · exact this

theorem notIn_ok {n : Nat} : ∀ {l : List Nat}, notIn n l = true → ∀ k ∈ l, n ≠ k
  | [], _, k, hk => by simp at hk
  | k0 :: l, h, k, hk => by
    simp only [notIn, Bool.and_eq_true, Bool.not_eq_true', beq_eq, decide_eq_false_iff_not] at h
    rcases List.mem_cons.1 hk with rfl | hk
    · exact h.1
    · exact notIn_ok h.2 k hk

theorem apart_ok {all : List Oper} {s : FS} : ∀ {ds : List DI}, apart (madeIds all s ds) = true → ∀ d ∈ ds, ∀ d' ∈ ds, d ≠ d' → ∀ id id', madeId all s d = some id → madeId all s d' = some id' → id ≠ id'
  | [], _, d, hd, _, _, _, _, _, _, _ => by simp at hd
  | d0 :: ds, h, d, hd, d', hd', hne, id, id', h1, h2 => by
    have htail : apart (madeIds all s ds) = true := by
      simp only [madeIds] at h
      split at h
      · simp only [apart, Bool.and_eq_true] at h; exact h.2
      · exact h
    have hhead : ∀ k, madeId all s d0 = some k → ∀ x ∈ ds, ∀ j, madeId all s x = some j → k ≠ j := by
      intro k hk x hx j hj
      simp only [madeIds, hk, apart, Bool.and_eq_true] at h
      exact notIn_ok h.1 j (mem_madeIds hx hj)
    rcases List.mem_cons.1 hd with rfl | hd2
    · rcases List.mem_cons.1 hd' with rfl | hd'
      · exact (hne rfl).elim
      · exact hhead id h1 d' hd' id' h2
    · rcases List.mem_cons.1 hd' with rfl | hd'
      · exact fun e => hhead id' h2 d hd2 id h1 e.symm
      · exact apart_ok htail d hd2 d' hd' hne id id' h1 h2

theorem upTo_mem {K : Nat} : ∀ {ds : List DI} {d : DI}, d ∈ upTo K ds ↔ d ∈ ds ∧ d.lo ≤ K
  | [], d => by simp [upTo]
  | d0 :: ds, d => by
    have ih := upTo_mem (K := K) (ds := ds) (d := d)
    simp only [upTo, cond_eq, ble_eq, decide_eq_true_eq]
    split
    · rename_i h
      simp only [List.mem_cons, ih]
      constructor
      · rintro (rfl | ⟨a, b⟩)
        · exact ⟨.inl rfl, h⟩
        · exact ⟨.inr a, b⟩
      · rintro ⟨rfl | a, b⟩
        · exact .inl rfl
        · exact .inr ⟨a, b⟩
    · rename_i h
      simp only [List.mem_cons, ih]
      constructor
      · rintro ⟨a, b⟩; exact ⟨.inr a, b⟩
      · rintro ⟨rfl | a, b⟩
        · exact (h b).elim
        · exact ⟨a, b⟩

theorem anyDst_ok : ∀ (ds : List DI) {s s' : FS}, anyDst ds s = .ok s' → s'.sz = s.sz ∧ s'.df = s.df ∧ ∀ t, s'.get t = .any ∨ (s'.get t = s.get t ∧ ∀ d ∈ ds, d.o.dst ≠ some t)
  | [], s, s', h => by
    simp only [anyDst, Rs.ok.injEq] at h; subst h
    exact ⟨rfl, rfl, fun t => .inr ⟨rfl, fun d hd => by simp at hd⟩⟩
  | d :: ds, s, s', h => by
    simp only [anyDst] at h
    obtain ⟨s1, hs1, h⟩ := Rs.bind_ok h
    obtain ⟨a, b, c⟩ := anyDst_ok ds h
    cases hd : d.o.dst with
    | none =>
      rw [hd] at hs1; simp only [FS.put, Rs.ok.injEq] at hs1; subst hs1
      refine ⟨a, b, fun t => (c t).imp id fun ⟨x, y⟩ => ⟨x, fun d' hd' => ?_⟩⟩
      rcases List.mem_cons.1 hd' with rfl | hd'
      · rw [hd]; simp
      · exact y d' hd'
    | some t0 =>
      rw [hd] at hs1
      simp only [FS.put] at hs1
      obtain ⟨_, hs1⟩ := cond_ok hs1
      simp only [Rs.ok.injEq] at hs1; subst hs1
      refine ⟨a, b, fun t => ?_⟩
      rcases c t with h | ⟨x, y⟩
      · exact .inl h
      · rw [FS.get_set] at x
        by_cases ht : t = t0
        · rw [if_pos ht] at x; exact .inl x
        · rw [if_neg ht] at x
          refine .inr ⟨x, fun d' hd' => ?_⟩
          rcases List.mem_cons.1 hd' with rfl | hd'
          · rw [hd]; intro e; cases e; exact ht rfl
          · exact y d' hd'

theorem sameRow_ok {so : SO} {o : Option SO} (h : sameRow so o = true) : ∃ e n c c', so = .row e n c true .no ∧ o = some (.row e n c' true .no) ∧ ∀ i, i < n → c.get i = c'.get i ∧ (c.get i).isSome = true := by
  unfold sameRow at h
  split at h
  · rename_i e n c e' n' c'
    simp only [Bool.and_eq_true, beq_eq, decide_eq_true_eq] at h
    obtain ⟨⟨rfl, rfl⟩, h⟩ := h
    refine ⟨e, n, c, c', rfl, rfl, ?_⟩
    have key : ∀ k, cellsBeq c c' k = true → ∀ i, i < k → c.get i = c'.get i ∧ (c.get i).isSome = true := by
      intro k
      induction k with
      | zero => intro _ i hi; omega
      | succ k ih =>
        intro hk i hi
        simp only [cellsBeq, Bool.and_eq_true] at hk
        by_cases hik : i = k
        · subst hik
          have := hk.1
          split at this
          · rename_i x y hx hy
            rw [hx, hy, SV.beq_sound _ _ this]
            exact ⟨rfl, rfl⟩
          · cases this
        · exact ih hk.2 i (by omega)
    exact key n h
  · cases h

theorem RO.sameRow {P : Program} {L : Loc} {so so' : SO} (h : RO P E ρ L w so) (hs : Eng.sameRow so (some so') = true) : RO P E ρ L w so' := by
  obtain ⟨e, n, c, c', rfl, ho, hc⟩ := sameRow_ok hs
  cases ho
  obtain ⟨cc, fr, h1, h2, h3, h4, h5, h6, h7⟩ := h
  exact ⟨cc, fr, h1, h2, h3, h4, fun i hi => by
    obtain ⟨x, v, a, b⟩ := h5 i hi
    exact ⟨x, v, by rw [← (hc i hi).1]; exact a, b⟩, h6, h7⟩

end
end Go.Eng
