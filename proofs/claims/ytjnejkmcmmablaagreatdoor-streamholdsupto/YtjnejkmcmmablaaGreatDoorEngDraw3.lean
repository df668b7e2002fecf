import Derived.Test.YtjnejkmcmmablaaGreatDoorEngDraw2
/-
  A region whose order is open: every order comes to what the run in stages has laid.
-/
namespace Go.Eng
open Go.RowKit

theorem dstsOk_at {n : Nat} : ∀ {ds : List DI}, dstsOk n ds = true → ∀ d ∈ ds, ∀ t, d.o.dst = some t → t < n
  | [], _, d, hd, _, _ => by simp at hd
  | d0 :: ds, h, d, hd, t, ht => by
    simp only [dstsOk, Bool.and_eq_true] at h
    rcases List.mem_cons.1 hd with rfl | hd
    · have := h.1; rw [ht] at this; simpa [blt_eq] using this
    · exact dstsOk_at h.2 d hd t ht

theorem count_set : ∀ (l : List Bool) (i : Nat), l[i]? = some false → (l.set i true).count false + 1 = l.count false
  | [], i, h => by simp at h
  | b :: l, i, h => by
    cases i with
    | zero => simp at h; subst h; simp
    | succ i =>
      have := count_set l i (by simpa using h)
      simp only [List.set_cons_succ, List.count_cons]
      omega

theorem mem_ready {md : Region.Mode} {ops : Array Oper} {X : Array Bool} {i : Nat} : i ∈ Region.ready md ops X ↔ i < ops.size ∧ X.getD i true = false ∧ ∃ o, ops[i]? = some o ∧ ∀ e ∈ o.after.toList, Region.binds md e = true → X.getD e.on false = true := by
  unfold Region.ready
  rw [List.mem_filter, List.mem_range]
  constructor
  · rintro ⟨h1, h2⟩
    simp only [Bool.and_eq_true, Bool.not_eq_true'] at h2
    obtain ⟨h2, h3⟩ := h2
    refine ⟨h1, h2, ops[i], by simp [h1], ?_⟩
    have ho : ops[i]? = some ops[i] := by simp [h1]
    rw [ho] at h3
    simp only [Option.map_some, Option.getD_some, Array.all_eq_true', Bool.or_eq_true, Bool.not_eq_true'] at h3
    intro e he hb
    rcases h3 e (by simpa using he) with h | h
    · rw [h] at hb; cases hb
    · exact h
  · rintro ⟨h1, h2, o, ho, h3⟩
    refine ⟨h1, ?_⟩
    rw [h2, ho]
    simp only [Bool.not_false, Option.map_some, Option.getD_some, Bool.true_and, Array.all_eq_true', Bool.or_eq_true, Bool.not_eq_true']
    intro e he
    cases hb : Region.binds md e with
    | false => exact .inl rfl
    | true => exact .inr (h3 e (by simpa using he) hb)

/-- What is fixed of a region's run. -/
structure DCtx (C : Cx) (ih : Run) (ops : Array Oper) (s : FS) (m0 : Mem) (p : Plan) (e : XE) (sF : FS) (mF : Mem) (T : List St) where
  plan : PlanOk C.types ops p
  off : FS.Off p.items s sF
  chain : ChainOk C ih ops.toList p.items e mF p.hs m0 T
  dsts : dstsOk sF.sz (upTo (T.length - 1) p.items) = true
  same : itemsOk C ops.toList sF T (upTo (T.length - 1) p.items) = true
  st : stOk ops.toList ops sF (madeIds ops.toList sF (upTo (T.length - 1) p.items)) T = true
  ap : apart (madeIds ops.toList sF (upTo (T.length - 1) p.items)) = true
  old : noneMade 0 m0.nx (madeIds ops.toList sF (upTo (T.length - 1) p.items)) = true

section
variable {C : Cx} {ρ : Nat → Value} {w0 : World} {ih : Run} {ops : Array Oper} {s sF : FS} {m0 mF : Mem} {p : Plan} {e : XE} {T : List St}

theorem DCtx.item_of (D : DCtx C ih ops s m0 p e sF mF T) {i : Nat} {d : DI} (h : p.items[i]? = some d) : ∃ o, ops[i]? = some o ∧ d = itemAt C.types D.plan.tab p.hs i o := by
  have hi : i < ops.size := by rw [← D.plan.items]; exact (List.getElem?_eq_some_iff.1 h).1
  refine ⟨ops[i], by simp [hi], ?_⟩
  have := D.plan.item i ops[i] (by simp [hi])
  rw [h] at this
  exact Option.some.inj this

/-- What holds after some of the operations have run. -/
structure Inv (D : DCtx C ih ops s m0 p e sF mF T) (ρ : Nat → Value) (w0 : World) (E0 : Env) (X : Array Bool) (a : Act) (w : World) (E : Env) (h : Nat) (t : St) (ts : List St) (mp : Mem) : Prop where
  size : X.size = ops.size
  clo : ∀ (i : Nat), X[i]? = some true → ∀ j, Nat.testBit (maskAt D.plan.tab i) j = true → X[j]? = some true
  hv : ∀ (k x : Nat), p.hs[k]? = some x → (X[x]? = some true ↔ k < h)
  at_ : T.drop h = t :: ts
  chain : ChainOk C ih ops.toList p.items e mF (p.hs.drop h) mp (t :: ts)
  fsize : a.tmps.size = s.sz
  tm : ∀ t, (∀ j, D.plan.wr.get t = some j → X[j]? = some true) → R E ρ (sF.get t) (a.tmps.getD t undef)
  df : RDs E ρ s.df a.defers
  mem : RM C.P ρ w0 E t.mem w
  made : ∀ (i : Nat) (d : DI), p.items[i]? = some d → d.lo ≤ T.length - 1 → X[i]? ≠ some true → ∀ id, madeId ops.toList sF d = some id → E id = none
  agree : Agree m0.nx E0 E
  le : E0.le E
  nx : m0.nx ≤ t.mem.nx

theorem ChainOk.ne {all : List Oper} {items : List DI} {hs : List Nat} {m : Mem} {T : List St} (h : ChainOk C ih all items e mF hs m T) : ∃ t ts, T = t :: ts ∧ m.Ext t.mem := by
  cases hs with
  | nil =>
    cases T with
    | nil => exact h.elim
    | cons t ts =>
      cases ts with
      | nil => exact ⟨t, [], rfl, h.2.1⟩
      | cons _ _ => exact h.elim
  | cons i hs =>
    cases T with
    | nil => exact h.elim
    | cons t ts => exact ⟨t, ts, rfl, h.1⟩

theorem Inv.start (D : DCtx C ih ops s m0 p e sF mF T) {E0 : Env} {a : Act} {w : World} (hM : RM C.P ρ w0 E0 m0 w) (hF : RF E0 ρ s a) : ∃ t ts, Inv D ρ w0 E0 (Array.replicate ops.size false) a w E0 0 t ts m0 := by
  obtain ⟨t, ts, hT, hext⟩ := D.chain.ne
  have hX : ∀ i, (Array.replicate ops.size false)[i]? ≠ some true := fun i h => by
    rw [Array.getElem?_replicate] at h
    split at h <;> cases h
  refine ⟨t, ts, by simp, fun i h => (hX i h).elim, fun k x _ => ⟨fun h => (hX x h).elim, fun h => by omega⟩, by rw [List.drop_zero]; exact hT, by rw [List.drop_zero, ← hT]; exact D.chain, by rw [hF.size], fun t ht => ?_, hF.defers, hM.ext hext, fun i d hd hlo _ id hid => ?_, fun _ _ => rfl, Env.le_refl _, hext.1⟩
  · rw [D.off.get t fun d hd hdst => ?_]
    · exact hF.tmps t
    · obtain ⟨i, hi, hd⟩ := List.getElem_of_mem hd
      obtain ⟨o, ho, rfl⟩ := D.item_of (by rw [List.getElem?_eq_getElem hi, hd])
      exact hX i (ht i (D.plan.writes i o t ho hdst))
  · have := noneMade_ok D.old id (mem_madeIds (upTo_mem.2 ⟨List.mem_of_getElem? hd, hlo⟩) hid)
    exact hM.none_above (by omega)

theorem setX {X : Array Bool} {i j : Nat} (hi : i < X.size) : (X.setIfInBounds i true)[j]? = if j = i then some true else X[j]? := by
  rw [Array.getElem?_setIfInBounds]
  by_cases h : i = j
  · subst h; rw [if_pos rfl, if_pos hi, if_pos rfl]
  · rw [if_neg h, if_neg (fun e => h e.symm)]

theorem Inv.next {D : DCtx C ih ops s m0 p e sF mF T} {E0 : Env} {X : Array Bool} {a : Act} {w : World} {E : Env} {h : Nat} {t : St} {ts : List St} {mp : Mem} (I : Inv D ρ w0 E0 X a w E h t ts mp) {i : Nat} {o : Oper} (hio : ops[i]? = some o)
    (hed : ∀ j, Nat.testBit (maskAt D.plan.tab i) j = true → X[j]? = some true) (hdst : ∀ t0, o.dst = some t0 → t0 < s.sz) {E' : Env} {h' : Nat} {t' : St} {ts' : List St} {mp' : Mem} {w' : World} {v' : Value} (hle : E.le E') (hag : Agree m0.nx E E')
    (hhv : ∀ k x, p.hs[k]? = some x → ((if x = i then some true else X[x]?) = some true ↔ k < h')) (hT : T.drop h' = t' :: ts') (hch : ChainOk C ih ops.toList p.items e mF (p.hs.drop h') mp' (t' :: ts')) (hM : RM C.P ρ w0 E' t'.mem w')
    (hv : ∀ t0, o.dst = some t0 → R E' ρ (sF.get t0) v') (hmade : ∀ j d, p.items[j]? = some d → j ≠ i → d.lo ≤ T.length - 1 → X[j]? ≠ some true → ∀ id, madeId ops.toList sF d = some id → E' id = none) (hnx : m0.nx ≤ t'.mem.nx) :
    Inv D ρ w0 E0 (X.setIfInBounds i true) (a.put o.dst v') w' E' h' t' ts' mp' := by
  have hi : i < X.size := by rw [I.size]; exact (Array.getElem?_eq_some_iff.1 hio).1
  refine ⟨by simp [I.size], fun j hj b hb => ?_, fun k x hx => by rw [setX hi]; exact hhv k x hx, hT, hch, ?_, fun t0 ht0 => ?_, ?_, hM, fun j d hd hlo hX id hid => ?_, fun id hid => (hag id hid).trans (I.agree id hid), Env.le_trans I.le hle, hnx⟩
  · rw [setX hi] at hj ⊢
    by_cases hb' : b = i
    · rw [if_pos hb']
    · rw [if_neg hb']
      by_cases hj' : j = i
      · subst hj'; exact hed b hb
      · rw [if_neg hj'] at hj; exact I.clo j hj b hb
  · cases o.dst <;> simp [Act.put, I.fsize]
  · cases hd : o.dst with
    | none =>
      refine R.mono hle _ _ (I.tm t0 fun j hj => ?_)
      have := ht0 j hj
      rw [setX hi] at this
      split at this
      · rename_i hji
        subst hji
        obtain ⟨o', ho', hdo⟩ := D.plan.written t0 _ hj
        rw [hio] at ho'; cases ho'
        rw [hd] at hdo; cases hdo
      · exact this
    | some d0 =>
      simp only [Act.put]
      have hlt := hdst d0 hd
      by_cases ht : t0 = d0
      · subst ht
        have : (a.tmps.setIfInBounds t0 v').getD t0 undef = v' := by simp [Array.getD, I.fsize, hlt]
        rw [this]; exact hv t0 hd
      · have : (a.tmps.setIfInBounds d0 v').getD t0 undef = a.tmps.getD t0 undef := by
          simp only [Array.getD_eq_getD_getElem?]
          rw [Array.getElem?_setIfInBounds_ne (fun e => ht e.symm)]
        rw [this]
        refine R.mono hle _ _ (I.tm t0 fun j hj => ?_)
        have := ht0 j hj
        rw [setX hi] at this
        split at this
        · rename_i hji
          subst hji
          obtain ⟨o', ho', hdo⟩ := D.plan.written t0 _ hj
          rw [hio] at ho'; cases ho'
          rw [hd] at hdo; cases hdo
          exact (ht rfl).elim
        · exact this
  · have : (a.put o.dst v').defers = a.defers := by cases o.dst <;> rfl
    rw [this]; exact I.df.mono hle
  · rw [setX hi] at hX
    split at hX
    · exact (hX rfl).elim
    · rename_i hji
      exact hmade j d hd hji hlo hX id hid

end
end Go.Eng
