import Derived.Test.YtjnejkmcmmablaaGreatDoorEngBuild
/-
  Operations that change no memory, one by one.
-/
namespace Go.Eng
open Go.RowKit

section
variable {C : Cx} {ρ : Nat → Value} {w0 : World} {E : Env} {m : Mem} {w : World} {s : FS} {ev : Operand → Value}

theorem evs_ok : ∀ {xs : List Operand} {vs : List SV}, (∀ x, x ∈ xs → ∀ v, s.ev x = .ok v → R E ρ v (ev x)) → s.evs xs = .ok vs → Rs' E ρ vs (xs.map ev)
  | [], vs, _, h => by simp only [FS.evs, Rs.ok.injEq] at h; subst h; exact Rs'.nil
  | x :: xs, vs, hev, h => by
    simp only [FS.evs] at h
    obtain ⟨v, hv, h⟩ := Rs.bind_ok h
    obtain ⟨us, hus, h⟩ := Rs.bind_ok h
    simp only [Rs.ok.injEq] at h; subst h
    exact Rs'.cons (hev x (by simp) v hv) (evs_ok (fun y hy => hev y (by simp [hy])) hus)

theorem evParts_ok : ∀ {xs : List (Nat × Operand)} {vs : List (Nat × SV)}, (∀ x, x ∈ xs → ∀ v, s.ev x.2 = .ok v → R E ρ v (ev x.2)) → s.evParts xs = .ok vs → RPs E ρ vs (xs.map fun (i, x) => (i, ev x))
  | [], vs, _, h => by simp only [FS.evParts, Rs.ok.injEq] at h; subst h; rfl
  | (i, x) :: xs, vs, hev, h => by
    simp only [FS.evParts] at h
    obtain ⟨v, hv, h⟩ := Rs.bind_ok h
    obtain ⟨us, hus, h⟩ := Rs.bind_ok h
    simp only [Rs.ok.injEq] at h; subst h
    exact ⟨ev x, _, hev (i, x) (by simp) v hv, evParts_ok (fun y hy => hev y (by simp [hy])) hus, rfl⟩

def RO' (E : Env) (ρ : Nat → Value) : Option SV → Option Value → Prop
  | none, none => True
  | some x, some v => R E ρ x v
  | _, _ => False

theorem evO_ok {x : Option Operand} {v : Option SV} (hev : ∀ y, x = some y → ∀ v, s.ev y = .ok v → R E ρ v (ev y)) (h : s.evO x = .ok v) : RO' E ρ v (x.map ev) := by
  cases x with
  | none => simp only [FS.evO, Rs.ok.injEq] at h; subst h; trivial
  | some x =>
    simp only [FS.evO] at h
    obtain ⟨u, hu, h⟩ := Rs.bind_ok h
    simp only [Rs.ok.injEq] at h; subst h
    exact hev x rfl u hu

theorem asNat_ok {x : SV} {n : Nat} {v : Value} (h : asNat x = .ok n) (hr : R E ρ x v) : ∃ k, v = .int k (n : Int) := by
  unfold asNat at h; split at h
  · rename_i k n
    simp only [Rs.ok.injEq] at h; subst h
    simp only [R] at hr
    exact ⟨k, hr⟩
  · simp at h

/- Sums of texts and the like. -/
theorem eqS_eq {l n l' n' : Nat} (h : n < 256 ^ l) (h' : n' < 256 ^ l') : eqS l n l' n' = decide (mkStr l n = mkStr l' n') := by
  rw [Bool.eq_iff_iff]
  simp only [eqS, beq_eq, Bool.and_eq_true, decide_eq_true_eq]
  constructor
  · rintro ⟨rfl, rfl⟩; rfl
  · intro e
    have : bytesOf l n = bytesOf l' n' := by rw [← toList_mkStr, ← toList_mkStr, e]
    exact bytesOf_inj h h' this

theorem toList_beq (a b : ByteArray) : (a.toList == b.toList) = decide (a = b) := by
  rw [Bool.eq_iff_iff]
  simp only [beq_iff_eq, decide_eq_true_eq]
  constructor
  · intro h
    rw [ByteArray.toList_eq, ByteArray.toList_eq] at h
    apply ByteArray.ext
    exact Array.toList_inj.1 h
  · intro h; rw [h]

theorem binStr_ok {P : Program} {op : BinOp} {l n l' n' : Nat} {x : SV} (h1 : n < 256 ^ l) (h2 : n' < 256 ^ l') (h : binStr op l n l' n' = .ok x) (t : TypeId) (w : World) :
    ∃ v, (binOp op t (.string (mkStr l n)) (.string (mkStr l' n'))).run P w = .ok v w ∧ ∀ E ρ, R E ρ x v := by
  have hl : ltS l n l' n' = Op.bytesLess (mkStr l n).toList (mkStr l' n').toList := by rw [toList_mkStr, toList_mkStr]; rfl
  have he := eqS_eq h1 h2
  have he' := toList_beq (mkStr l n) (mkStr l' n')
  have hop : binOp op t (.string (mkStr l n)) (.string (mkStr l' n')) = Op.stringOp op (mkStr l n) (mkStr l' n') := by cases op <;> rfl
  cases op <;> simp only [binStr] at h
  case add =>
    obtain ⟨hb, h⟩ := cond_ok h
    rw [ble_eq, decide_eq_true_eq] at hb
    simp only [Rs.ok.injEq] at h; subst h
    have hb' : l + l' ≤ 9223372036854775807 := hb
    refine ⟨.string (mkStr l n ++ mkStr l' n'), ?_, fun _ _ => ?_⟩
    · rw [hop]
      simp only [Op.stringOp, size_mkStr]
      rw [if_neg (by simp [IntKind.max, IntKind.signed, IntKind.bits]; omega)]
      rfl
    · simp only [catS, R]
      exact ⟨cat_lt h1 h2, by rw [← mkStr_cat l n l' n' h2]; rfl⟩
  case eql => simp only [Rs.ok.injEq] at h; subst h; exact ⟨_, by rw [hop]; rfl, fun _ _ => by simp only [R]; rw [he, he']⟩
  case neq => simp only [Rs.ok.injEq] at h; subst h; exact ⟨_, by rw [hop]; rfl, fun _ _ => by simp only [R]; rw [he, he']⟩
  case lss => simp only [Rs.ok.injEq] at h; subst h; exact ⟨_, by rw [hop]; rfl, fun _ _ => by simp only [R]; rw [hl]⟩
  case leq => simp only [Rs.ok.injEq] at h; subst h; exact ⟨_, by rw [hop]; rfl, fun _ _ => by simp only [R]; rw [he, he', hl]⟩
  case gtr => simp only [Rs.ok.injEq] at h; subst h; exact ⟨_, by rw [hop]; rfl, fun _ _ => by simp only [R]; rw [he, he', hl]⟩
  case geq => simp only [Rs.ok.injEq] at h; subst h; exact ⟨_, by rw [hop]; rfl, fun _ _ => by simp only [R]; rw [hl]⟩
  all_goals simp at h

theorem ba_beq (a b : ByteArray) : (a == b) = true ↔ a = b := by
  cases a with | mk a => cases b with | mk b =>
  show (a == b) = true ↔ _
  simp

theorem dec_bool (a b : Bool) : cond a b (!b) = (a == b) := by cases a <;> cases b <;> rfl

set_option maxHeartbeats 2000000 in
theorem eqIn_ok (hC : CxOk C ρ w0) : ∀ (d : Nat) (t : TypeId) (x y : SV) (b : Bool) (vx vy : Value), R E ρ x vx → R E ρ y vy → eqIn C d t x y = .ok b →
    ∀ w, (Op.equalIn d t vx vy).run C.P w = .ok b w := by
  intro d
  induction d with
  | zero => intro t x y b vx vy _ _ h; simp [eqIn] at h
  | succ d ih =>
    intro t x y b vx vy hx hy h w
    simp only [eqIn] at h
    obtain ⟨u, hu, h⟩ := Rs.bind_ok h
    have hund := CxOk.run_und hC hu w
    split at h
    · simp only [Rs.ok.injEq, dec_bool] at h
      simp only [R] at hx hy; subst hx hy
      simp [Op.equalIn, hund, h]
    · obtain ⟨hk, h9⟩ := cond_ok h
      have := kindEq_eq hk; subst this
      simp only [Rs.ok.injEq, intEq_eq] at h9
      simp only [R] at hx hy; subst hx hy
      simp [Op.equalIn, hund, h9]
    · simp only [Rs.ok.injEq] at h
      simp only [R] at hx hy
      obtain ⟨h1, rfl⟩ := hx
      obtain ⟨h2, rfl⟩ := hy
      rw [eqS_eq h1 h2] at h
      simp only [Op.equalIn, Sem.run_bind, hund, Result.andThen_ok, Sem.run_pure]
      congr 1
      rw [← h, Bool.eq_iff_iff, ba_beq]; simp
    · obtain ⟨z, hz, h8⟩ := Rs.bind_ok h
      obtain ⟨hc, h7⟩ := cond_ok h8
      simp only [beq_eq, blt_eq, Bool.and_eq_true, decide_eq_true_eq] at hc
      obtain ⟨rfl, hz0⟩ := hc
      simp only [Rs.ok.injEq, beq_eq] at h7
      simp only [R] at hx hy
      obtain ⟨L, hL, rfl⟩ := hx
      obtain ⟨L', hL', rfl⟩ := hy
      rw [hL] at hL'; cases hL'
      have hs := CxOk.run_size hC hz w
      simp only [Op.equalIn, Sem.run_bind, hund, Result.andThen_ok, hs]
      have hz' : z ≠ 0 := by omega
      simp only [ne_eq, hz', not_false_eq_true, if_true, sameAddr, BEq.rfl, Sem.run_pure]
      congr 1
      subst h7
      rw [Bool.eq_iff_iff]; simp
    · simp only [Rs.ok.injEq] at h; simp only [R] at hx hy; subst hx hy h; simp [Op.equalIn, hund]
    · simp only [Rs.ok.injEq] at h; simp only [R] at hx hy; obtain ⟨L, _, rfl⟩ := hy; subst hx h; simp [Op.equalIn, hund]
    · simp only [Rs.ok.injEq] at h; simp only [R] at hx hy; obtain ⟨L, _, rfl⟩ := hx; subst hy h; simp [Op.equalIn, hund]
    · simp only [Rs.ok.injEq] at h; simp only [R] at hx hy; subst hx hy h; simp [Op.equalIn, hund]
    · simp only [Rs.ok.injEq] at h; simp only [R] at hx hy; subst hx hy h; simp [Op.equalIn, hund]
    · simp only [Rs.ok.injEq] at h; simp only [R] at hx hy; subst hx hy h; simp [Op.equalIn, hund]
    · simp only [Rs.ok.injEq] at h; simp only [R] at hx hy; obtain ⟨_, _, rfl⟩ := hy; subst hx h; simp [Op.equalIn, hund]
    · simp only [Rs.ok.injEq] at h; simp only [R] at hx hy; obtain ⟨_, _, rfl⟩ := hx; subst hy h; simp [Op.equalIn, hund]
    · rename_i tx vx' ty vy'
      simp only [R] at hx hy
      obtain ⟨a, ha, rfl⟩ := hx
      obtain ⟨a', ha', rfl⟩ := hy
      rw [cond_eq, beq_eq] at h
      split at h
      · rename_i he
        rw [decide_eq_true_eq] at he; subst he
        obtain ⟨i, hi, h⟩ := Rs.bind_ok h
        obtain ⟨hcmp, h⟩ := cond_ok h
        have := ih _ _ _ _ _ _ ha ha' h w
        simp [Op.equalIn, hund, run_typeInfo w (CxOk.info_ok hC hi), hcmp, this]
      · rename_i he
        rw [decide_eq_true_eq] at he
        simp only [Rs.ok.injEq] at h; subst h
        simp [Op.equalIn, hund, he]
    · simp only [Rs.ok.injEq] at h; simp only [R] at hx hy; subst hx hy h; simp [Op.equalIn, hund]
    · simp only [Rs.ok.injEq] at h; simp only [R] at hx hy; obtain ⟨_, _, _, rfl, _⟩ := hy; subst hx h; simp [Op.equalIn, hund]
    · simp only [Rs.ok.injEq] at h; simp only [R] at hx hy; obtain ⟨_, _, _, rfl, _⟩ := hx; subst hy h; simp [Op.equalIn, hund]
    · simp only [Rs.ok.injEq] at h; simp only [R] at hx hy; obtain ⟨_, _, rfl⟩ := hy; subst hx h; simp [Op.equalIn, hund]
    · simp only [Rs.ok.injEq] at h; simp only [R] at hx hy; obtain ⟨_, _, rfl⟩ := hx; subst hy h; simp [Op.equalIn, hund]
    · simp only [Rs.ok.injEq] at h; simp only [R] at hx hy; subst hx hy h; simp [Op.equalIn, hund]
    · simp only [Rs.ok.injEq] at h; simp only [R] at hx hy; obtain ⟨_, _, rfl⟩ := hy; subst hx h; simp [Op.equalIn, hund]
    · simp only [Rs.ok.injEq] at h; simp only [R] at hx hy; obtain ⟨_, _, rfl⟩ := hx; subst hy h; simp [Op.equalIn, hund]
    · simp only [Rs.ok.injEq] at h; simp only [R] at hx hy; subst hx hy h; simp [Op.equalIn, hund]
    · simp only [Rs.ok.injEq] at h; simp only [R] at hx hy; obtain ⟨_, _, _, _, rfl⟩ := hy; subst hx h; simp [Op.equalIn, hund]
    · simp only [Rs.ok.injEq] at h; simp only [R] at hx hy; obtain ⟨_, _, _, _, rfl⟩ := hx; subst hy h; simp [Op.equalIn, hund]
    · simp at h

theorem eqGuard_pure {op : BinOp} {t : TypeId} {ox oy : Operand} {a b : Value} (h : ∀ c d, a = .agg c → b = .agg d → False) (h2 : (a = .nilIface → b = .nilIface → (Go.Eng.isConst ox || Go.Eng.isConst oy) = true)) (w : World) :
    (eqGuard op t ox oy a b).run C.P w = .ok () w := by
  have key : ∀ o : BinOp, (o = .eql ∨ o = .neq) → (eqGuard o t ox oy a b).run C.P w = .ok () w := by
    intro o ho
    have h3 : a = .nilIface → b = .nilIface → (∃ v, ox = .const v) ∨ (∃ v, oy = .const v) := by
      intro h4 h5
      have := h2 h4 h5
      cases ox <;> cases oy <;> simp_all [Go.Eng.isConst]
    rcases ho with rfl | rfl
    all_goals
      simp only [eqGuard]
      simp only [Bool.not_true, Bool.false_eq_true, if_false]
      split
      · rcases h3 rfl rfl with ⟨v, rfl⟩ | ⟨v, rfl⟩
        · rfl
        · cases ox <;> rfl
      · exact (h _ _ rfl rfl).elim
      · rfl
  cases op <;> first | exact key _ (.inl rfl) | exact key _ (.inr rfl) | rfl

theorem eq_plain {d : Nat} {t : TypeId} {x y : SV} {b : Bool} {vx vy : Value} (hx : R E ρ x vx) (hy : R E ρ y vy) (h : eqIn C (d + 1) t x y = .ok b)
    (hn : ∀ k a k' b, x = .int k a → y = .int k' b → False) (hs : ∀ k a k' b, x = .str k a → y = .str k' b → False) :
    (∀ c d, vx = .agg c → vy = .agg d → False) ∧ (vx = .nilIface → vy = .nilIface → bothNil x y = true) ∧
    binOp .eql t vx vy = (do pure (.bool (← Op.equal t vx vy))) ∧ binOp .neq t vx vy = (do pure (.bool (!(← Op.equal t vx vy)))) := by
  simp only [eqIn] at h
  obtain ⟨u, hu, h⟩ := Rs.bind_ok h
  split at h
  case h_2 => exact (hn _ _ _ _ rfl rfl).elim
  case h_3 => exact (hs _ _ _ _ rfl rfl).elim
  all_goals clear hn hs hu
  all_goals try (simp at h; done)
  all_goals clear h
  all_goals simp only [R] at hx hy
  all_goals first
    | (subst hx hy; exact ⟨(fun _ _ h => by cases h), (fun h1 h2 => by first | rfl | (cases h1; done) | (cases h2; done)), rfl, rfl⟩)
    | (obtain ⟨_, _, rfl⟩ := hx; subst hy; exact ⟨(fun _ _ h => by cases h), (fun h1 h2 => by first | (cases h1; done) | (cases h2; done)), rfl, rfl⟩)
    | (obtain ⟨_, _, rfl⟩ := hy; subst hx; exact ⟨(fun _ _ h => by cases h), (fun h1 h2 => by first | (cases h1; done) | (cases h2; done)), rfl, rfl⟩)
    | (obtain ⟨_, _, rfl⟩ := hx; obtain ⟨_, _, rfl⟩ := hy; exact ⟨(fun _ _ h => by cases h), (fun h1 h2 => by first | (cases h1; done) | (cases h2; done)), rfl, rfl⟩)
    | (obtain ⟨_, _, _, rfl, _⟩ := hx; subst hy; exact ⟨(fun _ _ h => by cases h), (fun h1 h2 => by first | (cases h1; done) | (cases h2; done)), rfl, rfl⟩)
    | (obtain ⟨_, _, _, rfl, _⟩ := hy; subst hx; exact ⟨(fun _ _ h => by cases h), (fun h1 h2 => by first | (cases h1; done) | (cases h2; done)), rfl, rfl⟩)
    | (obtain ⟨_, _, _, _, rfl⟩ := hx; subst hy; exact ⟨(fun _ _ h => by cases h), (fun h1 h2 => by first | (cases h1; done) | (cases h2; done)), rfl, rfl⟩)
    | (obtain ⟨_, _, _, _, rfl⟩ := hy; subst hx; exact ⟨(fun _ _ h => by cases h), (fun h1 h2 => by first | (cases h1; done) | (cases h2; done)), rfl, rfl⟩)

theorem eqV_ok (hC : CxOk C ρ w0) {op : BinOp} {t : TypeId} {ox oy : Operand} {x y r : SV} {vx vy : Value} (hx : R E ρ x vx) (hy : R E ρ y vy)
    (hn : ∀ k a k' b, x = .int k a → y = .int k' b → False) (hs : ∀ k a k' b, x = .str k a → y = .str k' b → False)
    (hg : (Go.Eng.isConst ox || Go.Eng.isConst oy || !bothNil x y) = true) (h : eqV C op t x y = .ok r) (w : World) :
    ∃ v, (do eqGuard op t ox oy vx vy; binOp op t vx vy : Sem Value).run C.P w = .ok v w ∧ R E ρ r v := by
  unfold eqV at h
  split at h
  · obtain ⟨b, hb, h⟩ := Rs.bind_ok h
    simp only [Rs.ok.injEq] at h; subst h
    obtain ⟨h1, h2, h3, _⟩ := eq_plain hx hy hb hn hs
    have hr : (Op.equal t vx vy).run C.P w = .ok b w := eqIn_ok hC 10000 t x y _ vx vy hx hy hb w
    refine ⟨.bool b, ?_, by simp [R]⟩
    rw [Sem.run_bind, eqGuard_pure h1 (fun a c => by have := h2 a c; simp [this] at hg; simp [hg]) w, Result.andThen_ok, h3, Sem.run_bind, hr]
    rfl
  · obtain ⟨b, hb, h⟩ := Rs.bind_ok h
    simp only [Rs.ok.injEq] at h; subst h
    obtain ⟨h1, h2, _, h3⟩ := eq_plain hx hy hb hn hs
    have hr : (Op.equal t vx vy).run C.P w = .ok b w := eqIn_ok hC 10000 t x y _ vx vy hx hy hb w
    refine ⟨.bool (!b), ?_, by simp [R]⟩
    rw [Sem.run_bind, eqGuard_pure h1 (fun a c => by have := h2 a c; simp [this] at hg; simp [hg]) w, Result.andThen_ok, h3, Sem.run_bind, hr]
    rfl
  · simp at h

theorem binS_ok (hC : CxOk C ρ w0) {op : BinOp} {t : TypeId} {ox oy : Operand} {x y r : SV} {vx vy : Value} (hx : R E ρ x vx) (hy : R E ρ y vy)
    (h : binS C op t (Go.Eng.isConst ox || Go.Eng.isConst oy) x y = .ok r) (w : World) :
    ∃ v, (do eqGuard op t ox oy vx vy; binOp op t vx vy : Sem Value).run C.P w = .ok v w ∧ R E ρ r v := by
  unfold binS at h
  split at h
  · rename_i k a k' b
    simp only [R] at hx hy; subst hx hy
    have hg : ∀ w, (eqGuard op t ox oy (.int k a) (.int k' b)).run C.P w = .ok () w := eqGuard_pure (fun _ _ h => by cases h) (fun h => by cases h)
    simp only [Sem.run_bind, hg, Result.andThen_ok]
    split at h
    · obtain ⟨v, hv, hr⟩ := shiftS_ok (P := C.P) (yk := k') h t w
      exact ⟨v, hv, hr E ρ⟩
    · obtain ⟨v, hv, hr⟩ := shiftS_ok (P := C.P) (yk := k') h t w
      exact ⟨v, hv, hr E ρ⟩
    · obtain ⟨hk, h7⟩ := cond_ok h
      have := kindEq_eq hk; subst this
      obtain ⟨v, hv, hr⟩ := binInt_ok (P := C.P) h7 t w
      exact ⟨v, hv, hr E ρ⟩
  · simp only [R] at hx hy
    obtain ⟨h1, rfl⟩ := hx
    obtain ⟨h2, rfl⟩ := hy
    have hg : ∀ a b w, (eqGuard op t ox oy (.string a) (.string b)).run C.P w = .ok () w := fun a b => eqGuard_pure (fun _ _ h => by cases h) (fun h => by cases h)
    simp only [Sem.run_bind, hg, Result.andThen_ok]
    obtain ⟨v, hv, hr⟩ := binStr_ok (P := C.P) h1 h2 h t w
    exact ⟨v, hv, hr E ρ⟩
  · obtain ⟨vr, hr, hrun⟩ := hC.fact h E vx vy hx hy
    exact ⟨vr, hrun ox oy w, hr⟩
  · obtain ⟨vr, hr, hrun⟩ := hC.fact h E vx vy hx hy
    exact ⟨vr, hrun ox oy w, hr⟩
  · rename_i hn hs _ _ _
    obtain ⟨hc, h9⟩ := cond_ok h
    first | exact eqV_ok hC hx hy hn hs hc h9 w | exact eqV_ok hC hx hy (by assumption) (by assumption) hc h9 w

end
end Go.Eng
