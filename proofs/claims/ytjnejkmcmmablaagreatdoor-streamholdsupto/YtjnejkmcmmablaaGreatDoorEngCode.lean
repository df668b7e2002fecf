import Derived.Test.YtjnejkmcmmablaaGreatDoorEngHeavy5
import Derived.LoopN
import Derived.Scope
/-
  Regions in one order; code; calls.
-/
namespace Go.Eng
open Go.RowKit

def RX (E : Env) (ρ : Nat → Value) : XE → Exit → Prop
  | .normal, .normal => True
  | .exit i, .exit j => j = i
  | .goto i, .goto j => j = i
  | .ret, .ret => True
  | .panic ch, .panic chain => RCh E ρ ch chain
  | _, _ => False

/-- What the run says of an exit. -/
def XOut (C : Cx) (ρ : Nat → Value) (w0 : World) (E : Env) (m : Mem) (e : XE) (s' : FS) (m' : Mem) : Exit → Act → World → Prop :=
  fun e1 a1 w1 => Left C ρ w0 E m m' w1 fun E' => RX E' ρ e e1 ∧ RF E' ρ s' a1

section
variable {C : Cx} {ρ : Nat → Value} {w0 : World} {E : Env} {m : Mem} {w : World}

theorem Left.trans {m1 m2 : Mem} {w1 w2 : World} {K : Env → Prop} (h : Left C ρ w0 E m m1 w1 fun E' => Left C ρ w0 E' m1 m2 w2 K) : Left C ρ w0 E m m2 w2 K := by
  obtain ⟨E', a1, a2, _, a4, E'', b1, b2, b3, b4, b5⟩ := h
  exact ⟨E'', fun id hid => (b1 id (Nat.lt_of_lt_of_le hid a4)).trans (a1 id hid), Env.le_trans a2 b2, b3, Nat.le_trans a4 b4, b5⟩

theorem Left.mono {m1 : Mem} {w1 : World} {K K' : Env → Prop} (h : Left C ρ w0 E m m1 w1 K) (hk : ∀ E', E.le E' → K E' → K' E') : Left C ρ w0 E m m1 w1 K' := by
  obtain ⟨E', a1, a2, a3, a4, a5⟩ := h
  exact ⟨E', a1, a2, a3, a4, hk E' a2 a5⟩

theorem guard_ok {ops : Array Oper} {o : Oper} {s : FS} {a : Act} {g : Bool} (hR : ∀ d, d ∈ o.looksAt ops → R E ρ (s.get d) (a.tmps.getD d undef)) (h : guardOk ops.toList s o = .ok g) : Region.wanted o (yielded ops a.tmps) = g := by
  unfold guardOk at h
  unfold Region.wanted
  cases hg : o.guard with
  | none => rw [hg] at h; simp only [Rs.ok.injEq] at h; exact h
  | some jw =>
    obtain ⟨j, want⟩ := jw
    rw [hg] at h
    simp only at h
    split at h
    · rename_i p hp
      have hp' : ops[j]? = some p := by rw [← Array.getElem?_toList]; exact hp
      split at h
      · rename_i d hd
        have hmem : d ∈ o.looksAt ops := by
          unfold Oper.looksAt
          rw [hg]
          simp [hp', hd]
        have hr := hR d hmem
        simp only [yielded, hp', hd, Option.bind_some]
        split at h
        · rename_i b hb
          simp only [Rs.ok.injEq] at h
          rw [hb] at hr
          simp only [R] at hr
          have ht : a.tmps[d]? = some (.bool b) := by
            rw [Array.getD_eq_getD_getElem?] at hr
            cases hx : a.tmps[d]? with
            | none => rw [hx] at hr; simp [undef] at hr
            | some x => rw [hx] at hr; simp at hr; rw [hr]
          rw [ht]
          subst h
          cases b <;> cases want <;> rfl
        · rename_i hb
          simp only [Rs.ok.injEq] at h
          rw [hb] at hr
          simp only [R] at hr
          obtain ⟨us, hus, hr⟩ := hr
          subst h
          have hn : ∀ b, a.tmps[d]? ≠ some (.bool b) := fun b hx => by
            rw [Array.getD_eq_getD_getElem?, hx] at hr
            simp at hr
          cases hx : a.tmps[d]? with
          | none => rfl
          | some x =>
            cases x with
            | bool b => exact (hn b hx).elim
            | _ => rfl
        · simp at h
      · simp at h
    · simp at h

theorem opsS_ok (hC : CxOk C ρ w0) {ih : Run} (hI : CallOk C ρ w0 ih) {ops : Array Oper} {Q : Exit → Act → World → Prop} : ∀ (l : List Oper) {E : Env} {m : Mem} {w : World} {s : FS} {a : Act} {e : XE} {s' : FS} {m' : Mem},
    RM C.P ρ w0 E m w → RF E ρ s a → opsS C ih ops.toList l s m = .ok (e, s', m') → (∀ e1 a1 w1, XOut C ρ w0 E m e s' m' e1 a1 w1 → Q e1 a1 w1) → wpList C.P ops Q l a w
  | [], E, m, w, s, a, e, s', m', hM, hF, h, hQ => by
    simp only [opsS, Rs.ok.injEq, Prod.mk.injEq] at h
    obtain ⟨rfl, rfl, rfl⟩ := h
    exact wpList_nil (hQ _ _ _ (Left.same hM ⟨trivial, hF⟩))
  | o :: l, E, m, w, s, a, e, s', m', hM, hF, h, hQ => by
    simp only [opsS] at h
    obtain ⟨g, hg, h⟩ := Rs.bind_ok h
    have hw := guard_ok (ops := ops) (fun d _ => hF.tmps d) hg
    unfold wpList
    rw [hw]
    cases g with
    | false =>
      simp only [cond_false] at h
      obtain ⟨s1, hs1, h⟩ := Rs.bind_ok h
      exact opsS_ok hC hI l hM (hF.put R_undef hs1) h hQ
    | true =>
      simp only [cond_true] at h
      obtain ⟨r, hr, h2⟩ := Rs.bind_ok h
      clear h
      refine .inl (opS_ok hC hM hI (fun x _ v hv => hF.ev hv) hr ?_ ?_ ?_)
      · rintro v m1 rfl w1 v1 ⟨E', a1, a2, a3, a4, a5⟩
        obtain ⟨s1, hs1, h3⟩ := Rs.bind_ok h2
        exact opsS_ok hC hI l a3 ((hF.mono a2).put a5 hs1) h3 fun e1 a1' w1' hx => hQ _ _ _ (Left.trans ⟨E', a1, a2, a3, a4, hx⟩)
      · intro d m1 hr1 d' hd hm1
        subst hr1
        subst hm1
        obtain ⟨s1, hs2, h3⟩ := Rs.bind_ok h2
        have hF1 : RF E ρ { s with df := d :: s.df } { a with defers := d' :: a.defers } := ⟨hF.size, hF.tmps, ⟨d', a.defers, hd, hF.defers, rfl⟩⟩
        exact opsS_ok hC hI l hM (hF1.put R_undef hs2) h3 hQ
      · rintro ch m1 rfl w1 chain ⟨E', a1, a2, a3, a4, a5⟩
        simp only [Rs.ok.injEq, Prod.mk.injEq] at h2
        obtain ⟨rfl, rfl, rfl⟩ := h2
        exact hQ _ _ _ ⟨E', a1, a2, a3, a4, a5, hF.mono a2⟩

/- Scopes, by rounds. -/
def Exit.at (K : Nat → Act → World → Prop) (Q : Exit → Act → World → Prop) : Exit → Act → World → Prop
  | .goto l, a, w => K l a w
  | e, a, w => Q e a w

def scopeRounds (P : Program) (c : Code) (Q : Exit → Act → World → Prop) : Nat → Code → Act → World → Prop
  | 0, _, _, _ => False
  | n + 1, cur, a, w => cur.wp P (Exit.at (fun l a w => match findLabel c l with | some rest => scopeRounds P c Q n rest a w | none => Q (.goto l) a w) Q) a w

theorem wp_scope_rounds {P : Program} {Q : Exit → Act → World → Prop} {a : Act} {w : World} {c : Code} (n : Nat) (h : scopeRounds P c Q n c a w) : (Code.scope c).wp P Q a w := by
  intro b k cs
  have key : ∀ n cur a w, scopeRounds P c Q n cur a w → ∃ e a' w', Q e a' w' ∧ Arrives P (lone (b.at a (.code cur :: .inScope c :: k)) cs w) b k cs e a' w' := by
    intro n
    induction n with
    | zero => intro cur a w h; exact h.elim
    | succ n ih =>
      intro cur a w h
      obtain ⟨e, a₁, w₁, hq, harr⟩ := h b (.inScope c :: k) cs
      cases e with
      | normal => exact ⟨.normal, a₁, w₁, hq, Steps.trans harr (.one step_inScope)⟩
      | exit id => exact ⟨.exit id, a₁, w₁, hq, fun k' hk => harr k' (by simp [exitTo, hk])⟩
      | goto l =>
        simp only [Exit.at] at hq
        cases hf : findLabel c l with
        | none =>
          rw [hf] at hq
          exact ⟨.goto l, a₁, w₁, hq, fun k' hk => harr k' (by simp [gotoIn, hf, hk])⟩
        | some rest =>
          rw [hf] at hq
          obtain ⟨e₂, a₂, w₂, hq₂, harr₂⟩ := ih rest a₁ w₁ hq
          exact ⟨e₂, a₂, w₂, hq₂, .of_steps (harr _ (by simp [gotoIn, hf])) harr₂⟩
      | ret => exact ⟨_, a₁, w₁, hq, harr⟩
      | panic ch => exact ⟨_, a₁, w₁, hq, harr⟩
      | outgrown => exact ⟨_, a₁, w₁, hq, harr⟩
  obtain ⟨e, a', w', hq, harr⟩ := key n c a w h
  exact ⟨e, a', w', hq, .of_steps (.one step_scope) harr⟩

/- Code. -/
def Good (P : Program) (Q : Exit → Act → World → Prop) (n : Nat) (a : Act) (w : World) : Code → Prop
  | .loop c => Code.rounds P c Q n a w
  | c => c.wp P Q a w

theorem Good.wp {P : Program} {Q : Exit → Act → World → Prop} {n : Nat} {a : Act} {w : World} {c : Code} (h : Good P Q n a w c) : c.wp P Q a w := by
  cases c with
  | loop c => exact wp_loop_rounds n h
  | _ => exact h

def CodeOk (C : Cx) (ρ : Nat → Value) (w0 : World) (n : Nat) (ih : Run) : Prop := ∀ c s m e s' m', ih.code c s m = .ok (e, s', m') → ∀ E a w, RM C.P ρ w0 E m w → RF E ρ s a → ∀ Q : Exit → Act → World → Prop,
  (∀ e1 a1 w1, XOut C ρ w0 E m e s' m' e1 a1 w1 → Q e1 a1 w1) → Good C.P Q n a w c
def ScopeOk (C : Cx) (ρ : Nat → Value) (w0 : World) (n : Nat) (ih : Run) : Prop := ∀ c cur s m e s' m', ih.scope c cur s m = .ok (e, s', m') → ∀ E a w, RM C.P ρ w0 E m w → RF E ρ s a → ∀ Q : Exit → Act → World → Prop,
  (∀ e1 a1 w1, XOut C ρ w0 E m e s' m' e1 a1 w1 → Q e1 a1 w1) → scopeRounds C.P c Q n cur a w
def DrawOk (C : Cx) (ρ : Nat → Value) (w0 : World) (ih : Run) : Prop := ∀ id ops s m e s' m', drawS C ih ops s m = .ok (e, s', m') → ∀ E a w, RM C.P ρ w0 E m w → RF E ρ s a → ∀ Q : Exit → Act → World → Prop,
  (∀ e1 a1 w1, XOut C ρ w0 E m e s' m' e1 a1 w1 → Q e1 a1 w1) → (Code.region id ops true).wp C.P Q a w

theorem codeS_ok (hC : CxOk C ρ w0) {n : Nat} {ih : Run} (hI : CallOk C ρ w0 ih) (hK : CodeOk C ρ w0 n ih) (hS : ScopeOk C ρ w0 n ih) (hD : DrawOk C ρ w0 ih) : CodeOk C ρ w0 (n + 1) ⟨codeS C ih, scopeS ih, fnS C ih⟩ := by
  intro c s m e s' m' h E a w hM hF Q hQ
  simp only at h
  cases c with
  | skip =>
    simp only [codeS, Rs.ok.injEq, Prod.mk.injEq] at h
    obtain ⟨rfl, rfl, rfl⟩ := h
    exact wp_skip (hQ _ _ _ (Left.same hM ⟨trivial, hF⟩))
  | label l =>
    simp only [codeS, Rs.ok.injEq, Prod.mk.injEq] at h
    obtain ⟨rfl, rfl, rfl⟩ := h
    exact wp_label (hQ _ _ _ (Left.same hM ⟨trivial, hF⟩))
  | region id ops d =>
    simp only [codeS] at h
    cases d with
    | true => exact hD id ops s m e s' m' h E a w hM hF Q hQ
    | false => exact wp_region_list (opsS_ok hC hI _ hM hF h hQ)
  | seq x y =>
    simp only [codeS] at h
    obtain ⟨⟨e1, s1, m1⟩, h1, h⟩ := Rs.bind_ok h
    refine wp_seq (hK x s m e1 s1 m1 h1 E a w hM hF _ ?_).wp
    rintro x1 a1 w1 ⟨E', b1, b2, b3, b4, b5, b6⟩
    cases e1 with
    | normal =>
      simp only at h
      cases x1 <;> first | exact b5.elim | skip
      exact (hK y s1 m1 e s' m' h E' a1 w1 b3 b6 Q fun e2 a2 w2 hx => hQ _ _ _ (Left.trans ⟨E', b1, b2, b3, b4, hx⟩)).wp
    | exit i =>
      simp only [Rs.ok.injEq, Prod.mk.injEq] at h
      obtain ⟨rfl, rfl, rfl⟩ := h
      cases x1 <;> first | exact b5.elim | skip
      exact hQ _ _ _ ⟨E', b1, b2, b3, b4, b5, b6⟩
    | goto i =>
      simp only [Rs.ok.injEq, Prod.mk.injEq] at h
      obtain ⟨rfl, rfl, rfl⟩ := h
      cases x1 <;> first | exact b5.elim | skip
      exact hQ _ _ _ ⟨E', b1, b2, b3, b4, b5, b6⟩
    | ret =>
      simp only [Rs.ok.injEq, Prod.mk.injEq] at h
      obtain ⟨rfl, rfl, rfl⟩ := h
      cases x1 <;> first | exact b5.elim | skip
      exact hQ _ _ _ ⟨E', b1, b2, b3, b4, b5, b6⟩
    | panic ch =>
      simp only [Rs.ok.injEq, Prod.mk.injEq] at h
      obtain ⟨rfl, rfl, rfl⟩ := h
      cases x1 <;> first | exact b5.elim | skip
      exact hQ _ _ _ ⟨E', b1, b2, b3, b4, b5, b6⟩
  | cond x y z =>
    simp only [codeS] at h
    obtain ⟨v, hv, h⟩ := Rs.bind_ok h
    have hr := hF.ev hv
    split at h
    · rename_i t
      simp only [R] at hr
      refine wp_cond hr ?_
      cases t with
      | true => exact (hK y s m e s' m' h E a w hM hF Q hQ).wp
      | false => exact (hK z s m e s' m' h E a w hM hF Q hQ).wp
    · simp at h
  | block id x =>
    simp only [codeS] at h
    obtain ⟨⟨e1, s1, m1⟩, h1, h⟩ := Rs.bind_ok h
    refine wp_block (hK x s m e1 s1 m1 h1 E a w hM hF _ ?_).wp
    rintro x1 a1 w1 ⟨E', b1, b2, b3, b4, b5, b6⟩
    cases e1 with
    | normal =>
      simp only [Rs.ok.injEq, Prod.mk.injEq] at h
      obtain ⟨rfl, rfl, rfl⟩ := h
      cases x1 <;> first | exact b5.elim | skip
      exact hQ _ _ _ ⟨E', b1, b2, b3, b4, b5, b6⟩
    | exit i =>
      cases x1 <;> first | exact b5.elim | skip
      rename_i j
      have b5' : j = i := b5
      subst b5'
      simp only [cond_eq, beq_eq, decide_eq_true_eq] at h
      simp only [Exit.inBlock]
      split at h
      · rename_i hij
        rw [if_pos hij]
        simp only [Rs.ok.injEq, Prod.mk.injEq] at h
        obtain ⟨rfl, rfl, rfl⟩ := h
        exact hQ _ _ _ ⟨E', b1, b2, b3, b4, trivial, b6⟩
      · rename_i hij
        rw [if_neg hij]
        simp only [Rs.ok.injEq, Prod.mk.injEq] at h
        obtain ⟨rfl, rfl, rfl⟩ := h
        exact hQ _ _ _ ⟨E', b1, b2, b3, b4, rfl, b6⟩
    | goto i =>
      simp only [Rs.ok.injEq, Prod.mk.injEq] at h
      obtain ⟨rfl, rfl, rfl⟩ := h
      cases x1 <;> first | exact b5.elim | skip
      exact hQ _ _ _ ⟨E', b1, b2, b3, b4, b5, b6⟩
    | ret =>
      simp only [Rs.ok.injEq, Prod.mk.injEq] at h
      obtain ⟨rfl, rfl, rfl⟩ := h
      cases x1 <;> first | exact b5.elim | skip
      exact hQ _ _ _ ⟨E', b1, b2, b3, b4, b5, b6⟩
    | panic ch =>
      simp only [Rs.ok.injEq, Prod.mk.injEq] at h
      obtain ⟨rfl, rfl, rfl⟩ := h
      cases x1 <;> first | exact b5.elim | skip
      exact hQ _ _ _ ⟨E', b1, b2, b3, b4, b5, b6⟩
  | loop x =>
    simp only [codeS] at h
    obtain ⟨⟨e1, s1, m1⟩, h1, h⟩ := Rs.bind_ok h
    show Code.rounds C.P x Q (n + 1) a w
    rw [rounds_succ]
    refine (hK x s m e1 s1 m1 h1 E a w hM hF _ ?_).wp
    rintro x1 a1 w1 ⟨E', b1, b2, b3, b4, b5, b6⟩
    cases e1 with
    | normal =>
      simp only at h
      cases x1 <;> first | exact b5.elim | skip
      exact hK (.loop x) s1 m1 e s' m' h E' a1 w1 b3 b6 Q fun e2 a2 w2 hx => hQ _ _ _ (Left.trans ⟨E', b1, b2, b3, b4, hx⟩)
    | exit i =>
      simp only [Rs.ok.injEq, Prod.mk.injEq] at h
      obtain ⟨rfl, rfl, rfl⟩ := h
      cases x1 <;> first | exact b5.elim | skip
      exact hQ _ _ _ ⟨E', b1, b2, b3, b4, b5, b6⟩
    | goto i =>
      simp only [Rs.ok.injEq, Prod.mk.injEq] at h
      obtain ⟨rfl, rfl, rfl⟩ := h
      cases x1 <;> first | exact b5.elim | skip
      exact hQ _ _ _ ⟨E', b1, b2, b3, b4, b5, b6⟩
    | ret =>
      simp only [Rs.ok.injEq, Prod.mk.injEq] at h
      obtain ⟨rfl, rfl, rfl⟩ := h
      cases x1 <;> first | exact b5.elim | skip
      exact hQ _ _ _ ⟨E', b1, b2, b3, b4, b5, b6⟩
    | panic ch =>
      simp only [Rs.ok.injEq, Prod.mk.injEq] at h
      obtain ⟨rfl, rfl, rfl⟩ := h
      cases x1 <;> first | exact b5.elim | skip
      exact hQ _ _ _ ⟨E', b1, b2, b3, b4, b5, b6⟩
  | exit id =>
    simp only [codeS, Rs.ok.injEq, Prod.mk.injEq] at h
    obtain ⟨rfl, rfl, rfl⟩ := h
    exact wp_exit (hQ _ _ _ (Left.same hM ⟨rfl, hF⟩))
  | goto l =>
    simp only [codeS, Rs.ok.injEq, Prod.mk.injEq] at h
    obtain ⟨rfl, rfl, rfl⟩ := h
    exact wp_goto (hQ _ _ _ (Left.same hM ⟨rfl, hF⟩))
  | ret =>
    simp only [codeS, Rs.ok.injEq, Prod.mk.injEq] at h
    obtain ⟨rfl, rfl, rfl⟩ := h
    exact wp_ret (hQ _ _ _ (Left.same hM ⟨trivial, hF⟩))
  | scope x =>
    simp only [codeS] at h
    exact wp_scope_rounds n (hS x x s m e s' m' h E a w hM hF Q hQ)
  | rangeFunc _ _ _ _ => simp [codeS] at h
  | refuse _ => simp [codeS] at h

theorem scopeS_ok {n : Nat} {ih : Run} (hK : CodeOk C ρ w0 n ih) (hS : ScopeOk C ρ w0 n ih) : ScopeOk C ρ w0 (n + 1) ⟨codeS C ih, scopeS ih, fnS C ih⟩ := by
  intro c cur s m e s' m' h E a w hM hF Q hQ
  simp only [scopeS] at h
  obtain ⟨⟨e1, s1, m1⟩, h1, h⟩ := Rs.bind_ok h
  unfold scopeRounds
  refine (hK cur s m e1 s1 m1 h1 E a w hM hF _ ?_).wp
  rintro x1 a1 w1 ⟨E', b1, b2, b3, b4, b5, b6⟩
  cases e1 with
  | goto i =>
    cases x1 <;> first | exact b5.elim | skip
    rename_i j
    have b5' : j = i := b5
    subst b5'
    simp only [Exit.at]
    simp only at h
    cases hf : findLabel c j with
    | some rest =>
      rw [hf] at h
      exact hS c rest s1 m1 e s' m' h E' a1 w1 b3 b6 Q fun e2 a2 w2 hx => hQ _ _ _ (Left.trans ⟨E', b1, b2, b3, b4, hx⟩)
    | none =>
      rw [hf] at h
      simp only [Rs.ok.injEq, Prod.mk.injEq] at h
      obtain ⟨rfl, rfl, rfl⟩ := h
      exact hQ _ _ _ ⟨E', b1, b2, b3, b4, rfl, b6⟩
  | normal =>
    simp only [Rs.ok.injEq, Prod.mk.injEq] at h
    obtain ⟨rfl, rfl, rfl⟩ := h
    cases x1 <;> first | exact b5.elim | skip
    exact hQ _ _ _ ⟨E', b1, b2, b3, b4, b5, b6⟩
  | exit i =>
    simp only [Rs.ok.injEq, Prod.mk.injEq] at h
    obtain ⟨rfl, rfl, rfl⟩ := h
    cases x1 <;> first | exact b5.elim | skip
    exact hQ _ _ _ ⟨E', b1, b2, b3, b4, b5, b6⟩
  | ret =>
    simp only [Rs.ok.injEq, Prod.mk.injEq] at h
    obtain ⟨rfl, rfl, rfl⟩ := h
    cases x1 <;> first | exact b5.elim | skip
    exact hQ _ _ _ ⟨E', b1, b2, b3, b4, b5, b6⟩
  | panic ch =>
    simp only [Rs.ok.injEq, Prod.mk.injEq] at h
    obtain ⟨rfl, rfl, rfl⟩ := h
    cases x1 <;> first | exact b5.elim | skip
    exact hQ _ _ _ ⟨E', b1, b2, b3, b4, b5, b6⟩

end
end Go.Eng
