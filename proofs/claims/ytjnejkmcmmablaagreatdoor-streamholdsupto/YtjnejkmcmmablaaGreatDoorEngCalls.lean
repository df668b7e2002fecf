import Derived.Test.YtjnejkmcmmablaaGreatDoorEngCode
import Derived.Recover
/-
  Calls, with what they defer.
-/
namespace Go.Eng
open Go.RowKit

section
variable {C : Cx} {ρ : Nat → Value} {w0 : World} {E : Env} {m : Mem} {w : World}

/- Frames. -/
theorem putArgs_get : ∀ (vs : List SV) (k : Nat) (t : Tr SV) (j : Nat), (putArgs vs k t).get j = if k ≤ j ∧ j < k + vs.length then vs[j - k]? else t.get j
  | [], k, t, j => by simp [putArgs]; omega
  | v :: vs, k, t, j => by
    rw [putArgs, putArgs_get vs, Tr.get_set]
    simp only [Nat.succ_eq_add_one, List.length_cons]
    by_cases h1 : k + 1 ≤ j ∧ j < k + 1 + vs.length
    · rw [if_pos h1, if_pos (by omega)]
      obtain ⟨d, hd⟩ : ∃ d, j - k = d + 1 := ⟨j - k - 1, by omega⟩
      rw [hd, show j - (k + 1) = d from by omega]; simp
    · rw [if_neg h1]
      by_cases h2 : j = k
      · subst h2; rw [if_pos rfl, if_pos (by omega)]; simp
      · rw [if_neg h2, if_neg (by omega)]

theorem frame_ok {fn : Func} {args : List SV} {vs : List Value} (h : Rs' E ρ args vs) : RF E ρ (frame fn args) { tmps := (⟨vs⟩ : Array Value) ++ Array.replicate (fn.ntmps - (⟨vs⟩ : Array Value).size) undef, defers := [] } := by
  have hl := h.length
  refine ⟨?_, fun t => ?_, rfl⟩
  · simp only [Array.size_append, Array.size_replicate, frame, cond_eq, ble_eq, decide_eq_true_eq, lenOf_eq, List.size_toArray]
    split <;> omega
  · simp only [FS.get, frame, putArgs_get, Nat.zero_le, true_and, Nat.zero_add, Nat.sub_zero, Tr.get]
    rw [Array.getD_eq_getD_getElem?]
    by_cases ht : t < args.length
    · rw [if_pos ht]
      have hx : args[t]? = some args[t] := List.getElem?_eq_getElem ht
      obtain ⟨v, hv, hr⟩ := h.get t _ hx
      rw [hx]
      have : ((⟨vs⟩ : Array Value) ++ Array.replicate (fn.ntmps - (⟨vs⟩ : Array Value).size) undef)[t]? = some v := by
        rw [Array.getElem?_append_left (by show t < vs.length; omega)]; simpa using hv
      rw [this]; exact hr
    · rw [if_neg ht]
      have : (((⟨vs⟩ : Array Value) ++ Array.replicate (fn.ntmps - (⟨vs⟩ : Array Value).size) undef)[t]?).getD undef = undef := by
        rw [Array.getElem?_append_right (by show vs.length ≤ t; omega), Array.getElem?_replicate]
        split <;> rfl
      rw [this]; exact R_undef

/- Results. -/
def resSem (tmps : Array Value) : ResultVar → Sem Value
  | .tmp t => pure (tmps.getD t undef)
  | .cell a t => do loadVar t (← asAddr (tmps.getD a undef))

theorem resS_ok (hC : CxOk C ρ w0) (hM : RM C.P ρ w0 E m w) {s : FS} {a : Act} (hF : RF E ρ s a) : ∀ (l : List ResultVar) {vs : List SV}, resS C s m l = .ok vs → ∃ us, Rs' E ρ vs us ∧ (l.mapM (resSem a.tmps)).run C.P w = .ok us w
  | [], vs, h => by
    simp only [resS, Rs.ok.injEq] at h; subst h
    exact ⟨[], Rs'.nil, rfl⟩
  | .tmp t :: l, vs, h => by
    simp only [resS] at h
    obtain ⟨vs', hvs, h⟩ := Rs.bind_ok h
    simp only [Rs.ok.injEq] at h; subst h
    obtain ⟨us, h1, h2⟩ := resS_ok hC hM hF l hvs
    refine ⟨_, Rs'.cons (hF.tmps t) h1, ?_⟩
    rw [List.mapM_cons]
    simp only [resSem, Sem.run_bind, Sem.run_pure, Result.andThen_ok, h2]
  | .cell x t :: l, vs, h => by
    simp only [resS] at h
    obtain ⟨v, hv, h⟩ := Rs.bind_ok h
    obtain ⟨vs', hvs, h⟩ := Rs.bind_ok h
    simp only [Rs.ok.injEq] at h; subst h
    obtain ⟨us, h1, h2⟩ := resS_ok hC hM hF l hvs
    have hx := hF.tmps x
    obtain ⟨v', hl, hr⟩ := load_ok hC hM hx hv
    refine ⟨_, Rs'.cons hr h1, ?_⟩
    have hp : ∃ ad, a.tmps.getD x undef = .pointer (some ad) := by
      unfold Cx.load at hv
      split at hv
      · rename_i id off hs
        rw [hs] at hx
        simp only [R] at hx
        obtain ⟨L, _, hx⟩ := hx
        exact ⟨_, hx⟩
      · rename_i b off hs
        rw [hs] at hx
        simp only [R] at hx
        exact ⟨_, hx⟩
      · simp at hv
    obtain ⟨ad, had⟩ := hp
    rw [had] at hl
    have hl' : (loadVar t ad).run C.P w = .ok v' w := by
      simpa [Instr.loadAt, Instr.sureAddr] using hl
    rw [List.mapM_cons]
    simp only [resSem, had, asAddr, Sem.run_bind, Sem.run_pure, Result.andThen_ok, hl', h2]

theorem results_ok (hC : CxOk C ρ w0) (hM : RM C.P ρ w0 E m w) {s : FS} {a : Act} (hF : RF E ρ s a) {fn : Func} {vs : List SV} (h : resS C s m fn.results.toList = .ok vs) : ∃ v, (results fn a.tmps).run C.P w = .ok v w ∧ R E ρ (resOne vs) v := by
  obtain ⟨us, h1, h2⟩ := resS_ok hC hM hF _ h
  have hdef : results fn a.tmps = (do let vs ← fn.results.mapM (resSem a.tmps); pure (if h : vs.size = 1 then vs[0] else .tuple vs)) := by
    unfold results
    congr 1
  refine ⟨if h : us.toArray.size = 1 then us.toArray[0] else .tuple us.toArray, ?_, ?_⟩
  · rw [hdef, Array.mapM_eq_mapM_toList]
    simp only [Sem.run_bind, Sem.run_map, h2, Result.andThen_ok, Sem.run_pure]
  · have hl := h1.length
    unfold resOne
    split
    · rename_i v
      simp only [Rs'] at h1
      obtain ⟨u, us', hu, rfl, rfl⟩ := h1
      exact hu
    · rename_i hne
      rw [dif_neg]
      · simp only [R]; exact ⟨us, h1, rfl⟩
      · intro h1'
        simp only [List.size_toArray] at h1'
        rw [h1'] at hl
        match vs, hl, hne with
        | [v], _, hne => exact hne v rfl

/- A deferred call. -/
def RU (E : Env) (ρ : Nat → Value) : Option (List SP) → FrameMode → Prop
  | none, .returning => True
  | some ch, .panicking chain => RCh E ρ ch chain
  | _, _ => False

theorem RU.mono {E' : Env} (h : E.le E') {u : Option (List SP)} {um : FrameMode} (r : RU E ρ u um) : RU E' ρ u um := by
  cases u <;> cases um <;> first | exact r.elim | trivial | exact RCh.mono h r

theorem RCh.append : ∀ {ps ps' : List SP} {qs qs' : List PanicEntry}, RCh E ρ ps qs → RCh E ρ ps' qs' → RCh E ρ (ps ++ ps') (qs ++ qs')
  | [], _, _, _, h, k => by simp only [RCh] at h; subst h; exact k
  | _ :: _, _, _, _, ⟨q, qs, h1, h2, e⟩, k => by subst e; exact ⟨q, _, h1, RCh.append h2 k, rfl⟩

theorem RCh.noExit : ∀ {ps : List SP} {qs : List PanicEntry}, RCh E ρ ps qs → qs.dropWhile (!·.goexit) = []
  | [], _, h => by simp only [RCh] at h; subst h; rfl
  | _ :: _, _, ⟨q, qs, h1, h2, e⟩ => by
    subst e
    rw [List.dropWhile_cons, h1.2.2]
    simpa using RCh.noExit h2

theorem RU.settle {u : Option (List SP)} {um : FrameMode} (h : RU E ρ u um) : RU E ρ (settleS u) (settle um) := by
  cases u with
  | none => cases um <;> first | exact h.elim | exact h
  | some ch =>
    cases um <;> first | exact h.elim | skip
    rename_i chain
    cases ch with
    | nil => simp only [RU, RCh] at h; subst h; exact rfl
    | cons p ps =>
      obtain ⟨q, qs, h1, h2, e⟩ := h
      subst e
      obtain ⟨v, r⟩ := p
      obtain ⟨v', r', g'⟩ := q
      obtain ⟨ha, hb, hc⟩ := h1
      simp only at hb hc
      subst hb hc
      cases r' with
      | true =>
        simp only [settleS, Go.settle, h2.noExit]
        trivial
      | false =>
        simp only [settleS, Go.settle]
        exact ⟨_, qs, ⟨ha, rfl, rfl⟩, h2, rfl⟩

theorem RU.raised {u : Option (List SP)} {um : FrameMode} {ch : List SP} {chain : List PanicEntry} (h : RU E ρ u um) (hc : RCh E ρ ch chain) : RU E ρ (raisedS u ch) (raised um chain) := by
  cases u with
  | none => cases um <;> first | exact h.elim | exact hc
  | some old => cases um <;> first | exact h.elim | exact RCh.append hc h

theorem opsS_okS (hC : CxOk C ρ w0) {ih : Run} (hI : CallOk C ρ w0 ih) {ops : Array Oper} {cs : List Frame} {Q : Exit → Act → List Frame → World → Prop} : ∀ (l : List Oper) (k : Nat), (∀ j, l[j]? = ops[k + j]?) → ∀ {E : Env} {m : Mem} {w : World} {s : FS} {a : Act} {e : XE} {s' : FS} {m' : Mem},
    RM C.P ρ w0 E m w → RF E ρ s a → opsS C ih ops.toList l s m = .ok (e, s', m') → (∀ e1 a1 w1, XOut C ρ w0 E m e s' m' e1 a1 w1 → Q e1 a1 cs w1) → wpOpsS C.P ops Q (List.range' k l.length) a cs w
  | [], k, hk, E, m, w, s, a, e, s', m', hM, hF, h, hQ => by
    simp only [opsS, Rs.ok.injEq, Prod.mk.injEq] at h
    obtain ⟨rfl, rfl, rfl⟩ := h
    exact hQ _ _ _ (Left.same hM ⟨trivial, hF⟩)
  | o :: l, k, hk, E, m, w, s, a, e, s', m', hM, hF, h, hQ => by
    simp only [opsS] at h
    obtain ⟨g, hg, h⟩ := Rs.bind_ok h
    have hw := guard_ok (ops := ops) (fun d _ => hF.tmps d) hg
    have ho : ops[k]? = some o := by simpa using (hk 0).symm
    have hk' : ∀ j, l[j]? = ops[k + 1 + j]? := fun j => by have := hk (j + 1); simpa [Nat.add_assoc, Nat.add_comm 1 j] using this
    simp only [List.length_cons, List.range'_succ, wpOpsS, ho, hw]
    cases g with
    | false =>
      simp only [cond_false] at h
      obtain ⟨s1, hs1, h⟩ := Rs.bind_ok h
      simp only [Bool.false_eq_true, if_false]
      exact opsS_okS hC hI l (k + 1) hk' hM (hF.put R_undef hs1) h hQ
    | true =>
      simp only [cond_true] at h
      obtain ⟨r, hr, h2⟩ := Rs.bind_ok h
      clear h
      simp only [if_true]
      have hwp : o.wp C.P a w (fun a' w' => wpOpsS C.P ops Q (List.range' (k + 1) l.length) a' cs w') (fun e a' w' => Q e a' cs w') := by
        refine opS_ok hC hM hI (fun x _ v hv => hF.ev hv) hr ?_ ?_ ?_
        · rintro v m1 rfl w1 v1 ⟨E', a1, a2, a3, a4, a5⟩
          obtain ⟨s1, hs1, h3⟩ := Rs.bind_ok h2
          exact opsS_okS hC hI l (k + 1) hk' a3 ((hF.mono a2).put a5 hs1) h3 fun e1 a1' w1' hx => hQ _ _ _ (Left.trans ⟨E', a1, a2, a3, a4, hx⟩)
        · intro d m1 hr1 d' hd hm1
          subst hr1
          subst hm1
          obtain ⟨s1, hs1, h3⟩ := Rs.bind_ok h2
          have hF1 : RF E ρ { s with df := d :: s.df } { a with defers := d' :: a.defers } := ⟨hF.size, hF.tmps, ⟨d', a.defers, hd, hF.defers, rfl⟩⟩
          exact opsS_okS hC hI l (k + 1) hk' hM (hF1.put R_undef hs1) h3 hQ
        · rintro ch m1 rfl w1 chain ⟨E', a1, a2, a3, a4, a5⟩
          simp only [Rs.ok.injEq, Prod.mk.injEq] at h2
          obtain ⟨rfl, rfl, rfl⟩ := h2
          exact hQ _ _ _ ⟨E', a1, a2, a3, a4, a5, hF.mono a2⟩
      unfold Oper.wp at hwp
      generalize (execOp a.eval o).run C.P w = res at hwp ⊢
      split
      · exact hwp.elim
      · exact hwp

def DOut (C : Cx) (ρ : Nat → Value) (w0 : World) (E : Env) (m : Mem) (c0 : Frame) (cs : List Frame) (e : XE) (s' : FS) (u' : Option (List SP)) (m' : Mem) : Exit → Act → List Frame → World → Prop :=
  fun e1 a1 cs1 w1 => ∃ um', cs1 = { c0 with mode := um' } :: cs ∧ Left C ρ w0 E m m' w1 fun E' => RX E' ρ e e1 ∧ RF E' ρ s' a1 ∧ RU E' ρ u' um'

theorem DOut.of_XOut {c0 : Frame} {cs : List Frame} {e : XE} {s' : FS} {u : Option (List SP)} {m' : Mem} {um : FrameMode} (hU : RU E ρ u um) {e1 : Exit} {a1 : Act} {w1 : World} (h : XOut C ρ w0 E m e s' m' e1 a1 w1) :
    DOut C ρ w0 E m c0 cs e s' u m' e1 a1 ({ c0 with mode := um } :: cs) w1 := by
  obtain ⟨E', a1, a2, a3, a4, a5, a6⟩ := h
  exact ⟨um, rfl, E', a1, a2, a3, a4, a5, a6, hU.mono a2⟩

theorem recAt_ok {d : Bool} {l os : List Oper} {t : Tmp} (h : recAt d l = some (t, os)) : d = false ∧ ∃ o, l = o :: os ∧ o.dst = some t ∧ o.guard = none ∧ ∀ ev P w, (execOp ev o).run P w = .ok .recover w := by
  unfold recAt at h
  split at h
  · rename_i o os'
    split at h
    · rename_i t' ht
      simp only [Option.some.injEq, Prod.mk.injEq] at h
      obtain ⟨rfl, rfl⟩ := h
      refine ⟨rfl, o, rfl, ?_⟩
      unfold recTmp at ht
      split at ht
      · simp only [Option.some.injEq] at ht
        subst ht
        exact ⟨rfl, rfl, fun _ _ _ => rfl⟩
      · cases ht
    · cases h
  · cases h

theorem recS_ok {u u1 : Option (List SP)} {um : FrameMode} {v : SV} (hU : RU E ρ u um) (c0 : Frame) (cs : List Frame) (h : recS u = .ok (v, u1)) :
    ∃ v' um', R E ρ v v' ∧ RU E ρ u1 um' ∧ (recoverD ({ c0 with mode := um } :: cs) = some (v', { c0 with mode := um' } :: cs) ∨ (recoverD ({ c0 with mode := um } :: cs) = none ∧ v' = .nilIface ∧ um = um')) := by
  unfold recS at h
  split at h
  · rename_i v0 older
    simp only [Rs.ok.injEq, Prod.mk.injEq] at h
    obtain ⟨rfl, rfl⟩ := h
    cases um <;> first | exact hU.elim | skip
    obtain ⟨⟨q1, q2, q3⟩, qs, ⟨h1, h2, h3⟩, h4, rfl⟩ := hU
    simp only at h1 h2 h3
    subst h2 h3
    exact ⟨q1, .panicking ({ v := q1, recovered := true } :: qs), h1, ⟨_, qs, ⟨h1, rfl, rfl⟩, h4, rfl⟩, .inl rfl⟩
  · rename_i hne
    simp only [Rs.ok.injEq, Prod.mk.injEq] at h
    obtain ⟨rfl, rfl⟩ := h
    refine ⟨.nilIface, um, by simp [R], hU, .inr ⟨?_, rfl, rfl⟩⟩
    cases u with
    | none => cases um <;> first | exact hU.elim | rfl
    | some ch =>
      cases um <;> first | exact hU.elim | skip
      cases ch with
      | nil => simp only [RU, RCh] at hU; subst hU; rfl
      | cons p ps =>
        obtain ⟨⟨q1, q2, q3⟩, qs, ⟨h1, h2, h3⟩, h4, rfl⟩ := hU
        obtain ⟨pv, pr⟩ := p
        simp only at h2 h3
        subst h2 h3
        cases q2 with
        | true => rfl
        | false => exact (hne pv ps rfl).elim

/-- A deferred call's code. -/
theorem codeD_ok (hC : CxOk C ρ w0) {n : Nat} {ih : Run} (hI : CallOk C ρ w0 ih) (hK : CodeOk C ρ w0 n ih) {c0 : Frame} {cs : List Frame} : ∀ (c : Code) {s : FS} {u : Option (List SP)} {m : Mem} {e : XE} {s' : FS} {u' : Option (List SP)} {m' : Mem}, codeD C ih c s u m = .ok (e, s', u', m') →
    ∀ {E : Env} {a : Act} {w : World} {um : FrameMode}, RM C.P ρ w0 E m w → RF E ρ s a → RU E ρ u um → ∀ Q : Exit → Act → List Frame → World → Prop, (∀ e1 a1 cs1 w1, DOut C ρ w0 E m c0 cs e s' u' m' e1 a1 cs1 w1 → Q e1 a1 cs1 w1) → c.wpS C.P Q a ({ c0 with mode := um } :: cs) w := by
  have base : ∀ (c : Code) {s : FS} {u : Option (List SP)} {m : Mem} {e : XE} {s' : FS} {u' : Option (List SP)} {m' : Mem}, ((ih.code c s m).bind fun (e, s, m) => .ok (e, s, u, m)) = .ok (e, s', u', m') →
    ∀ {E : Env} {a : Act} {w : World} {um : FrameMode}, RM C.P ρ w0 E m w → RF E ρ s a → RU E ρ u um → ∀ Q : Exit → Act → List Frame → World → Prop, (∀ e1 a1 cs1 w1, DOut C ρ w0 E m c0 cs e s' u' m' e1 a1 cs1 w1 → Q e1 a1 cs1 w1) → c.wpS C.P Q a ({ c0 with mode := um } :: cs) w := by
    intro c s u m e s' u' m' h E a w um hM hF hU Q hQ
    obtain ⟨⟨e1, s1, m1⟩, h1, h⟩ := Rs.bind_ok h
    simp only [Rs.ok.injEq, Prod.mk.injEq] at h
    obtain ⟨rfl, rfl, rfl, rfl⟩ := h
    exact wpS_of_wp (hK c s m e1 s1 m1 h1 E a w hM hF _ fun e2 a2 w2 hx => hQ _ _ _ _ (DOut.of_XOut hU hx)).wp
  intro c
  induction c with
  | seq x y ihx ihy =>
    intro s u m e s' u' m' h E a w um hM hF hU Q hQ
    simp only [codeD] at h
    obtain ⟨⟨e1, s1, u1, m1⟩, h1, h⟩ := Rs.bind_ok h
    refine wpS_seq (ihx h1 hM hF hU _ ?_)
    rintro x1 a1 cs1 w1 ⟨um1, rfl, E', b1, b2, b3, b4, b5, b6, b7⟩
    cases e1 with
    | normal =>
      simp only at h
      cases x1 <;> first | exact b5.elim | skip
      refine ihy h b3 b6 b7 Q ?_
      rintro e2 a2 cs2 w2 ⟨um2, rfl, hl⟩
      exact hQ _ _ _ _ ⟨um2, rfl, Left.trans ⟨E', b1, b2, b3, b4, hl⟩⟩
    | exit i =>
      simp only [Rs.ok.injEq, Prod.mk.injEq] at h
      obtain ⟨rfl, rfl, rfl, rfl⟩ := h
      cases x1 <;> first | exact b5.elim | skip
      exact hQ _ _ _ _ ⟨um1, rfl, E', b1, b2, b3, b4, b5, b6, b7⟩
    | goto i =>
      simp only [Rs.ok.injEq, Prod.mk.injEq] at h
      obtain ⟨rfl, rfl, rfl, rfl⟩ := h
      cases x1 <;> first | exact b5.elim | skip
      exact hQ _ _ _ _ ⟨um1, rfl, E', b1, b2, b3, b4, b5, b6, b7⟩
    | ret =>
      simp only [Rs.ok.injEq, Prod.mk.injEq] at h
      obtain ⟨rfl, rfl, rfl, rfl⟩ := h
      cases x1 <;> first | exact b5.elim | skip
      exact hQ _ _ _ _ ⟨um1, rfl, E', b1, b2, b3, b4, b5, b6, b7⟩
    | panic ch =>
      simp only [Rs.ok.injEq, Prod.mk.injEq] at h
      obtain ⟨rfl, rfl, rfl, rfl⟩ := h
      cases x1 <;> first | exact b5.elim | skip
      exact hQ _ _ _ _ ⟨um1, rfl, E', b1, b2, b3, b4, b5, b6, b7⟩
  | cond x y z ihy ihz =>
    intro s u m e s' u' m' h E a w um hM hF hU Q hQ
    simp only [codeD] at h
    obtain ⟨v, hv, h⟩ := Rs.bind_ok h
    have hr := hF.ev hv
    split at h
    · rename_i t
      simp only [R] at hr
      refine wpS_cond hr ?_
      cases t with
      | true => exact ihy h hM hF hU Q hQ
      | false => exact ihz h hM hF hU Q hQ
    · simp at h
  | region i ops d =>
    intro s u m e s' u' m' h E a w um hM hF hU Q hQ
    simp only [codeD] at h
    split at h
    · rename_i t os hrec
      obtain ⟨hd, o, hops, ho1, ho2, ho3⟩ := recAt_ok hrec
      subst hd
      obtain ⟨⟨v, u1⟩, hv, h⟩ := Rs.bind_ok h
      obtain ⟨s1, hs1, h⟩ := Rs.bind_ok h
      obtain ⟨⟨e2, s2, m2⟩, h2, h⟩ := Rs.bind_ok h
      simp only [Rs.ok.injEq, Prod.mk.injEq] at h
      obtain ⟨rfl, rfl, rfl, rfl⟩ := h
      have hlen : ops.size = os.length + 1 := by rw [← Array.length_toList, hops]; simp
      have h0 : ops[0]? = some o := by rw [← Array.getElem?_toList, hops]; rfl
      have hk : ∀ j, os[j]? = ops[1 + j]? := fun j => by rw [← Array.getElem?_toList, hops, Nat.add_comm]; simp
      refine wpS_region ?_
      rw [hlen, List.range_eq_range', List.range'_succ]
      simp only [wpOpsS, h0, Region.wanted, ho2, if_true, ho3 a.eval C.P w, Nat.zero_add]
      obtain ⟨v', um', hR, hU', hrd⟩ := recS_ok hU c0 cs hv
      rcases hrd with hrd | ⟨hrd, rfl, hum⟩
      · rw [hrd]
        simp only [ho1]
        exact opsS_okS hC hI os 1 hk hM (hF.put hR hs1) h2 fun e1 a1 w1 hx => hQ _ _ _ _ (DOut.of_XOut hU' hx)
      · rw [hrd]
        simp only [ho1]
        rw [hum]
        exact opsS_okS hC hI os 1 hk hM (hF.put hR hs1) h2 fun e1 a1 w1 hx => hQ _ _ _ _ (DOut.of_XOut hU' hx)
    · exact base _ h hM hF hU Q hQ
  | _ => 
    intro s u m e s' u' m' h E a w um hM hF hU Q hQ
    exact base _ h hM hF hU Q hQ

end
end Go.Eng
