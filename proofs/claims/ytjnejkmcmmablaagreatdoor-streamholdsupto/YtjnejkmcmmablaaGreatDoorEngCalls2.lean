import Derived.Test.YtjnejkmcmmablaaGreatDoorEngCalls
/-
  Calls whole.
-/
namespace Go.Eng
open Go.RowKit

def FnOk (C : Cx) : Prop := ∀ f fn, C.funcs.get f = some fn → (fn.name == "runtime.NumGoroutine") = false

section
variable {C : Cx} {ρ : Nat → Value} {w0 : World} {E : Env} {m : Mem} {w : World}

theorem enter_ok (hC : CxOk C ρ w0) (hN : FnOk C) {f : Nat} {fn : Func} {c : Code} (hf : C.funcs.get f = some fn) (hb : fn.body = some c) (args : Array Value) (w : World) : (callFunc f args).run C.P w = .ok (.enter f args) w := by
  have h1 : fn.name ≠ "runtime.NumGoroutine" := by simpa using hN f fn hf
  simp [callFunc, hC.funcs f fn hf, h1, hb]

theorem callD_ok (hC : CxOk C ρ w0) (hN : FnOk C) {n : Nat} {ih : Run} (hI : CallOk C ρ w0 ih) (hK : CodeOk C ρ w0 n ih) {d : SD} {d' : Deferred} {u u1 : Option (List SP)} {um : FrameMode} {m1 : Mem} (hM : RM C.P ρ w0 E m w) (hd : RD E ρ d d') (hU : RU E ρ u um) (h : callD C ih d u m = .ok (u1, m1)) :
    ∃ fv cap f args, d'.target = .fn fv cap ∧ (invoke d'.target d'.args).run C.P w = .ok (.enter f args) w ∧ CallsD C.P f args um w fun e u' w' => (∃ v, e = .returned v ∧ Left C ρ w0 E m m1 w' fun E' => RU E' ρ u1 (settle u')) ∨ (∃ chain, e = .panicked chain ∧ Left C ρ w0 E m m1 w' fun E' => RU E' ρ u1 (raised u' chain)) := by
  obtain ⟨cs, as, ht, ha, hcs, has⟩ := hd
  unfold callD at h
  split at h
  · rename_i f hfn
    split at h
    · rename_i fn hf
      split at h
      · rename_i c hb
        obtain ⟨⟨e, s1, u2, m2⟩, h1, h⟩ := Rs.bind_ok h
        have hP := hC.funcs f fn hf
        have hargs : Rs' E ρ (d.args ++ d.captured) (as ++ cs) := Rs'.append has hcs
        have harr : (⟨as⟩ : Array Value) ++ ⟨cs⟩ = ⟨as ++ cs⟩ := by apply Array.toList_inj.1; simp
        refine ⟨d.fn, ⟨cs⟩, f, ⟨as ++ cs⟩, ht, ?_, ?_⟩
        · rw [ht, ha, hfn]
          simp only [invoke, harr]
          exact enter_ok hC hN hf hb _ _
        · refine callsD_of_wpS hP hb fun c0 cs0 hmode => ?_
          have hc0 : c0 = { c0 with mode := um } := by subst hmode; rfl
          rw [hc0]
          refine codeD_ok hC hI hK (c0 := { c0 with mode := um }) c h1 hM (frame_ok hargs) hU _ ?_
          rintro e1 a1 cs1 w1 ⟨um1, rfl, E', b1, b2, b3, b4, b5, b6, b7⟩
          simp only at h
          split at h
          · rename_i hdf
            have hdf' : a1.defers = [] := by have := b6.defers; rw [hdf] at this; exact this
            split at h
            · obtain ⟨vs, hvs, h⟩ := Rs.bind_ok h
              simp only [Rs.ok.injEq, Prod.mk.injEq] at h
              obtain ⟨rfl, rfl⟩ := h
              cases e1 <;> first | exact b5.elim | skip
              obtain ⟨v, hv, _⟩ := results_ok hC b3 b6 hvs
              exact ⟨hdf', um1, rfl, v, hv, .inl ⟨v, rfl, E', b1, b2, b3, b4, b7.settle⟩⟩
            · obtain ⟨vs, hvs, h⟩ := Rs.bind_ok h
              simp only [Rs.ok.injEq, Prod.mk.injEq] at h
              obtain ⟨rfl, rfl⟩ := h
              cases e1 <;> first | exact b5.elim | skip
              obtain ⟨v, hv, _⟩ := results_ok hC b3 b6 hvs
              exact ⟨hdf', um1, rfl, v, hv, .inl ⟨v, rfl, E', b1, b2, b3, b4, b7.settle⟩⟩
            · simp only [Rs.ok.injEq, Prod.mk.injEq] at h
              obtain ⟨rfl, rfl⟩ := h
              cases e1 <;> first | exact b5.elim | skip
              exact ⟨hdf', um1, rfl, .inr ⟨_, rfl, E', b1, b2, b3, b4, b7.raised b5⟩⟩
            · simp at h
          · simp at h
      · simp at h
    · simp at h
  · simp at h

theorem leaveS_ok (hC : CxOk C ρ w0) (hN : FnOk C) {n : Nat} {ih : Run} (hI : CallOk C ρ w0 ih) (hK : CodeOk C ρ w0 n ih) {fn : Func} {s : FS} {a : Act} {o : CO} {m' : Mem} {K : Ending → World → Prop} : ∀ (ds : List SD) {E : Env} {m : Mem} {w : World} {ds' : List Deferred} {u : Option (List SP)} {um : FrameMode},
    leaveS C ih fn s ds u m = .ok (o, m') → RM C.P ρ w0 E m w → RF E ρ s a → RDs E ρ ds ds' → RU E ρ u um → (∀ e w1, (Left C ρ w0 E m m' w1 fun E' => REnd E' ρ o e) → K e w1) → Leaves C.P fn a.tmps K ds' um w
  | [], E, m, w, ds', u, um, h, hM, hF, hD, hU, hQ => by
    simp only [RDs] at hD
    subst hD
    cases u with
    | none =>
      cases um <;> first | exact hU.elim | skip
      simp only [leaveS] at h
      obtain ⟨vs, hvs, h⟩ := Rs.bind_ok h
      simp only [Rs.ok.injEq, Prod.mk.injEq] at h
      obtain ⟨rfl, rfl⟩ := h
      obtain ⟨v, hv, hr⟩ := results_ok hC hM hF hvs
      exact ⟨v, hv, hQ _ _ (Left.same hM hr)⟩
    | some ch =>
      cases um <;> first | exact hU.elim | skip
      simp only [leaveS, Rs.ok.injEq, Prod.mk.injEq] at h
      obtain ⟨rfl, rfl⟩ := h
      exact hQ _ _ (Left.same hM hU)
  | d :: ds, E, m, w, ds', u, um, h, hM, hF, hD, hU, hQ => by
    obtain ⟨d', ds'', hd, hds, rfl⟩ := hD
    simp only [leaveS] at h
    obtain ⟨⟨u1, m1⟩, h1, h⟩ := Rs.bind_ok h
    obtain ⟨fv, cap, f, args, ht, hinv, hcall⟩ := callD_ok hC hN hI hK hM hd hU h1
    obtain ⟨t, as⟩ := d'
    simp only at ht hinv
    subst ht
    refine leaves_cons (by rintro rfl; cases u <;> exact hU.elim) hinv (hcall.mono fun e u' w' he => ?_)
    rcases he with ⟨v, rfl, E', b1, b2, b3, b4, b5⟩ | ⟨chain, rfl, E', b1, b2, b3, b4, b5⟩
    · exact leaveS_ok hC hN hI hK ds h b3 (hF.mono b2) (hds.mono b2) b5 fun e w1 hx => hQ _ _ (Left.trans ⟨E', b1, b2, b3, b4, hx⟩)
    · exact leaveS_ok hC hN hI hK ds h b3 (hF.mono b2) (hds.mono b2) b5 fun e w1 hx => hQ _ _ (Left.trans ⟨E', b1, b2, b3, b4, hx⟩)

theorem fnS_ok (hC : CxOk C ρ w0) (hN : FnOk C) {n : Nat} {ih : Run} (hI : CallOk C ρ w0 ih) (hK : CodeOk C ρ w0 n ih) : CallOk C ρ w0 ⟨codeS C ih, scopeS ih, fnS C ih⟩ := by
  intro f args m o m' h E vs w hr hM
  simp only [fnS] at h
  split at h
  · rename_i fn hf
    split at h
    · rename_i c hb
      obtain ⟨⟨e, s1, m1⟩, h1, h⟩ := Rs.bind_ok h
      refine ⟨enter_ok hC hN hf hb, ?_⟩
      refine calls_of_wp_defers (hC.funcs f fn hf) hb ((hK c _ m e s1 m1 h1 E _ w hM (frame_ok hr) _ ?_).wp)
      rintro e1 a1 w1 ⟨E', b1, b2, b3, b4, b5, b6⟩
      simp only at h
      split at h
      · cases e1 <;> first | exact b5.elim | skip
        exact leaveS_ok hC hN hI hK _ h b3 b6 b6.defers (um := .returning) trivial fun e w1 hx => Left.trans ⟨E', b1, b2, b3, b4, hx⟩
      · cases e1 <;> first | exact b5.elim | skip
        exact leaveS_ok hC hN hI hK _ h b3 b6 b6.defers (um := .returning) trivial fun e w1 hx => Left.trans ⟨E', b1, b2, b3, b4, hx⟩
      · cases e1 <;> first | exact b5.elim | skip
        rename_i chain
        exact leaveS_ok hC hN hI hK _ h b3 b6 b6.defers (um := .panicking chain) b5 fun e w1 hx => Left.trans ⟨E', b1, b2, b3, b4, hx⟩
      · simp at h
    · simp at h
  · simp at h

/-- The run is the model's. -/
theorem run_ok (hC : CxOk C ρ w0) (hN : FnOk C) (hD : ∀ ih, CallOk C ρ w0 ih → DrawOk C ρ w0 ih) : ∀ n, CallOk C ρ w0 (run C n) ∧ CodeOk C ρ w0 n (run C n) ∧ ScopeOk C ρ w0 n (run C n)
  | 0 => ⟨fun _ _ _ _ _ h => by simp [run] at h, fun _ _ _ _ _ _ h => by simp [run] at h, fun _ _ _ _ _ _ _ h => by simp [run] at h⟩
  | n + 1 => by
    obtain ⟨hI, hK, hS⟩ := run_ok hC hN hD n
    exact ⟨fnS_ok hC hN hI hK, codeS_ok hC hI hK hS (hD _ hI), scopeS_ok hK hS⟩

end
end Go.Eng
