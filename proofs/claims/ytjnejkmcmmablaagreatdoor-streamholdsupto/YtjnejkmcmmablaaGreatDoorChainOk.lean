import Derived.Test.YtjnejkmcmmablaaGreatDoorChainFacts
/-
  The lines, one behind the other: what stream.Run hands back.
-/
namespace Go.Eng
open Go.RowKit

section
variable {blk off n cap : Nat} {L : Nat → ByteArray} {w0 : World} {C : Cx}

theorem isOk_ok {α : Type} {r : Rs α} {f : α → Bool} (h : isOk r f = true) : ∃ x, r = .ok x ∧ f x = true := by
  cases r with
  | ok a => exact ⟨a, rfl, h⟩
  | er _ _ => cases h

theorem asNormal_ok {r : Rs (XE × FS × Mem)} {x : SM} (h : asNormal r = .ok x) : r = .ok (.normal, x.1, x.2) := by
  unfold asNormal at h
  split at h
  · simp only [Rs.ok.injEq] at h; subst h; rfl
  · simp at h
  · simp at h

/-- What is behind the loop. -/
def Behind (C : Cx) (ρ : Nat → Value) (w0 : World) (P : RunParts) (fn : Func) (good : List SV × Mem → Bool) (a : Act) (w : World) : Prop :=
  ∃ E s m s' m' vs, RM C.P ρ w0 E m w ∧ RF E ρ s a ∧ asNormal ((run (C.with []) fuelN).code P.r17 s m) = .ok (s', m') ∧ s'.df = [] ∧ resS (C.with []) s' m' fn.results.toList = .ok vs ∧ good (vs, m') = true

/-- The loop's way out. -/
def loopQ (K : Act → World → Prop) (id : Nat) : Exit → Act → World → Prop
  | .exit i, a, w => i = id ∧ K a w
  | _, _, _ => False

/-- From a state ahead of line k on, with M rounds at most behind it. -/
def GoodAt (C : Cx) (ρ : Nat → Value) (w0 : World) (P : RunParts) (fn : Func) (good : Nat → List SV × Mem → Bool) (n k M : Nat) (x : SM) : Prop :=
  ∀ (E : Env) (a : Act) (w : World), k < n → RM C.P ρ w0 E x.2 w → RF E ρ x.1 a →
    Code.rounds C.P P.body (loopQ (Behind C ρ w0 P fn (good (n - 1))) P.id) (M + 1) a w

theorem GoodAt.vacuous {ρ : Nat → Value} {P : RunParts} {fn : Func} {good : Nat → List SV × Mem → Bool} {k M : Nat} {x : SM} (h : n ≤ k) : GoodAt C ρ w0 P fn good n k M x :=
  fun _ _ _ hk _ _ => absurd hk (by omega)

theorem fwd_ok (hC : CxOk (C.with []) (rhoOf blk off n cap L) w0) (hN : FnOk C) (T : TypesAre C.P) (hL : LinesAt w0 blk off n L) (hs : ∀ k, k < n → (allOf L k).size ≤ 65536) {P : RunParts} {fn : Func} {good : Nat → List SV × Mem → Bool} {M : Nat} {y : SM} :
    ∀ (N k : Nat) {x : SM}, fwd C P fn good N k x = .ok y → GoodAt C (rhoOf blk off n cap L) w0 P fn good n (k + N) M y → GoodAt C (rhoOf blk off n cap L) w0 P fn good n k (N + M) x
  | 0, k, x, h, hy, E, a, w, hk, hM, hF => by
    simp only [fwd, Rs.ok.injEq] at h
    subst h
    rw [Nat.zero_add]
    exact hy E a w hk hM hF
  | N + 1, k, (s, m), h, hyy, E, a, w, hk, hM, hF => by
    simp only [fwd] at h
    obtain ⟨h1, h2⟩ := cond_ok h
    have hfs : ∀ f ∈ nowFacts k (decide (k + 1 = n)) ++ sumFacts k, FactOk C.P (rhoOf blk off n cap L) w0 f := fun f hf => by
      rcases List.mem_append.1 hf with hf | hf
      · exact nowFacts_ok T hL hk f hf
      · exact sumFacts_ok T (hs k hk) f hf
    have hCk : CxOk (C.with (nowFacts k (decide (k + 1 = n)) ++ sumFacts k)) (rhoOf blk off n cap L) w0 := CxOk.with hC hfs
    have hKk := (run_all hCk hN fuelN).2.1
    rw [show N + 1 + M = (N + M) + 1 from by omega, rounds_succ]
    by_cases hlast : k + 1 = n
    · obtain ⟨y, hy, hy2⟩ := isOk_ok h1
      obtain ⟨z, hz, hgood⟩ := isOk_ok hy2
      unfold round1 at hy
      have hy' := asNormal_ok hy
      rw [decide_eq_true hlast] at hKk
      refine (hKk _ _ _ _ _ _ hy' E a w hM hF _ ?_).wp
      rintro e1 a1 w1 ⟨E', b1, b2, b3, b4, b5, b6⟩
      cases e1 <;> first | exact b5.elim | skip
      -- the test fails
      have hCe : CxOk (C.with (endFacts n)) (rhoOf blk off n cap L) w0 := CxOk.with hC (endFacts_ok T)
      have hKe := (run_all hCe hN fuelN).2.1
      obtain ⟨s1, m1⟩ := y
      simp only [end1] at hz
      have hkn : Nat.succ k = n := hlast
      rw [hkn] at hz
      split at hz
      · rename_i i s2 m2 hrun
        obtain ⟨hid, hz⟩ := cond_ok hz
        rw [beq_eq, decide_eq_true_eq] at hid
        show Code.rounds C.P P.body _ (N + M + 1) a1 w1
        rw [rounds_succ]
        refine (hKe _ _ _ _ _ _ hrun E' a1 w1 b3 b6 _ ?_).wp
        rintro e2 a2 w2 ⟨E2, c1, c2, c3, c4, c5, c6⟩
        cases e2 <;> first | exact c5.elim | skip
        rename_i j
        have c5' : j = i := c5
        obtain ⟨x3, hx3, hz⟩ := Rs.bind_ok hz
        split at hz
        · rename_i hdf
          obtain ⟨vs, hvs, hz⟩ := Rs.bind_ok hz
          simp only [Rs.ok.injEq] at hz
          subst hz
          have hk1 : n - 1 = k := by omega
          exact ⟨by rw [c5', hid], E2, s2, m2, x3.1, x3.2, vs, c3, c6, hx3, hdf, hvs, by rw [hk1]; exact hgood⟩
        · simp at hz
      · simp at hz
      · simp at hz
    · obtain ⟨y1, hy, hy2⟩ := Rs.bind_ok h2
      rw [fSM_eq, fNat_eq] at hy2
      unfold round1 at hy
      have hy' := asNormal_ok hy
      rw [decide_eq_false hlast] at hKk
      refine (hKk _ _ _ _ _ _ hy' E a w hM hF _ ?_).wp
      rintro e1 a1 w1 ⟨E', b1, b2, b3, b4, b5, b6⟩
      cases e1 <;> first | exact b5.elim | skip
      exact fwd_ok hC hN T hL hs N (k + 1) hy2 (by rw [show k + 1 + N = k + (N + 1) from by omega]; exact hyy) E' a1 w1 (by omega) b3 b6

theorem keepIds_get : ∀ (ids : List Nat) (h : Tr SO) (j : Nat) (o : SO), (keepIds h ids).get j = some o → h.get j = some o
  | [], h, j, o, e => by simp [keepIds, Tr.get] at e
  | i :: is, h, j, o, e => by
    simp only [keepIds] at e
    split at e
    · rename_i o' ho'
      rw [Tr.get_set] at e
      split at e
      · rename_i hj; cases e; rw [hj]; exact ho'
      · exact keepIds_get is h j o e
    · exact keepIds_get is h j o e

theorem RM.keep {P : Program} {ρ : Nat → Value} {E : Env} {w : World} {m : Mem} (hM : RM P ρ w0 E m w) (ids : List Nat) : RM P ρ w0 E ⟨m.nx, keepIds m.hp ids⟩ w :=
  ⟨hM.below, hM.ids, fun id o L h e => hM.rows id o L (keepIds_get ids _ _ _ h) e,
   fun i j oi oj Li Lj hij h1 h2 => hM.apart i j oi oj Li Lj hij (keepIds_get ids _ _ _ h1) (keepIds_get ids _ _ _ h2)⟩

theorem runParts_ok {c : Code} {P : RunParts} (h : runParts c = some P) : c = .seq P.r0 (.scope (.seq P.r1 (.seq P.r2 (.seq (.label P.l) (.seq (.block P.id (.loop P.body)) (.seq P.r17 .ret)))))) := by
  unfold runParts at h
  split at h
  · simp only [Option.some.injEq] at h; subst h; rfl
  · cases h

theorem seg_ok (hC : CxOk (C.with []) (rhoOf blk off n cap L) w0) (hN : FnOk C) (T : TypesAre C.P) (hL : LinesAt w0 blk off n L) (hs : ∀ k, k < n → (allOf L k).size ≤ 65536) {P : RunParts} {fn : Func} {c : Code} (hb : fn.body = some c) (hP : runParts c = some P) {good : Nat → List SV × Mem → Bool} {M : Nat} {x y : SM}
    {N k : Nat} {ids : List Nat} (h : seg C fn good N k ids x = .ok y) (hy : GoodAt C (rhoOf blk off n cap L) w0 P fn good n (k + N) M y) : GoodAt C (rhoOf blk off n cap L) w0 P fn good n k (N + M) x := by
  unfold seg at h
  rw [hb] at h
  simp only [hP] at h
  obtain ⟨z, hz, h⟩ := Rs.bind_ok h
  rw [fSM_eq] at h
  simp only [Rs.ok.injEq] at h
  subst h
  exact fwd_ok hC hN T hL hs N k hz fun E a w hk hM hF => hy E a w hk (hM.keep ids) hF

theorem segStart_ok {fn : Func} {c : Code} (hb : fn.body = some c) {P : RunParts} (hP : runParts c = some P) {l : List SV} {x : SM} (h : segStart C fn l = .ok x) : begin1 C P fn l = .ok x := by
  unfold segStart at h
  rw [hb] at h
  simp only [hP] at h
  obtain ⟨z, hz, h⟩ := Rs.bind_ok h
  rw [fSM_eq] at h
  simp only [Rs.ok.injEq] at h
  subst h
  exact hz

/-- stream.Run over a script and lines. -/
theorem lines_ok (hC : CxOk (C.with []) (rhoOf blk off n cap L) w0) (hN : FnOk C) (T : TypesAre C.P) (hn : 0 < n) {N : Nat} {f : Nat} {fn : Func} (hf : C.P.funcs[f]? = some fn) {c : Code} (hb : fn.body = some c) {P : RunParts} (hP : runParts c = some P) {l : List SV} {good : Nat → List SV × Mem → Bool}
    {x : SM} (hx : begin1 C P fn l = .ok x) (hg : GoodAt C (rhoOf blk off n cap L) w0 P fn good n 0 N x) {E : Env} {w : World} {vs : List Value} (hM : RM C.P (rhoOf blk off n cap L) w0 E (startMem l) w) (hvs : Rs' E (rhoOf blk off n cap L) startArgs vs) :
    Calls C.P f ⟨vs⟩ w fun e w' => ∃ E' m' rs v, e = .returned v ∧ RM C.P (rhoOf blk off n cap L) w0 E' m' w' ∧ R E' (rhoOf blk off n cap L) (resOne rs) v ∧ good (n - 1) (rs, m') = true := by
  have hc := runParts_ok hP
  unfold begin1 at hx
  obtain ⟨x0, h0, hx⟩ := Rs.bind_ok hx
  obtain ⟨x1, h1, h2⟩ := Rs.bind_ok hx
  have h0' := asNormal_ok h0
  have h1' := asNormal_ok h1
  have h2' := asNormal_ok h2
  have hC0 : CxOk (C.with [⟨.len 22 (.op 0), .op 1⟩]) (rhoOf blk off n cap L) w0 := CxOk.with hC (fun f hf => endFacts_ok T f (by simp only [List.mem_singleton] at hf; subst hf; simp [endFacts]))
  have hK0 := (run_all hC0 hN fuelN).2.1
  have hK := (run_all hC hN fuelN).2.1
  refine calls_of_wp_defers hf hb ?_
  rw [hc]
  refine wp_seq (hK0 _ _ _ _ _ _ h0' E _ w hM (frame_ok hvs) _ ?_).wp
  rintro e1 a1 w1 ⟨E1, _, _, b3, _, b5, b6⟩
  cases e1 <;> first | exact b5.elim | skip
  refine wp_scope_straight (wp_seq (hK _ _ _ _ _ _ h1' E1 a1 w1 b3 b6 _ ?_).wp)
  rintro e2 a2 w2 ⟨E2, _, _, c3, _, c5, c6⟩
  cases e2 <;> first | exact c5.elim | skip
  refine wp_seq (hK _ _ _ _ _ _ h2' E2 a2 w2 c3 c6 _ ?_).wp
  rintro e3 a3 w3 ⟨E3, _, _, d3, _, d5, d6⟩
  cases e3 <;> first | exact d5.elim | skip
  refine wp_seq (wp_label (wp_seq (wp_block ?_)))
  have hloop := wp_loop_rounds (N + 1) (hg E3 a3 w3 hn d3 d6)
  refine Code.wp_mono (fun e4 a4 w4 hq => ?_) hloop
  cases e4 <;> first | exact hq.elim | skip
  rename_i i
  obtain ⟨rfl, E4, s4, m4, s5, m5, rs, g1, g2, g3, g6, g4, g5⟩ := hq
  have g3' := asNormal_ok g3
  show (if _ then _ else _)
  rw [if_pos rfl]
  refine wp_seq (hK _ _ _ _ _ _ g3' E4 a4 w4 g1 g2 _ ?_).wp
  rintro e5 a5 w5 ⟨E5, _, _, k3, _, k5, k6⟩
  cases e5 <;> first | exact k5.elim | skip
  refine wp_ret ?_
  obtain ⟨v, hv, hR⟩ := results_ok hC k3 k6 g4
  have hdf : a5.defers = [] := by have := k6.defers; simp only at this; rw [g6] at this; exact this
  show Leaves C.P fn a5.tmps _ a5.defers .returning w5
  rw [hdf]
  exact ⟨v, hv, E5, m5, rs, v, rfl, k3, hR, g5⟩

end
end Go.Eng
