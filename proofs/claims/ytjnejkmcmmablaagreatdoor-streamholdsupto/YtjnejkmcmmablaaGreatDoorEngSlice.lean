import Derived.Test.YtjnejkmcmmablaaGreatDoorEngOps
/-
  Cuts.
-/
namespace Go.Eng
open Go.RowKit

section
variable {C : Cx} {ρ : Nat → Value} {w0 : World} {E : Env} {m : Mem} {w : World}

theorem run_sliceBound_nat (P : Program) (k : IntKind) (i y : Nat) (code : BoundsCode) (h : i ≤ y) (w : World) : (Instr.sliceBound (.int k (i : Int)) y code).run P w = .ok i w := by
  have : (i : Int) ≤ (y : Int) := by omega
  simp [Instr.sliceBound, asIntOf, this]

theorem boundsS_ok (P : Program) {len lim : Nat} {lo hi : Option SV} {l h : Nat} (hb : boundsS len lim lo hi = .ok (l, h)) {lo' hi' : Option Value} (hlo : RO' E ρ lo lo') (hhi : RO' E ρ hi hi') (c : Nat) (hc : lim ≤ c) (b : Bool) (w : World) :
    (Instr.sliceBounds b len c lo' hi' none).run P w = .ok (l, h, c) w := by
  unfold boundsS at hb
  split at hb
  · obtain ⟨l', hl', hb⟩ := Rs.bind_ok hb
    obtain ⟨hle, hb⟩ := cond_ok hb
    rw [ble_eq, decide_eq_true_eq] at hle
    simp only [Rs.ok.injEq, Prod.mk.injEq] at hb
    obtain ⟨rfl, rfl⟩ := hb
    cases hi' with
    | some _ => exact hhi.elim
    | none =>
      cases lo with
      | none =>
        cases lo' with
        | some _ => exact hlo.elim
        | none =>
          simp only [optNat, Rs.ok.injEq] at hl'; subst hl'
          simp [Instr.sliceBounds]
      | some x =>
        cases lo' with
        | none => exact hlo.elim
        | some v =>
          obtain ⟨k, rfl⟩ := asNat_ok hl' hlo
          simp [Instr.sliceBounds, run_sliceBound_nat P k _ _ _ hle]
  · rename_i hx
    obtain ⟨h', hh', hb⟩ := Rs.bind_ok hb
    obtain ⟨l', hl', hb⟩ := Rs.bind_ok hb
    obtain ⟨hle, hb⟩ := cond_ok hb
    simp only [ble_eq, Bool.and_eq_true, decide_eq_true_eq] at hle
    simp only [Rs.ok.injEq, Prod.mk.injEq] at hb
    obtain ⟨rfl, rfl⟩ := hb
    cases hi' with
    | none => exact hhi.elim
    | some vh =>
      obtain ⟨kh, rfl⟩ := asNat_ok hh' hhi
      have hle2 : h' ≤ c := by omega
      cases lo with
      | none =>
        cases lo' with
        | some _ => exact hlo.elim
        | none =>
          simp only [optNat, Rs.ok.injEq] at hl'; subst hl'
          simp [Instr.sliceBounds, run_sliceBound_nat P kh _ _ _ hle2]
      | some x =>
        cases lo' with
        | none => exact hlo.elim
        | some v =>
          obtain ⟨k, rfl⟩ := asNat_ok hl' hlo
          simp [Instr.sliceBounds, run_sliceBound_nat P kh _ _ _ hle2, run_sliceBound_nat P k _ _ _ hle.1]

theorem boundsS3_ok (P : Program) {len : Nat} {lo : Option SV} {hx : SV} {l h c c0 : Nat} {k3 : IntKind} (hb : boundsS len c lo (some hx) = .ok (l, h)) {lo' : Option Value} {vh : Value} (hlo : RO' E ρ lo lo') (hhi : R E ρ hx vh) (hc : c ≤ c0) (b : Bool) (w : World) :
    (Instr.sliceBounds b len c0 lo' (some vh) (some (.int k3 (c : Int)))).run P w = .ok (l, h, c) w := by
  simp only [boundsS] at hb
  obtain ⟨h', hh', hb⟩ := Rs.bind_ok hb
  obtain ⟨l', hl', hb⟩ := Rs.bind_ok hb
  obtain ⟨hle, hb⟩ := cond_ok hb
  simp only [ble_eq, Bool.and_eq_true, decide_eq_true_eq] at hle
  simp only [Rs.ok.injEq, Prod.mk.injEq] at hb
  obtain ⟨rfl, rfl⟩ := hb
  obtain ⟨kh, rfl⟩ := asNat_ok hh' hhi
  have e3 : ∀ code w, (Instr.sliceBound (.int k3 (c : Int)) c0 code).run P w = .ok c w := fun code w => run_sliceBound_nat P k3 c c0 code hc w
  have e2 : ∀ code w, (Instr.sliceBound (.int kh (h' : Int)) c code).run P w = .ok h' w := fun code w => run_sliceBound_nat P kh h' c code hle.2 w
  cases lo with
  | none =>
    cases lo' with
    | some _ => exact hlo.elim
    | none =>
      simp only [optNat, Rs.ok.injEq] at hl'; subst hl'
      simp [Instr.sliceBounds, e3, e2]
  | some x =>
    cases lo' with
    | none => exact hlo.elim
    | some v =>
      obtain ⟨k, rfl⟩ := asNat_ok hl' hlo
      have e1 : ∀ code w, (Instr.sliceBound (.int k (l' : Int)) h' code).run P w = .ok l' w := fun code w => run_sliceBound_nat P k l' h' code hle.1 w
      simp [Instr.sliceBounds, e3, e2, e1]

theorem slice_str (hC : CxOk C ρ w0) {t : TypeId} {l n lo1 h1 : Nat} {lo hi : Option SV} {lo' hi' : Option Value} (hu : C.und t = .ok .string) (hlo : RO' E ρ lo lo') (hhi : RO' E ρ hi hi')
    (hb : boundsS l l lo hi = .ok (lo1, h1)) (hle : lo1 ≤ h1 ∧ h1 ≤ l) (w : World) :
    ∃ v, (Instr.sliceAt t (.string (mkStr l n)) lo' hi' none).run C.P w = .ok v w ∧ R E ρ (strCut l n lo1 h1) v := by
  have hund := CxOk.run_und hC hu w
  have hrun := fun w => boundsS_ok C.P hb hlo hhi l (Nat.le_refl _) false w
  refine ⟨.string ((mkStr l n).extract lo1 h1), ?_, ?_⟩
  · simp [Instr.sliceAt, Instr.slice, hund, size_mkStr, hrun]
  · simp only [strCut, R]
    exact ⟨Nat.mod_lt _ (Nat.pow_pos (by omega)), by rw [extract_mkStr l n lo1 h1 hle.1 hle.2]; rfl⟩

theorem slice_run (hC : CxOk C ρ w0) {t e : TypeId} {s : Nat} (hu : C.und t = .ok (.slice e)) (hs : C.size e = .ok s) (a : Option Addr) (len c0 l1 h1 c : Nat) {lo' hi' mx' : Option Value}
    (hb : ∀ w, (Instr.sliceBounds true len c0 lo' hi' mx').run C.P w = .ok (l1, h1, c) w) (w : World) :
    (Instr.sliceAt t (.slice a len c0) lo' hi' mx').run C.P w = .ok (.slice (if c = l1 then a else a.map (·.add (l1 * s))) (h1 - l1) (c - l1)) w := by
  have hund := CxOk.run_und hC hu w
  have hsz := fun w => CxOk.run_size hC hs w
  simp [Instr.sliceAt, Instr.slice, hund, hb, hsz]

theorem slice_arr (hC : CxOk C ρ w0) {t e : TypeId} {s k : Nat} (hu : C.und t = .ok (.array k e)) (hs : C.size e = .ok s) (a : Addr) (l1 h1 : Nat) {lo' hi' : Option Value}
    (hb : ∀ w, (Instr.sliceBounds false k k lo' hi' none).run C.P w = .ok (l1, h1, k) w) (w : World) :
    (Instr.sliceAt t (.pointer (some a)) lo' hi' none).run C.P w = .ok (.slice (if k = l1 then some a else (some a).map (·.add (l1 * s))) (h1 - l1) (k - l1)) w := by
  have hund := CxOk.run_und hC hu w
  have hsz := fun w => CxOk.run_size hC hs w
  simp only [Instr.sliceAt, Sem.run_bind, hund, Result.andThen_ok, Instr.sureAddr, Sem.run_pure, hb, hsz, Option.map_some]
  congr 2
  split <;> rfl

theorem slice_R {L : Loc} {id off l1 h1 c s : Nat} (hL : E id = some L) :
    R E ρ (.sl id (cond (Nat.beq c l1) off (Nat.add off (Nat.mul l1 s))) (Nat.sub h1 l1) (some (Nat.sub c l1)))
      (.slice (if c = l1 then some ⟨L.blk, L.off + off, none⟩ else (some (⟨L.blk, L.off + off, none⟩ : Addr)).map (·.add (l1 * s))) (h1 - l1) (c - l1)) := by
  simp only [R]
  refine ⟨L, c - l1, hL, ?_, rfl⟩
  rw [cond_eq, beq_eq]
  simp only [Option.map_some, addr_add]
  by_cases hcl : c = l1
  · simp only [hcl, decide_true, if_true]; rfl
  · simp only [hcl, decide_false, if_false, Bool.false_eq_true]
    rw [Nat.add_assoc]; rfl

theorem slice_grown (hC : CxOk C ρ w0) (hM : RM C.P ρ w0 E m w) {t e : TypeId} {s id off len n l1 h1 : Nat} {cells : Tr SV} {ex : Bool} {fz : Fz} {lo hi : Option SV} {lo' hi' : Option Value} {vx : Value} {r : SV}
    (hu : C.und t = .ok (.slice e)) (hs : C.size e = .ok s) (hlo : RO' E ρ lo lo') (hhi : RO' E ρ hi hi') (hrow : m.hp.get id = some (.row e n cells ex fz)) (hx : R E ρ (.sl id off len none) vx)
    (hb : boundsS len ((n - off) / s) lo hi = .ok (l1, h1)) (hoff : off ≤ n) (hht : h1 ≤ (n - off) / s) (hlh : l1 ≤ h1)
    (h6 : (cond (Nat.beq l1 0) (.ok (.sl id off h1 none)) (cond (Nat.blt l1 ((n - off) / s)) (.ok (.sl id (Nat.add off (Nat.mul l1 s)) (Nat.sub h1 l1) none)) (.ok .sle)) : Rs SV) = .ok r) :
    ∃ v, (Instr.sliceAt t vx lo' hi' none).run C.P w = .ok v w ∧ R E ρ r v := by
  simp only [R] at hx
  obtain ⟨L, c, hL, rfl, hcap, hces⟩ := hx
  obtain ⟨cc, fr, hblk, hsz1, hnc, hex, hcells, hfz, hes⟩ := hM.row hrow hL
  have hs' : L.es = s := by rw [hes]; exact CxOk.cellsOf_ok hC hs
  rw [hs'] at hces
  have hth : (n - off) / s ≤ c := by
    apply Nat.div_le_of_le_mul
    rw [Nat.mul_comm, hces]
    omega
  have hrun := fun w => boundsS_ok C.P hb hlo hhi c hth true w
  refine ⟨_, slice_run hC hu hs _ _ _ _ _ _ hrun w, ?_⟩
  simp only [Option.map_some, addr_add]
  rw [cond_eq, beq_eq] at h6
  split at h6
  · rename_i hl0
    rw [decide_eq_true_eq] at hl0; subst hl0
    simp only [Rs.ok.injEq] at h6; subst h6
    simp only [R, Nat.zero_mul, Nat.add_zero, Nat.sub_zero, ite_self]
    exact ⟨L, c, hL, rfl, hcap, by rw [hs']; exact hces⟩
  · rw [cond_eq, blt_eq] at h6
    split at h6
    · rename_i hlt
      rw [decide_eq_true_eq] at hlt
      simp only [Rs.ok.injEq] at h6; subst h6
      have hne : c ≠ l1 := by omega
      have hmul : l1 * s ≤ c * s := Nat.mul_le_mul_right _ (by omega)
      simp only [R, hne, if_false]
      refine ⟨L, c - l1, hL, by rw [Nat.add_assoc]; rfl, ?_, ?_⟩
      · show off + l1 * s ≤ L.cap; omega
      · rw [hs', Nat.sub_mul]; show _ = L.cap - (off + l1 * s); omega
    · rename_i hlt
      rw [decide_eq_true_eq] at hlt
      simp only [Rs.ok.injEq] at h6; subst h6
      have : h1 - l1 = 0 := by omega
      rw [this]
      simp only [R]
      split
      · exact ⟨_, _, rfl⟩
      · exact ⟨_, _, rfl⟩

theorem sliceS_ok (hC : CxOk C ρ w0) (hM : RM C.P ρ w0 E m w) {t : TypeId} {x r : SV} {lo hi mx : Option SV} {vx : Value} {lo' hi' mx' : Option Value} (hx : R E ρ x vx) (hlo : RO' E ρ lo lo') (hhi : RO' E ρ hi hi') (hmx : RO' E ρ mx mx')
    (h : sliceS C m t x lo hi mx = .ok r) : ∃ v, (Instr.sliceAt t vx lo' hi' mx').run C.P w = .ok v w ∧ R E ρ r v := by
  unfold sliceS at h
  rw [cond_eq] at h
  split at h
  · cases mx with
    | some _ => simp at h
    | none =>
      cases mx' with
      | some _ => exact hmx.elim
      | none =>
        obtain ⟨vr, hr, hrun⟩ := hC.fact h E vx lo' hi' hx (by cases lo <;> cases lo' <;> exact hlo) (by cases hi <;> cases hi' <;> exact hhi)
        exact ⟨vr, hrun w, hr⟩
  · obtain ⟨u, hu, h9⟩ := Rs.bind_ok h
    clear h
    have hmx0 : mx = none → mx' = none := by
      intro e; subst e
      cases mx' with
      | none => rfl
      | some _ => exact hmx.elim
    split at h9
    · obtain ⟨⟨lo1, h1⟩, hb, h8⟩ := Rs.bind_ok h9
      obtain ⟨hle, h7⟩ := cond_ok h8
      simp only [ble_eq, Bool.and_eq_true, decide_eq_true_eq] at hle
      simp only [Rs.ok.injEq] at h7; subst h7
      simp only [R] at hx
      obtain ⟨hn, rfl⟩ := hx
      cases hmx0 rfl
      exact slice_str hC hu hlo hhi hb hle w
    · obtain ⟨s, hs, h8⟩ := Rs.bind_ok h9
      obtain ⟨⟨l1, h1⟩, hb, h7⟩ := Rs.bind_ok h8
      obtain ⟨hle, h6⟩ := cond_ok h7
      simp only [ble_eq, Bool.and_eq_true, decide_eq_true_eq] at hle
      simp only [Rs.ok.injEq] at h6; subst h6
      simp only [R] at hx
      obtain ⟨L, c', hL, rfl, rfl⟩ := hx
      cases hmx0 rfl
      exact ⟨_, slice_run hC hu hs _ _ _ _ _ _ (fun w => boundsS_ok C.P hb hlo hhi _ (Nat.le_refl _) true w) w, slice_R hL⟩
    · obtain ⟨s, hs, h8⟩ := Rs.bind_ok h9
      obtain ⟨c, hc, h7⟩ := Rs.bind_ok h8
      split at h7
      · simp at h7
      · obtain ⟨⟨l1, h1⟩, hb, h6⟩ := Rs.bind_ok h7
        obtain ⟨hle, h5⟩ := cond_ok h6
        simp only [ble_eq, decide_eq_true_eq] at hle
        simp only [Rs.ok.injEq] at h5; subst h5
        simp only [R] at hx
        obtain ⟨L, c', hL, rfl, rfl⟩ := hx
        cases mx' with
        | none => exact hmx.elim
        | some mv' =>
          cases hi' with
          | none => exact hhi.elim
          | some vh =>
            obtain ⟨k3, rfl⟩ := asNat_ok hc hmx
            exact ⟨_, slice_run hC hu hs _ _ _ _ _ _ (fun w => boundsS3_ok C.P (k3 := k3) hb hlo hhi hle true w) w, slice_R hL⟩
    · obtain ⟨s, hs, h8⟩ := Rs.bind_ok h9
      split at h8
      · rename_i hrow
        obtain ⟨⟨l1, h1⟩, hb, h7⟩ := Rs.bind_ok h8
        obtain ⟨hle, h6⟩ := cond_ok h7
        simp only [ble_eq, beq_eq, blt_eq, Bool.and_eq_true, decide_eq_true_eq] at hle
        obtain ⟨⟨⟨⟨_, rfl⟩, hoff⟩, hht⟩, hlh⟩ := hle
        cases hmx0 rfl
        exact slice_grown hC hM hu hs hlo hhi hrow hx hb hoff hht hlh h6
      · simp at h8
    · obtain ⟨s, hs, h8⟩ := Rs.bind_ok h9
      obtain ⟨⟨l1, h1⟩, hb, h7⟩ := Rs.bind_ok h8
      obtain ⟨hle, h6⟩ := cond_ok h7
      simp only [beq_eq, Bool.and_eq_true, decide_eq_true_eq] at hle
      obtain ⟨rfl, rfl⟩ := hle
      simp only [Rs.ok.injEq] at h6; subst h6
      simp only [R] at hx; subst hx
      cases hmx0 rfl
      exact ⟨_, slice_run hC hu hs _ _ _ _ _ _ (fun w => boundsS_ok C.P hb hlo hhi 0 (Nat.le_refl _) true w) w, by simp [R]⟩
    · obtain ⟨s, hs, h8⟩ := Rs.bind_ok h9
      obtain ⟨⟨l1, h1⟩, hb, h7⟩ := Rs.bind_ok h8
      obtain ⟨hle, h6⟩ := cond_ok h7
      simp only [beq_eq, Bool.and_eq_true, decide_eq_true_eq] at hle
      obtain ⟨rfl, rfl⟩ := hle
      simp only [Rs.ok.injEq] at h6; subst h6
      simp only [R] at hx
      obtain ⟨a, c, rfl⟩ := hx
      cases hmx0 rfl
      refine ⟨_, slice_run hC hu hs _ _ _ _ _ _ (fun w => boundsS_ok C.P hb hlo hhi c (Nat.zero_le _) true w) w, ?_⟩
      simp only [R, Option.map_some]
      split
      · exact ⟨_, _, rfl⟩
      · exact ⟨_, _, rfl⟩
    · obtain ⟨s, hs, h8⟩ := Rs.bind_ok h9
      obtain ⟨⟨l1, h1⟩, hb, h7⟩ := Rs.bind_ok h8
      obtain ⟨hle, h6⟩ := cond_ok h7
      simp only [Rs.ok.injEq] at h6; subst h6
      simp only [R] at hx
      obtain ⟨L, hL, rfl⟩ := hx
      cases hmx0 rfl
      exact ⟨_, slice_arr hC hu hs _ _ _ (fun w => boundsS_ok C.P hb hlo hhi _ (Nat.le_refl _) false w) w, slice_R hL⟩
    · simp at h9

end
end Go.Eng
