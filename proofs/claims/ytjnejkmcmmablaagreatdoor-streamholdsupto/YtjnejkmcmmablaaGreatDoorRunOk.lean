import Derived.Test.YtjnejkmcmmablaaGreatDoorCx
/-
  stream.Run over the two scripts, from the states of the chain on: what comes back, said of cells.
-/
namespace Go.Proofs.YtjnejkmcmmablaaGreatDoor
open Go Go.Eng Go.RowKit

def cmdVals (op kind n : Nat) (nt : Bool) : List Value :=
  [.int .u8 (op : Int), .int .i64 (kind : Int), .int .i64 (n : Int), .slice none 0 0, .int .i64 0, .int .i64 0, .slice none 0 0, .bool nt, .slice none 0 0, .slice none 0 0, .bool false, .bool false, .string ByteArray.empty]
def vals1 : List Value := cmdVals 71 1 1 true ++ cmdVals 104 0 0 false ++ cmdVals 100 2 0 true
def vals2 : List Value := cmdVals 104 0 0 false ++ cmdVals 120 0 0 false ++ cmdVals 103 0 0 false

theorem cmd_R (E : Env) (ρ : Nat → Value) (op kind n : Nat) (nt : Bool) : Rs' E ρ (cmdCells op kind n nt) (cmdVals op kind n nt) := by
  have hs : mkStr 0 0 = ByteArray.empty := rfl
  unfold cmdCells cmdVals
  repeat (first | exact Rs'.nil | (refine Rs'.cons ?_ ?_; · simp [R, hs]))
theorem cmd_one (op kind n : Nat) (nt : Bool) : ∀ v ∈ cmdVals op kind n nt, v.oneCell' = true := by
  intro v hv
  simp only [cmdVals, List.mem_cons, List.not_mem_nil, or_false] at hv
  rcases hv with rfl | rfl | rfl | rfl | rfl | rfl | rfl | rfl | rfl | rfl | rfl | rfl | rfl <;> rfl
theorem s1_R (E : Env) (ρ : Nat → Value) : Rs' E ρ script1 vals1 := ((cmd_R E ρ _ _ _ _).append (cmd_R E ρ _ _ _ _)).append (cmd_R E ρ _ _ _ _)
theorem s2_R (E : Env) (ρ : Nat → Value) : Rs' E ρ script2 vals2 := ((cmd_R E ρ _ _ _ _).append (cmd_R E ρ _ _ _ _)).append (cmd_R E ρ _ _ _ _)
theorem s1_one : ∀ v ∈ vals1, v.oneCell' = true := by
  intro v hv
  simp only [vals1, List.mem_append] at hv
  rcases hv with (h | h) | h <;> exact cmd_one _ _ _ _ _ h
theorem s2_one : ∀ v ∈ vals2, v.oneCell' = true := by
  intro v hv
  simp only [vals2, List.mem_append] at hv
  rcases hv with (h | h) | h <;> exact cmd_one _ _ _ _ _ h

theorem with_of (P : Program) (l : List (Nat × Ext)) : (Cx.of P l).with [] = Cx.of P l := rfl
theorem cx_ok' (ρ : Nat → Value) (w0 : World) (h1 : ∀ i, (ρ i).oneCell' = true) : CxOk ((Cx.of Tryz.prog exts).with []) ρ w0 := by rw [with_of]; exact cx_ok ρ w0 h1

def noEnv : Env := fun _ => none

theorem cells32 : Tryz.prog.cellsOf 32 = 13 := by kernel_rfl

theorem start_M {l : List SV} {vs : List Value} (hl : ∀ E ρ, Rs' E ρ l vs) (h1 : ∀ v ∈ vs, v.oneCell' = true) (ρ : Nat → Value) (w0 : World) :
    RM Tryz.prog ρ w0 (noEnv.put 0 ⟨w0.heap.size, 0, vs.length, Tryz.prog.cellsOf 32⟩) (startMem l) (w0.alloc (.cells ⟨vs⟩ 32)) := by
  have hM := RM.start Tryz.prog ρ w0
  have := RO.new (P := Tryz.prog) (hl (Env.put (fun _ => none) 0 ⟨w0.heap.size, 0, vs.length, Tryz.prog.cellsOf 32⟩) ρ) h1 32 [] true (fun _ => rfl) .no (0, 0) w0.heap.size (lenOf l 0) rfl (w0.alloc (.cells ⟨vs⟩ 32)) (by rw [List.append_nil]; exact heap_alloc_new w0 _) rfl
  exact hM.alloc _ _ ⟨w0.heap.size, 0, vs.length, Tryz.prog.cellsOf 32⟩ rfl this

section
variable {blk off n cap : Nat} {L : Nat → ByteArray} {w0 : World}

theorem start_A {len : Nat} (hlen : len = 39) : Rs' (noEnv.put 0 ⟨w0.heap.size, 0, len, Tryz.prog.cellsOf 32⟩) (rhoOf blk off n cap L) startArgs [.slice (some ⟨w0.heap.size, 0, none⟩) 3 3, .slice (some ⟨blk, off, none⟩) n cap, .bool false, .int .i64 1500] := by
  subst hlen
  refine Rs'.cons ?_ (Rs'.cons ?_ (Rs'.cons ?_ (Rs'.cons ?_ Rs'.nil)))
  · simp only [R]
    exact ⟨_, 3, Env.put_same 0 _, rfl, rfl⟩
  · simp only [R]; rfl
  · simp [R]
  · simp [R]

theorem cells_out {ρ : Nat → Value} {E : Env} {m : Mem} {w : World} (hM : RM Tryz.prog ρ w0 E m w) {out : SV} {v : Value} (hR : R E ρ out v) {want : List SV} (h : cellsAre m out want = true) :
    ∃ rb ro rc, v = .slice (some ⟨rb, ro, none⟩) want.length rc ∧ ∀ i x, want[i]? = some x → ∃ u, w.cell? ⟨rb, ro + i, none⟩ = some u ∧ R E ρ x u := by
  unfold cellsAre at h
  split at h
  · rename_i id o len c
    simp only [Bool.and_eq_true, beq_eq, decide_eq_true_eq, lenOf_eq, Nat.zero_add] at h
    obtain ⟨hlen, h⟩ := h
    obtain ⟨l, hl, hb⟩ := isOk_ok h
    have := SV.beqs_sound _ _ hb
    subst this
    simp only [R] at hR
    obtain ⟨Lc, c', hE, rfl, _⟩ := hR
    obtain ⟨vs, hvs, hvl, _, hcell, _⟩ := hM.cells hl hE
    refine ⟨Lc.blk, Lc.off + o, c', by rw [hlen], fun i x hx => ?_⟩
    obtain ⟨u, hu, hr⟩ := hvs.get i x hx
    exact ⟨u, hcell i u hu, hr⟩
  · cases h

theorem linesUpTo_get : ∀ (n : Nat) (acc : List SV), (linesUpTo n acc).length = n + acc.length ∧ ∀ i, i < n → (linesUpTo n acc)[i]? = some (oLine i)
  | 0, acc => ⟨by simp [linesUpTo], fun i h => absurd h (by omega)⟩
  | n + 1, acc => by
    obtain ⟨h1, h2⟩ := linesUpTo_get n (oLine n :: acc)
    have hk : ∀ (n : Nat) (acc : List SV), linesUpTo n acc = linesUpTo n [] ++ acc := by
      intro n
      induction n with
      | zero => intro acc; simp [linesUpTo]
      | succ n ih => intro acc; rw [linesUpTo, ih, linesUpTo, ih [oLine n]]; simp
    refine ⟨by rw [linesUpTo, h1]; simp; omega, fun i hi => ?_⟩
    rw [linesUpTo]
    by_cases e : i < n
    · exact h2 i e
    · have e' : i = n := by omega
      subst e'
      have hl : (linesUpTo i []).length = i := by
        have := (linesUpTo_get i []).1; simpa using this
      rw [hk, List.getElem?_append_right (by omega), hl]
      simp

theorem out1 {E : Env} {m : Mem} {w : World} (hM : RM Tryz.prog (rhoOf blk off n cap L) w0 E m w) {rs : List SV} {v : Value} (hR : R E (rhoOf blk off n cap L) (resOne rs) v) {k : Nat} (h : good1 k (rs, m) = true) :
    ∃ rb ro rc fk fu, v = .tuple #[.slice (some ⟨rb, ro, none⟩) 1 rc, .int fk fu, .int .i64 0] ∧ w.cell? ⟨rb, ro, none⟩ = some (.string (allOf L k)) := by
  unfold good1 at h
  split at h
  · rename_i out fk fu m' heq
    cases heq
    simp only [resOne, R, Rs'] at hR
    obtain ⟨cs, ⟨v1, t1, h1, ⟨v2, t2, h2, ⟨v3, t3, h3, h4, rfl⟩, rfl⟩, rfl⟩, rfl⟩ := hR
    subst h2 h3 h4
    obtain ⟨rb, ro, rc, rfl, hc⟩ := cells_out hM h1 h
    obtain ⟨u, hu, hr⟩ := hc 0 _ rfl
    rw [oAll_R hr] at hu
    exact ⟨rb, ro, rc, fk, fu, rfl, hu⟩
  · cases h

theorem out2 {E : Env} {m : Mem} {w : World} (hM : RM Tryz.prog (rhoOf blk off n cap L) w0 E m w) {rs : List SV} {v : Value} (hR : R E (rhoOf blk off n cap L) (resOne rs) v) {k : Nat} (h : good2 k (rs, m) = true) :
    ∃ rb ro rc fk fu, v = .tuple #[.slice (some ⟨rb, ro, none⟩) (k + 1) rc, .int fk fu, .int .i64 0] ∧ ∀ i, i < k + 1 → w.cell? ⟨rb, ro + i, none⟩ = some (.string (L i)) := by
  unfold good2 at h
  split at h
  · rename_i out fk fu m' heq
    cases heq
    simp only [resOne, R, Rs'] at hR
    obtain ⟨cs, ⟨v1, t1, h1, ⟨v2, t2, h2, ⟨v3, t3, h3, h4, rfl⟩, rfl⟩, rfl⟩, rfl⟩ := hR
    subst h2 h3 h4
    obtain ⟨rb, ro, rc, rfl, hc⟩ := cells_out hM h1 h
    obtain ⟨g1, g2⟩ := linesUpTo_get (k + 1) []
    refine ⟨rb, ro, rc, fk, fu, by rw [show (linesUpTo (Nat.succ k) []).length = k + 1 from by simpa using g1]; rfl, fun i hi => ?_⟩
    obtain ⟨u, hu, hr⟩ := hc i _ (g2 i hi)
    rw [hu, op_R (rho_line i) hr]
  · cases h

variable {P : RunParts} {c : Code}

theorem run1_of (hn : 0 < n) (hb : Tryz.f6.body = some c) (hP : runParts c = some P) {x : SM} (hx : begin1 (Cx.of Tryz.prog exts) P Tryz.f6 script1 = .ok x) {N : Nat} (hg : GoodAt (Cx.of Tryz.prog exts) (rhoOf blk off n cap L) w0 P Tryz.f6 good1 n 0 N x) :
    Calls Tryz.prog 6 #[.slice (some ⟨w0.heap.size, 0, none⟩) 3 3, .slice (some ⟨blk, off, none⟩) n cap, .bool false, .int .i64 1500] (w0.alloc (.cells ⟨vals1⟩ 32)) fun e w' =>
      ∃ rb ro rc fk fu, e = .returned (.tuple #[.slice (some ⟨rb, ro, none⟩) 1 rc, .int fk fu, .int .i64 0]) ∧ w'.cell? ⟨rb, ro, none⟩ = some (.string (allOf L (n - 1))) ∧ Below w0.heap.size w0 w' := by
  have h := lines_ok (C := Cx.of Tryz.prog exts) (blk := blk) (off := off) (n := n) (cap := cap) (L := L) (w0 := w0) (cx_ok' _ w0 rho_one) cx_fn types_are hn Tryz.func6 hb hP hx hg
    (start_M s1_R s1_one _ w0) (start_A (by rfl))
  refine Calls.mono h ?_
  rintro e w' ⟨E', m', rs, v, rfl, hM, hR, hgood⟩
  obtain ⟨rb, ro, rc, fk, fu, rfl, hc⟩ := out1 hM hR hgood
  exact ⟨rb, ro, rc, fk, fu, rfl, hc, hM.below⟩

theorem run2_of (hn : 0 < n) (hb : Tryz.f6.body = some c) (hP : runParts c = some P) {x : SM} (hx : begin1 (Cx.of Tryz.prog exts) P Tryz.f6 script2 = .ok x) {N : Nat} (hg : GoodAt (Cx.of Tryz.prog exts) (rhoOf blk off n cap L) w0 P Tryz.f6 good2 n 0 N x) :
    Calls Tryz.prog 6 #[.slice (some ⟨w0.heap.size, 0, none⟩) 3 3, .slice (some ⟨blk, off, none⟩) n cap, .bool false, .int .i64 1500] (w0.alloc (.cells ⟨vals2⟩ 32)) fun e w' =>
      ∃ rb ro rc fk fu, e = .returned (.tuple #[.slice (some ⟨rb, ro, none⟩) n rc, .int fk fu, .int .i64 0]) ∧ (∀ i, i < n → w'.cell? ⟨rb, ro + i, none⟩ = some (.string (L i))) ∧ Below w0.heap.size w0 w' := by
  have h := lines_ok (C := Cx.of Tryz.prog exts) (blk := blk) (off := off) (n := n) (cap := cap) (L := L) (w0 := w0) (cx_ok' _ w0 rho_one) cx_fn types_are hn Tryz.func6 hb hP hx hg
    (start_M s2_R s2_one _ w0) (start_A (by rfl))
  refine Calls.mono h ?_
  rintro e w' ⟨E', m', rs, v, rfl, hM, hR, hgood⟩
  obtain ⟨rb, ro, rc, fk, fu, rfl, hc⟩ := out2 hM hR hgood
  have e1 : n - 1 + 1 = n := by omega
  rw [e1] at hc ⊢
  exact ⟨rb, ro, rc, fk, fu, rfl, hc, hM.below⟩

end
end Go.Proofs.YtjnejkmcmmablaaGreatDoor
