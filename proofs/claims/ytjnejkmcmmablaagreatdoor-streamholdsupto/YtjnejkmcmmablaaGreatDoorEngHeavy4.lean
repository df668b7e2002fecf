import Derived.Test.YtjnejkmcmmablaaGreatDoorEngHeavy3
import Derived.Lib.Bytealg
import Derived.Lib.MakeNoZero
/-
  The run's externs; calls; every operation.
-/
namespace Go.Eng
open Go.RowKit

section
variable {C : Cx} {ρ : Nat → Value} {w0 : World} {E : Env} {m : Mem} {w : World} {s : FS} {ev : Operand → Value}

theorem byte_eq (x : UInt8) (c : Nat) : (x == (Int.ofNat c).toNat.toUInt8) = decide (x.toNat = c % 256) := by
  rw [Bool.eq_iff_iff]
  simp only [beq_iff_eq, decide_eq_true_eq]
  rw [← UInt8.toNat_inj]
  show x.toNat = (UInt8.ofNat (Int.ofNat c).toNat).toNat ↔ _
  simp

theorem strAt_byte (l n i : Nat) (h : i < (bytesOf l n).length) : (bytesOf l n)[i].toNat = strAt l n i := by
  rw [getElem_bytesOf]
  simp [strAt]
  rfl

theorem findByte_ok (l n c : Nat) : ∀ (k i : Nat), i + k = l → (match findByte n (Nat.mod c 256) l k i with | some j => i ≤ j ∧ Lib.indexByte ((bytesOf l n).drop i) (Int.ofNat c).toNat.toUInt8 = (j : Int) - i | none => Lib.indexByte ((bytesOf l n).drop i) (Int.ofNat c).toNat.toUInt8 = -1)
  | 0, i, h => by
    simp only [findByte]
    rw [List.drop_of_length_le (by rw [length_bytesOf]; omega)]
    rfl
  | k + 1, i, h => by
    have hlen : i < (bytesOf l n).length := by rw [length_bytesOf]; omega
    have ih := findByte_ok l n c k (i + 1) (by omega)
    rw [List.drop_eq_getElem_cons hlen]
    simp only [findByte, Lib.indexByte, byte_eq, strAt_byte, cond_eq, beq_eq, decide_eq_true_eq]
    have hm : Nat.mod c 256 = c % 256 := rfl
    by_cases hc : strAt l n i = c % 256
    · rw [if_pos (by rw [hm]; exact hc)]
      simp only [hc, if_true]
      exact ⟨Nat.le_refl _, by omega⟩
    · rw [if_neg (by rw [hm]; exact hc), if_neg hc]
      show match findByte n (Nat.mod c 256) l k (i + 1) with | some j => _ | none => _
      cases hf : findByte n (Nat.mod c 256) l k (i + 1) with
      | none => rw [hf] at ih; simp only at ih ⊢; rw [ih]; rfl
      | some j =>
        rw [hf] at ih
        simp only at ih ⊢
        obtain ⟨h1, h2⟩ := ih
        refine ⟨by omega, ?_⟩
        rw [h2]
        have : ¬ (((j : Int) - ((i + 1 : Nat) : Int)) == -1) = true := by simp; omega
        rw [if_neg this]
        omega

theorem countByte_ok (c : Nat) : ∀ (l n acc : Nat), countByte (Nat.mod c 256) l n acc = acc + (bytesOf l n).count (Int.ofNat c).toNat.toUInt8
  | 0, n, acc => by simp [countByte, bytesOf]
  | l + 1, n, acc => by
    rw [countByte, countByte_ok c l, bytesOf_succ, List.count_append]
    have hm : Nat.mod c 256 = c % 256 := rfl
    have hn : Nat.mod n 256 = n % 256 := rfl
    have hd : Nat.div n 256 = n / 256 := rfl
    rw [List.count_singleton, byte_eq, hd]
    simp only [cond_eq, beq_eq, decide_eq_true_eq, hm, hn]
    have e : (UInt8.ofNat n).toNat = n % 256 := by simp
    rw [e]
    by_cases h : n % 256 = c % 256
    · simp [h]; omega
    · simp [h]

theorem anyN_ok : ∀ {n : Nat} {vs : List Value}, vs.length = n → Rs' E ρ (anyN n) vs
  | 0, vs, h => List.length_eq_zero_iff.1 h
  | n + 1, [], h => by simp at h
  | n + 1, v :: vs, h => ⟨v, vs, by simp [R], anyN_ok (by simpa using h), rfl⟩
theorem length_anyN : ∀ n, (anyN n).length = n
  | 0 => rfl
  | n + 1 => by simp [anyN, length_anyN n]

theorem digits_one : ∀ (n t : Nat) (acc : Array Value), (∀ v ∈ acc, v.oneCell' = true) → ∀ v ∈ Extern.BytealgMakeNoZero.digits n t acc, v.oneCell' = true
  | 0, _, _, h => h
  | n + 1, t, acc, h => by
    rw [Extern.BytealgMakeNoZero.digits]
    refine digits_one n _ _ fun v hv => ?_
    rcases Array.mem_push.1 hv with hv | rfl
    · exact h v hv
    · rfl

theorem run_makeNoZero {P : Program} (w : World) (ps rs : Array TypeId) (t e : TypeId) (hr : rs[0]? = some t) (ht : P.underlying t = some (.slice e)) (n : Nat) (hn : n ≤ 1000000) :
    ∃ (cs : List Value) (d : Nat), (Extern.BytealgMakeNoZero.makeNoZero ps rs #[.int .i64 n]).run P w = .ok (.slice (some ⟨w.heap.size, 0, none⟩) n cs.length) (({ w with drawn := d } : World).alloc (.cells ⟨cs⟩ e)) ∧ n ≤ cs.length ∧ ∀ v ∈ cs, v.oneCell' = true := by
  have hdef : Extern.BytealgMakeNoZero.makeNoZero ps rs #[.int .i64 n] =
      (do
        let some t := rs[0]? | stuck "bytealg.MakeNoZero: no result type"
        let .slice elem ← underlying t | stuck "bytealg.MakeNoZero: slice type expected"
        if (n : Int) < 0 || (n : Int) > 2 ^ 48 then runtimePanic (.error "makeslice: len out of range")
        let cap ← choose (.appendCap (n : Int).toNat 0 elem)
        askRoom cap
        let bytes ← choose (.extern "internal/bytealg.MakeNoZero.bytes" 0)
        let a ← newRow elem (Extern.BytealgMakeNoZero.digits cap bytes #[])
        pure (.slice (some a) (n : Int).toNat cap)) := rfl
  let cap := (Question.appendCap n 0 e).cut (w.tape w.drawn (.appendCap n 0 e))
  let by' := (Question.extern "internal/bytealg.MakeNoZero.bytes" 0).cut (w.tape (w.drawn + 1) (.extern "internal/bytealg.MakeNoZero.bytes" 0))
  have hsz : (Extern.BytealgMakeNoZero.digits cap by' #[]).size = cap := by rw [Lib.size_digits]; simp
  refine ⟨(Extern.BytealgMakeNoZero.digits cap by' #[]).toList, w.drawn + 1 + 1, ?_, ?_, ?_⟩
  · rw [hdef]
    have h1 : ¬ (n : Int) < 0 := by omega
    have h2 : ¬ (281474976710656 : Int) < (n : Int) := by omega
    rw [Array.length_toList, hsz]
    simp [hr, run_underlying ht, h1, h2, Question.forced, newRow, cap, by']
    rfl
  · rw [Array.length_toList, hsz]; simp [cap, Question.cut]
  · intro v hv
    exact digits_one cap by' #[] (by simp) v (by simpa using hv)

theorem enter_value {P : Program} {f : FuncId} {args : Array Value} {S : Sem Value} {v : Value} {w w' : World} (h : ∀ w, (callFunc f args).run P w = (S.run P w).andThen fun v w => .ok (.value v) w) (hs : S.run P w = .ok v w') :
    (callFunc f args).run P w = .ok (.value v) w' := by rw [h, hs]; rfl

theorem ltS_eq (l n l' n' : Nat) : ltS l n l' n' = Op.bytesLess (mkStr l n).toList (mkStr l' n').toList := by
  unfold ltS
  rw [toList_mkStr, toList_mkStr]

theorem extS_ok (hM : RM C.P ρ w0 E m w) {f : FuncId} {e : Ext} (he : ExtOk C.P f e) {vs : List SV} {us : List Value} {r : OR} (hr : Rs' E ρ vs us) (h : extS m e vs = .ok r) :
    ∃ v m' v' w', r = .val v m' ∧ (callFunc f ⟨us⟩).run C.P w = .ok (.value v') w' ∧ Left C ρ w0 E m m' w' fun E' => R E' ρ v v' := by
  unfold extS at h
  split at h
  · rename_i l n c
    simp only [Rs', R] at hr
    obtain ⟨_, _, ⟨hn, rfl⟩, ⟨_, _, rfl, rfl, rfl⟩, rfl⟩ := hr
    simp only [Rs.ok.injEq] at h
    have hrun := Lib.run_indexByteString (P := C.P) (mkStr l n) (Int.ofNat c) w
    refine ⟨_, _, _, _, h.symm, enter_value (he _) hrun, Left.same hM ?_⟩
    simp only [R]
    congr 1
    have := findByte_ok l n c l 0 (by omega)
    rw [List.drop_zero, ← data_mkStr] at this
    cases hf : findByte n (Nat.mod c 256) l l 0 with
    | none => rw [hf] at this; simp only at this; rw [this]; rfl
    | some j => rw [hf] at this; simp only at this; rw [this.2]; simp
  · rename_i l n c
    simp only [Rs', R] at hr
    obtain ⟨_, _, ⟨hn, rfl⟩, ⟨_, _, rfl, rfl, rfl⟩, rfl⟩ := hr
    simp only [Rs.ok.injEq] at h
    have hrun := Lib.run_countString (P := C.P) (mkStr l n) (Int.ofNat c) w
    refine ⟨_, _, _, _, h.symm, enter_value (he _) hrun, Left.same hM ?_⟩
    simp only [R]
    congr 1
    rw [countByte_ok, data_mkStr, Nat.zero_add]
    rfl
  · rename_i v
    simp only [Rs'] at hr
    obtain ⟨v', _, hv, rfl, rfl⟩ := hr
    simp only [Rs.ok.injEq] at h
    exact ⟨_, _, v', w, h.symm, enter_value (he _) rfl, Left.same hM hv⟩
  · rename_i x y c
    obtain ⟨hc, h⟩ := cond_ok h
    rw [ble_eq, decide_eq_true_eq] at hc
    simp only [Rs', R] at hr
    obtain ⟨_, _, rfl, ⟨_, _, rfl, ⟨_, _, rfl, rfl, rfl⟩, rfl⟩, rfl⟩ := hr
    simp only [Rs.ok.injEq] at h
    refine ⟨_, _, _, _, h.symm, he x y c w hc, Left.same hM ?_⟩
    simp only [R, Extern.MathBitsCarry.pair]
    exact ⟨_, Rs'.cons (by simp only [R]; rfl) (Rs'.cons (by simp only [R]; rfl) Rs'.nil), rfl⟩
  · rename_i l n l' n'
    simp only [Rs', R] at hr
    obtain ⟨_, _, ⟨hn, rfl⟩, ⟨_, _, ⟨hn', rfl⟩, rfl, rfl⟩, rfl⟩ := hr
    simp only [Rs.ok.injEq] at h
    refine ⟨_, _, _, _, h.symm, he _ _ w, Left.same hM ?_⟩
    simp only [R]
    congr 1
    rw [← ltS_eq, toList_mkStr, toList_mkStr]
    have heq : eqS l n l' n' = decide (bytesOf l n = bytesOf l' n') := by
      rw [Bool.eq_iff_iff]
      simp only [eqS, beq_eq, Bool.and_eq_true, decide_eq_true_eq]
      exact ⟨fun h => by rw [h.1, h.2], fun h => bytesOf_inj hn hn' h⟩
    rw [heq]
    cases ltS l n l' n' with
    | true => rfl
    | false =>
      simp only [Bool.false_eq_true, if_false, cond_eq, decide_eq_true_eq]
      split <;> rfl
  · rename_i e n
    obtain ⟨hn, h⟩ := cond_ok h
    rw [ble_eq, decide_eq_true_eq] at hn
    simp only [Rs', R] at hr
    obtain ⟨_, _, rfl, rfl, rfl⟩ := hr
    simp only [Rs.ok.injEq] at h
    obtain ⟨ps, rs, t, h1, h2, h3, _, h5⟩ := he
    obtain ⟨cs, d, hrun, hle, hone⟩ := run_makeNoZero (P := C.P) w ps rs t e h1 h2 n hn
    have hsplit : cs = cs.take n ++ cs.drop n := (List.take_append_drop n cs).symm
    have hl : Rs' E ρ (anyN n) (cs.take n) := anyN_ok (by simp; omega)
    have hlen : cs.length * 1 = (cs.take n).length + (cs.drop n).length := by simp; omega
    obtain ⟨w', hw', hleft⟩ := grown_new (C := C) hM (len := n) (c := cs.length) (s := 1) (rest := cs.drop n) (e := e) hl (fun v hv => hone v (List.mem_of_mem_take hv)) h3 hlen d
    rw [List.take_append_drop] at hw'
    refine ⟨_, _, _, w', h.symm, enter_value (h5 _) (by rw [hw']; exact hrun), hleft⟩
  · simp at h

/- Calls. -/
def REntry (E : Env) (ρ : Nat → Value) (p : SP) (q : PanicEntry) : Prop := R E ρ p.v q.v ∧ q.recovered = p.recovered ∧ q.goexit = false
def RCh (E : Env) (ρ : Nat → Value) : List SP → List PanicEntry → Prop
  | [], qs => qs = []
  | p :: ps, qs => ∃ q qs', REntry E ρ p q ∧ RCh E ρ ps qs' ∧ qs = q :: qs'

theorem RCh.mono {E E' : Env} {ρ : Nat → Value} (h : E.le E') : ∀ {ps : List SP} {qs : List PanicEntry}, RCh E ρ ps qs → RCh E' ρ ps qs
  | [], _, r => r
  | _ :: _, _, ⟨q, qs', ⟨r1, r2, r3⟩, rs, e⟩ => ⟨q, qs', ⟨R.mono h _ _ r1, r2, r3⟩, RCh.mono h rs, e⟩

/-- How a call ends. -/
def REnd (E : Env) (ρ : Nat → Value) : CO → Ending → Prop
  | .ret v, .returned v' => R E ρ v v'
  | .pan ch, .panicked chain => RCh E ρ ch chain
  | _, _ => False

/-- The run's calls are the model's. -/
def CallOk (C : Cx) (ρ : Nat → Value) (w0 : World) (ih : Run) : Prop := ∀ f args m o m', ih.call f args m = .ok (o, m') → ∀ E vs w, Rs' E ρ args vs → RM C.P ρ w0 E m w →
  (∀ args w, (callFunc f args).run C.P w = .ok (.enter f args) w) ∧ Calls C.P f ⟨vs⟩ w fun e w' => Left C ρ w0 E m m' w' fun E' => REnd E' ρ o e

theorem RM.grown {w' : World} (hM : RM C.P ρ w0 E m w) (h : Below w.heap.size w w') : RM C.P ρ w0 E m w' :=
  ⟨hM.below.trans (h.mono hM.below.size), fun id L hE => by
    obtain ⟨a, b, c⟩ := hM.ids id L hE
    exact ⟨a, b, Nat.lt_of_lt_of_le c h.size⟩, fun id o L h1 h2 => (hM.rows id o L h1 h2).heap (Env.le_refl E) (h.block _ (hM.ids id L h2).2.2), hM.apart⟩

/-- What a call comes to, in the model's operation. -/
theorem callS_ok (hC : CxOk C ρ w0) (hM : RM C.P ρ w0 E m w) {ih : Run} (hI : CallOk C ρ w0 ih) {f : Nat} {args : List SV} {vs : List Value} {r : OR} (hr : Rs' E ρ args vs) (h : callS C ih m f args = .ok r) {o : Oper} {a : Act} (hex : (execOp a.eval o).run C.P w = (callFunc f ⟨vs⟩).run C.P w) {next : Act → World → Prop} {Q : Exit → Act → World → Prop}
    (hv : ∀ v m', r = .val v m' → ∀ w' v', Left C ρ w0 E m m' w' (fun E' => R E' ρ v v') → next (a.put o.dst v') w')
    (hp : ∀ ch m', r = .panic ch m' → ∀ w' chain, Left C ρ w0 E m m' w' (fun E' => RCh E' ρ ch chain) → Q (.panic chain) a w') : o.wp C.P a w next Q := by
  unfold Oper.wp
  rw [hex]
  unfold callS at h
  split at h
  · rename_i v hf
    simp only [Rs.ok.injEq] at h
    obtain ⟨h1, h2⟩ := hC.fact hf E vs hr
    rw [h1]
    simp only [Oper.upon]
    refine Calls.mono (h2 w hM.below) fun e w' he => ?_
    obtain ⟨v', rfl, hR, hB⟩ := he
    exact hv v m h.symm w' v' (Left.turned (hM.grown hB) rfl hR)
  · split at h
    · rename_i e he
      obtain ⟨v, m', v', w', h1, h2, h3⟩ := extS_ok hM (hC.exts f e he) hr h
      rw [h2]
      exact hv v m' h1 w' v' h3
    · obtain ⟨⟨o', m'⟩, ho, h⟩ := Rs.bind_ok h
      obtain ⟨h1, h2⟩ := hI f args m o' m' ho E vs w hr hM
      rw [h1]
      simp only [Oper.upon]
      refine Calls.mono h2 fun e w' he => ?_
      obtain ⟨E', a1, a2, a3, a4, a5⟩ := he
      cases o' with
      | ret v =>
        simp only [Rs.ok.injEq] at h
        cases e with
        | returned v' => exact hv v m' h.symm w' v' ⟨E', a1, a2, a3, a4, a5⟩
        | panicked _ => exact a5.elim
        | outgrown => exact a5.elim
      | pan ch =>
        simp only [Rs.ok.injEq] at h
        cases e with
        | panicked chain => exact hp ch m' h.symm w' chain ⟨E', a1, a2, a3, a4, a5⟩
        | returned _ => exact a5.elim
        | outgrown => exact a5.elim

end
end Go.Eng
