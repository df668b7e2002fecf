import Derived.Test.YtjnejkmcmmablaaGreatDoorEngSlice
import Derived.Laws.BytesArg
/-
  The operations that change no memory, together.
-/
namespace Go.Eng
open Go.RowKit

section
variable {C : Cx} {ρ : Nat → Value} {w0 : World} {E : Env} {m : Mem} {w : World} {s : FS} {ev : Operand → Value}

theorem unS_ok (hC : CxOk C ρ w0) {op : UnOp} {x r : SV} {vx : Value} (hx : R E ρ x vx) (h : unS C op x = .ok r) (w : World) : ∃ v, (Op.unary op vx).run C.P w = .ok v w ∧ R E ρ r v := by
  unfold unS at h
  split at h
  · split at h
    · simp only [Rs.ok.injEq] at h; subst h; simp only [R] at hx; subst hx; exact ⟨_, rfl, by simp [R]⟩
    · simp at h
  · split at h
    · simp only [Rs.ok.injEq] at h; subst h; simp only [R] at hx; subst hx; exact ⟨_, rfl, by simp [R, wrapS_eq, subI_eq]⟩
    · simp only [Rs.ok.injEq] at h; subst h; simp only [R] at hx; subst hx; exact ⟨_, rfl, by simp only [R]; rfl⟩
    · simp at h
  · obtain ⟨vr, hr, hrun⟩ := hC.fact h E vx hx
    exact ⟨vr, hrun w, hr⟩
  · simp at h

theorem partS_ok (hC : CxOk C ρ w0) {t : TypeId} {cs : List SV} {off : Nat} {r : SV} {vs : List Value} (hcs : Rs' E ρ cs vs) (h : partS C t cs off = .ok r) (w : World) :
    ∃ v, (part t ⟨vs⟩ off).run C.P w = .ok v w ∧ R E ρ r v := by
  unfold partS at h
  obtain ⟨d, hd, h⟩ := Rs.bind_ok h
  simp only [part, Sem.run_bind, CxOk.run_isAgg hC hd, Result.andThen_ok]
  cases hagg : isAgg d with
  | true =>
    rw [hagg] at h; simp only [cond_true] at h
    obtain ⟨n, hn, h⟩ := Rs.bind_ok h
    simp only [Rs.ok.injEq] at h; subst h
    refine ⟨.agg ⟨(vs.drop off).take n⟩, ?_, by simp only [R]; exact ⟨_, (hcs.drop off).take n, rfl⟩⟩
    simp only [if_true, Sem.run_bind, CxOk.run_size hC hn, Result.andThen_ok, Sem.run_pure]
    congr 2
    apply Array.toList_inj.1
    rw [Array.toList_extract, List.extract_eq_take_drop]
    simp
  | false =>
    rw [hagg] at h; simp only [cond_false] at h
    split at h
    · rename_i v hv
      simp only [Rs.ok.injEq] at h; subst h
      obtain ⟨u, hu, hr⟩ := hcs.get off _ hv
      refine ⟨u, ?_, hr⟩
      have : (⟨vs⟩ : Array Value)[off]? = some u := by simpa using hu
      simp [this]
    · simp at h

theorem sizeField_ok {t : TypeId} {f : Nat} {fd : Field} {z : Nat} (h : sizeField C t f = .ok (fd, z)) :
    ∃ fs, C.und t = .ok (.struct fs) ∧ fs[f]? = some fd ∧ C.size fd.type = .ok z := by
  unfold sizeField at h
  obtain ⟨u, hu, h⟩ := Rs.bind_ok h
  split at h
  · split at h
    · rename_i fs g hg
      obtain ⟨z', hz, h⟩ := Rs.bind_ok h
      simp only [Rs.ok.injEq, Prod.mk.injEq] at h
      obtain ⟨rfl, rfl⟩ := h
      exact ⟨_, hu, by simpa using hg, hz⟩
    · simp at h
  · simp at h

theorem fieldAt_ok (hC : CxOk C ρ w0) {t : TypeId} {f z : Nat} {fd : Field} (h : sizeField C t f = .ok (fd, z)) (hz : z ≠ 0) (b o : Nat) (w : World) :
    (Instr.fieldAt t (.pointer (some ⟨b, o, none⟩)) f).run C.P w = .ok (.pointer (some ⟨b, o + fd.offset, none⟩)) w := by
  obtain ⟨fs, hu, hf, hs⟩ := sizeField_ok h
  have hund := CxOk.run_und hC hu w
  have hsz := CxOk.run_size hC hs w
  simp [Instr.fieldAt, hund, hf, Instr.sureAddr, fieldPlace, hsz, hz, addr_add]

theorem indexAt_slice (hC : CxOk C ρ w0) {t e : TypeId} {sz : Nat} (hu : C.und t = .ok (.slice e)) (hs : C.size e = .ok sz) (b o len cap k : Nat) (kk : IntKind) (hk : k < len) (w : World) :
    (Instr.indexAt t (.slice (some ⟨b, o, none⟩) len cap) (.int kk (k : Int))).run C.P w = .ok (.pointer (some ⟨b, o + k * sz, none⟩)) w := by
  have hund := fun w => CxOk.run_und hC hu w
  have hsz := CxOk.run_size hC hs w
  simp [Instr.indexAt, asIntOf, hund, hsz, hk, addr_add]

theorem indexAt_array (hC : CxOk C ρ w0) {t e : TypeId} {sz len : Nat} (hu : C.und t = .ok (.array len e)) (hs : C.size e = .ok sz) (b o k : Nat) (kk : IntKind) (hk : k < len) (w : World) :
    (Instr.indexAt t (.pointer (some ⟨b, o, none⟩)) (.int kk (k : Int))).run C.P w = .ok (.pointer (some ⟨b, o + k * sz, none⟩)) w := by
  have hund := fun w => CxOk.run_und hC hu w
  have hsz := CxOk.run_size hC hs w
  simp [Instr.indexAt, asIntOf, hund, hsz, hk, addr_add, Instr.sureAddr]

theorem bytesNum_ok : ∀ {l : List SV} {a n : Nat} {vs : List Value}, bytesNum l a = .ok n → Rs' E ρ l vs → ∃ ns : List Int, vs = ns.map (Value.int .u8) ∧ n = numOf (ns.map fun b => UInt8.ofNat b.toNat) a
  | [], a, n, vs, h, hr => by
    simp only [bytesNum, Rs.ok.injEq] at h; subst h
    simp only [Rs'] at hr; subst hr
    exact ⟨[], rfl, rfl⟩
  | x :: l, a, n, vs, h, hr => by
    simp only [Rs'] at hr
    obtain ⟨v, vs', hv, hvs, rfl⟩ := hr
    cases x with
    | int k i =>
      cases k <;> try (simp [bytesNum] at h; done)
      cases i with
      | negSucc _ => simp [bytesNum] at h
      | ofNat b =>
        simp only [bytesNum] at h
        obtain ⟨hb, h7⟩ := cond_ok h
        rw [blt_eq, decide_eq_true_eq] at hb
        obtain ⟨ns, h1, h3⟩ := bytesNum_ok h7 hvs
        simp only [R] at hv
        refine ⟨(b : Int) :: ns, by rw [h1, hv]; rfl, ?_⟩
        rw [h3]
        simp only [List.map_cons, numOf]
        congr 1
        simp only [UInt8.toNat_ofNat', Int.toNat_natCast]
        show a * 256 + b = a * 256 + b % 2 ^ 8
        omega
    | _ => simp [bytesNum] at h

theorem convBytes_ok (hC : CxOk C ρ w0) (hM : RM C.P ρ w0 E m w) {src dst e : TypeId} {id off len n c : Nat} {l : List SV} {L : Loc} (hs : C.und src = .ok (.slice e)) (he : C.und e = .ok (.int .u8)) (hd : C.und dst = .ok .string)
    (hE : E id = some L) (hl : m.cells id off len = .ok l) (hn : bytesNum l 0 = .ok n) :
    (convert src dst (.slice (some ⟨L.blk, L.off + off, none⟩) len c)).run C.P w = .ok (.string (mkStr len n)) w ∧ n < 256 ^ len := by
  obtain ⟨vs, hvs, hlen, _, _, hrun⟩ := hM.cells hl hE
  obtain ⟨ns, rfl, rfl⟩ := bytesNum_ok hn hvs
  have hlen' : (ns.map fun b => UInt8.ofNat b.toNat).length = len := by simpa using hlen
  constructor
  · rw [run_convert_bytes_string w src dst e _ _ _ (CxOk.und_ok hC hs) (CxOk.und_ok hC he) (CxOk.und_ok hC hd), run_bytesToString w _ _ _ ns hrun, foldl_push_bytes]
    congr 2
    apply ByteArray.ext
    apply Array.toList_inj.1
    rw [data_mkStr, ← hlen', bytesOf_numOf]
    simp
  · have := numOf_lt (ns.map fun b => UInt8.ofNat b.toNat) 0
    rw [hlen'] at this; simpa using this

def RFound (E : Env) (ρ : Nat → Value) (i n : Nat) : Option (Nat × SV) → Option (Nat × Value) → Prop
  | none, none => True
  | some (j, x), some (j', v) => j = j' ∧ R E ρ x v ∧ i ≤ j ∧ j < i + n
  | _, _ => False

theorem findKeyS_ok (hC : CxOk C ρ w0) {kt : TypeId} {ku : TypeDesc} (hk : C.und kt = .ok ku) {k : SV} {vk : Value} (hkr : R E ρ k vk) : ∀ {es : List Ent} {fs : List MapEntry} {i : Nat} {r : Option (Nat × SV)},
    REnts E ρ es fs → findKeyS C ku k es i = .ok r → ∃ r', Instr.findNow ku vk fs i = some r' ∧ RFound E ρ i es.length r r'
  | [], fs, i, r, hr, h => by
    simp only [REnts] at hr; subst hr
    simp only [findKeyS, Rs.ok.injEq] at h; subst h
    exact ⟨none, rfl, trivial⟩
  | e :: es, fs, i, r, hr, h => by
    simp only [REnts] at hr
    obtain ⟨f, fs', h1, h2, h3, h4, rfl⟩ := hr
    have step : ∀ (b : Bool), Instr.sameNow ku vk f.key = some b → (cond b (.ok (some (i, e.val))) (findKeyS C ku k es (Nat.succ i)) : Rs _) = .ok r →
        ∃ r', Instr.findNow ku vk (f :: fs') i = some r' ∧ RFound E ρ i (es.length + 1) r r' := by
      intro b hb hh
      cases b with
      | true =>
        simp only [cond_true, Rs.ok.injEq] at hh; subst hh
        exact ⟨some (i, f.val), by simp [Instr.findNow, hb], rfl, h2, Nat.le_refl _, by omega⟩
      | false =>
        simp only [cond_false] at hh
        obtain ⟨r', hr', hm⟩ := findKeyS_ok hC hk hkr h4 hh
        refine ⟨r', by simp [Instr.findNow, hb]; exact hr', ?_⟩
        cases r with
        | none => cases r' with
          | none => trivial
          | some _ => exact hm.elim
        | some q => cases r' with
          | none => exact hm.elim
          | some q' => obtain ⟨a, b, c, d⟩ := hm; exact ⟨a, b, by omega, by omega⟩
    unfold findKeyS at h
    split at h
    · have hke := ‹e.key = SV.int _ _›
      obtain ⟨hkk, h7⟩ := cond_ok h
      have := kindEq_eq hkk; subst this
      rw [hke] at h1
      simp only [R] at hkr h1
      subst hkr
      refine step _ ?_ h7
      rw [h1]; simp [Instr.sameNow, intEq_eq]
    · have hke := ‹e.key = SV.str _ _›
      rw [hke] at h1
      simp only [R] at hkr h1
      obtain ⟨ha, rfl⟩ := hkr
      obtain ⟨hb, h1⟩ := h1
      refine step _ ?_ h
      rw [h1]
      simp only [Instr.sameNow]
      congr 1
      rw [eqS_eq ha hb, Bool.eq_iff_iff, ba_beq]; simp
    · obtain ⟨v, hv, h7⟩ := Rs.bind_ok h
      obtain ⟨sa, sb, rfl, hsb, hval⟩ := hC.fact hv E vk f.key hkr h1
      simp only at hval
      subst hval
      refine step (sa == sb) ?_ ?_
      · rw [hsb]; rfl
      · cases hb : (sa == sb) <;> rw [hb] at h7 <;> exact h7
    · simp at h

theorem findKey_run {P : Program} {kt : TypeId} {ku : TypeDesc} {vk : Value} {fs : List MapEntry} {r : Option (Nat × Value)} (hk : P.underlying kt = some ku) (h : Instr.findNow ku vk fs 0 = some r) (w : World) : (Instr.findKey kt vk fs).run P w = .ok r w := by
  simp [Instr.findKey, run_underlying hk, h]

theorem keyPlain (hC : CxOk C ρ w0) {kt : TypeId} {ku : TypeDesc} (hk : C.und kt = .ok ku) (hp : (match ku with | .int _ | .string => true | _ => false) = true) (vk : Value) (b : Bool) (n : Nat) (w : World) : (Instr.checkKey b (n + 1) kt vk).run C.P w = .ok () w := by
  have hund := CxOk.run_und hC hk w
  simp only [Instr.checkKey, Sem.run_bind, hund, Result.andThen_ok]
  cases ku <;> first | rfl | (simp at hp; done)

end
end Go.Eng
