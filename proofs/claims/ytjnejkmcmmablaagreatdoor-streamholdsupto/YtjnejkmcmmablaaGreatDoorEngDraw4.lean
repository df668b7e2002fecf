import Derived.Test.YtjnejkmcmmablaaGreatDoorEngDraw3
/-
  A region whose order is open: every step of every order.
-/
namespace Go.Eng
open Go.RowKit

theorem Env.put_le' {E : Env} {id : Nat} {L : Loc} (hn : E id = none) : E.le (E.put id L) := by
  intro i L' h
  unfold Env.put
  rw [if_neg]
  · exact h
  · rintro rfl; rw [hn] at h; cases h

theorem PlanOk.mask_lt {C : Cx} {ops : Array Oper} {p : Plan} (P : PlanOk C.types ops p) : ∀ (n i : Nat), i < n → ∀ (o : Oper), ops[i]? = some o → ∀ b, Nat.testBit (maskAt P.tab i) b = true → b < i
  | 0, i, hi, _, _, _, _ => by omega
  | n + 1, i, hi, o, ho, b, hb => by
    obtain ⟨e, he, hbd, h⟩ := P.mask i o ho b hb
    have hlt := P.edge i o ho e he hbd
    rcases h with rfl | h
    · exact hlt
    · have hsz : i < ops.size := (Array.getElem?_eq_some_iff.1 ho).1
      have := P.mask_lt n e.on (by omega) ops[e.on] (by simp [show e.on < ops.size from by omega]) b h
      omega

theorem PlanOk.hs_step {C : Cx} {ops : Array Oper} {p : Plan} (P : PlanOk C.types ops p) {k x y : Nat} (hx : p.hs[k]? = some x) (hy : p.hs[k + 1]? = some y) : x < y := by
  obtain ⟨o, ho, _⟩ := (P.heavy y).1 (List.mem_of_getElem? hy)
  exact P.mask_lt (y + 1) y (by omega) o ho x (P.chain k x y hx hy)

theorem PlanOk.hs_lt {C : Cx} {ops : Array Oper} {p : Plan} (P : PlanOk C.types ops p) : ∀ (n k x y : Nat), p.hs[k]? = some x → p.hs[k + n + 1]? = some y → x < y
  | 0, k, x, y, hx, hy => P.hs_step hx hy
  | n + 1, k, x, y, hx, hy => by
    have hlt : k + n + 1 < p.hs.length := by have := (List.getElem?_eq_some_iff.1 hy).1; omega
    have h1 := P.hs_lt n k x _ hx (List.getElem?_eq_getElem hlt)
    have h2 := P.hs_step (List.getElem?_eq_getElem hlt) (by rw [← hy]; congr 1)
    omega

theorem PlanOk.hs_inj {C : Cx} {ops : Array Oper} {p : Plan} (P : PlanOk C.types ops p) {k k' x : Nat} (h : p.hs[k]? = some x) (h' : p.hs[k']? = some x) : k = k' := by
  rcases Nat.lt_trichotomy k k' with hlt | rfl | hlt
  · obtain ⟨n, rfl⟩ : ∃ n, k' = k + n + 1 := ⟨k' - k - 1, by omega⟩
    have := P.hs_lt n k x x h h'; omega
  · rfl
  · obtain ⟨n, rfl⟩ : ∃ n, k = k' + n + 1 := ⟨k - k' - 1, by omega⟩
    have := P.hs_lt n k' x x h' h; omega

section
variable {C : Cx} {ρ : Nat → Value} {w0 : World} {ih : Run} {ops : Array Oper} {s sF : FS} {m0 mF : Mem} {p : Plan} {e : XE} {T : List St} {E0 : Env} {Q : Exit → Act → World → Prop}

theorem ChainOk.len {all : List Oper} {items : List DI} (hs : List Nat) : ∀ {m : Mem} {T : List St}, ChainOk C ih all items e mF hs m T → T.length ≤ hs.length + 1 := by
  induction hs with
  | nil =>
    intro m T h
    cases T with
    | nil => simp
    | cons t ts =>
      cases ts with
      | nil => simp
      | cons _ _ => exact h.elim
  | cons i hs ihh =>
    intro m T h
    cases T with
    | nil => simp
    | cons t ts =>
      obtain ⟨_, d, s, v, m', _, _, h⟩ := h
      rcases h with ⟨_, _, _, h⟩ | ⟨_, _, h⟩ | ⟨_, _, _, _, _, h⟩
      · have := ihh h; simp only [List.length_cons]; omega
      · have := ihh h; simp only [List.length_cons]; omega
      · subst h; simp

theorem Ops_of_looks {E : Env} {a : Act} {o : Oper} {s : FS} (h : ∀ t ∈ o.looksAt ops, R E ρ (s.get t) (a.tmps.getD t undef)) : Ops E ρ s a.eval o.op := by
  intro x hx v hv
  cases x with
  | tmp t =>
    simp only [FS.ev, Rs.ok.injEq] at hv; subst hv
    refine h t ?_
    unfold Oper.looksAt
    rw [List.mem_append]
    exact .inl (List.mem_filterMap.2 ⟨.tmp t, hx, rfl⟩)
  | const c => exact ofValue_R c v hv
  | global g => simp only [FS.ev, Rs.ok.injEq] at hv; subst hv; simp [R, Act.eval]
  | func f => simp only [FS.ev, Rs.ok.injEq] at hv; subst hv; simp [R, Rs', Act.eval]

structure Ends (D : DCtx C ih ops s m0 p e sF mF T) (ρ : Nat → Value) (w0 : World) (E0 : Env) (Q : Exit → Act → World → Prop) : Prop where
  normal : e = .normal → ∀ E a w, Agree m0.nx E0 E → E0.le E → RM C.P ρ w0 E mF w → m0.nx ≤ mF.nx → RF E ρ sF a → Q .normal a w
  panic : ∀ ch, e = .panic ch → ∀ E a w chain, Agree m0.nx E0 E → E0.le E → RM C.P ρ w0 E mF w → m0.nx ≤ mF.nx → RCh E ρ ch chain → a.tmps.size = s.sz → (∀ t, D.plan.wr.get t = none → R E ρ (s.get t) (a.tmps.getD t undef)) → RDs E ρ s.df a.defers → Q (.panic chain) a w

variable {D : DCtx C ih ops s m0 p e sF mF T} {X : Array Bool} {a : Act} {w : World} {E : Env} {h : Nat} {t : St} {ts : List St} {mp : Mem}

theorem Inv.done (I : Inv D ρ w0 E0 X a w E h t ts mp) (F : Ends D ρ w0 E0 Q) (hr : Region.ready .any ops X = []) : Q .normal a w := by
  have all : ∀ n i, i < n → i < ops.size → X[i]? = some true := by
    intro n
    induction n with
    | zero => intro i hi; omega
    | succ n ihn =>
      intro i hi hsz
      have hXi : i < X.size := by rw [I.size]; exact hsz
      cases hx : X[i] with
      | true => rw [Array.getElem?_eq_getElem hXi, hx]
      | false =>
        have : i ∈ Region.ready .any ops X := by
          refine mem_ready.2 ⟨hsz, by simp [Array.getD, hXi, hx], ops[i], by simp [hsz], fun e he hb => ?_⟩
          have hlt := D.plan.edge i ops[i] (by simp [hsz]) e he hb
          have := ihn e.on (by omega) (by omega)
          rw [Array.getD_eq_getD_getElem?, this]; rfl
        rw [hr] at this; simp at this
  have hh : ¬ h < p.hs.length := fun hlt => by
    have hx := List.getElem?_eq_getElem hlt
    obtain ⟨o, ho, _⟩ := (D.plan.heavy _).1 (List.mem_of_getElem? hx)
    have hsz := (Array.getElem?_eq_some_iff.1 ho).1
    have := (I.hv h _ hx).1 (all _ _ (Nat.lt_succ_self _) hsz)
    omega
  have hch := I.chain
  rw [List.drop_of_length_le (by omega)] at hch
  cases ts with
  | cons _ _ => exact hch.elim
  | nil =>
    obtain ⟨_, _, he, hm⟩ := hch
    have hM := I.mem
    have hnx := I.nx
    rw [← hm] at hM hnx
    refine F.normal he E a w I.agree I.le hM hnx ⟨by rw [I.fsize, D.off.sz], fun t0 => I.tm t0 fun j hj => ?_, by rw [D.off.df]; exact I.df⟩
    obtain ⟨o, ho, _⟩ := D.plan.written t0 j hj
    exact all _ _ (Nat.lt_succ_self _) (Array.getElem?_eq_some_iff.1 ho).1

/-- One step of one order. -/
theorem Inv.step (hC : CxOk C ρ w0) (hI : CallOk C ρ w0 ih) (I : Inv D ρ w0 E0 X a w E h t ts mp) (F : Ends D ρ w0 E0 Q) {i : Nat} (hi : i ∈ Region.ready .any ops X) {K : Act → World → Prop}
    (hK : ∀ a' w' E' h' t' ts' mp', Inv D ρ w0 E0 (X.setIfInBounds i true) a' w' E' h' t' ts' mp' → K a' w') : wpOp C.P ops Q i K a w := by
  obtain ⟨hsz, hXf, o, hio, hedge⟩ := mem_ready.1 hi
  have hXi : i < X.size := by rw [I.size]; exact hsz
  have hXn : X[i]? ≠ some true := by
    intro hx
    rw [Array.getD_eq_getD_getElem?, hx] at hXf
    simp at hXf
  have hed : ∀ j, Nat.testBit (maskAt D.plan.tab i) j = true → X[j]? = some true := by
    intro j hj
    obtain ⟨e1, he, hb, h1⟩ := D.plan.mask i o hio j hj
    have hon : X[e1.on]? = some true := by
      have := hedge e1 he hb
      rw [Array.getD_eq_getD_getElem?] at this
      cases hx : X[e1.on]? with
      | none => rw [hx] at this; simp at this
      | some b => rw [hx] at this; simp at this; rw [this]
    rcases h1 with rfl | h1
    · exact hon
    · exact I.clo _ hon j h1
  have hlooks : ∀ t0 ∈ o.looksAt ops, R E ρ (sF.get t0) (a.tmps.getD t0 undef) := fun t0 ht0 => I.tm t0 fun j hj => hed j (D.plan.looks i o hio t0 ht0 j hj)
  have hitem := D.plan.item i o hio
  have hTlen : h < T.length := by
    have := congrArg List.length I.at_
    simp at this; omega
  have hTh : T[h]? = some t := by
    have := congrArg (·[0]?) I.at_
    simpa using this
  have hhs : h ≤ p.hs.length := by have := ChainOk.len _ D.chain; omega
  have hlo : (itemAt C.types D.plan.tab p.hs i o).lo ≤ h := loOf_le _ h p.hs 0 0 (fun k x hx hb => by have := (I.hv k x hx).1 (hed x hb); omega) (Nat.zero_le _)
  have hhi : h ≤ (itemAt C.types D.plan.tab p.hs i o).hi := le_hiOf _ i h p.hs 0 (fun k x hx hb => by
    apply Nat.le_of_not_lt
    intro hk
    exact hXn (I.clo x ((I.hv k x hx).2 (by omega)) i hb)) (by omega)
  have hloK : (itemAt C.types D.plan.tab p.hs i o).lo ≤ T.length - 1 := by omega
  have hmem : itemAt C.types D.plan.tab p.hs i o ∈ upTo (T.length - 1) p.items := upTo_mem.2 ⟨List.mem_of_getElem? hitem, hloK⟩
  have hdst : ∀ t0, o.dst = some t0 → t0 < s.sz := fun t0 ht0 => by
    have := dstsOk_at D.dsts _ hmem t0 ht0
    rw [D.off.sz] at this; exact this
  unfold wpOp
  rw [hio]
  show (if Region.wanted o (yielded ops a.tmps) then _ else _)
  by_cases hcls : opClass C.types o.op < 2
  · -- one that changes nothing, or makes a block
    have hsame := allIn_at (itemsOk_at D.same _ hmem hcls) h t hTh (by rw [Nat.zero_add]; exact hlo) (by rw [Nat.zero_add]; exact hhi)
    have hnot : ∀ k x, p.hs[k]? = some x → x ≠ i := fun k x hx he => by
      obtain ⟨o', ho', hc⟩ := (D.plan.heavy x).1 (List.mem_of_getElem? hx)
      rw [he, hio] at ho'; cases ho'
      omega
    have hhv : ∀ k x, p.hs[k]? = some x → ((if x = i then some true else X[x]?) = some true ↔ k < h) := fun k x hx => by
      rw [if_neg (hnot k x hx)]; exact I.hv k x hx
    have go : ∀ {E' : Env} {w' : World} {v' : Value}, E.le E' → Agree m0.nx E E' → RM C.P ρ w0 E' t.mem w' → (∀ t0, o.dst = some t0 → R E' ρ (sF.get t0) v') →
        (∀ (j : Nat) (d : DI), p.items[j]? = some d → j ≠ i → d.lo ≤ T.length - 1 → X[j]? ≠ some true → ∀ id, madeId ops.toList sF d = some id → E' id = none) → K (a.put o.dst v') w' :=
      fun hle hag hM hv hmade => hK _ _ _ h t ts mp (I.next hio hed hdst hle hag hhv I.at_ I.chain hM hv hmade I.nx)
    have hmadeE : ∀ (j : Nat) (d : DI), p.items[j]? = some d → j ≠ i → d.lo ≤ T.length - 1 → X[j]? ≠ some true → ∀ id, madeId ops.toList sF d = some id → E id = none := fun j d hd _ hl hx id hid => I.made j d hd hl hx id hid
    unfold sameIn at hsame
    split at hsame
    · rename_i hg
      have hg' : guardOk ops.toList sF o = .ok true := hg
      rw [guard_ok hlooks hg', if_pos rfl]
      refine .inl ?_
      rw [cond_eq] at hsame
      split at hsame
      · rename_i hc1
        rw [beq_eq, decide_eq_true_eq] at hc1
        split at hsame
        · rename_i so f td hobj htd
          have htd' : o.dst = some td := htd
          split at hsame
          · rename_i id hid
            simp only [Bool.and_eq_true, blt_eq, decide_eq_true_eq] at hsame
            obtain ⟨⟨hbeq, hrow⟩, hidlt⟩ := hsame
            have hfid := SV.beq_sound _ _ hbeq
            have hmid : madeId ops.toList sF (itemAt C.types D.plan.tab p.hs i o) = some id := by
              unfold madeId
              rw [hc1]
              show (match guardOk ops.toList sF o, o.dst with | .ok true, some t => _ | _, _ => _) = _
              rw [hg', htd']
              simp only [hid]
            have hEn := I.made i _ hitem hloK hXn id hmid
            obtain ⟨L, c, el, hL, ⟨v', hrun, _, hR⟩, hRO⟩ := obj_ok hC I.mem (Ops_of_looks hlooks) hobj
            cases hso' : t.mem.hp.get id with
            | none => rw [hso'] at hrow; cases so <;> simp [sameRow] at hrow
            | some so' =>
              rw [hso'] at hrow
              obtain ⟨hle, hM'⟩ := I.mem.place (.cells c el) hidlt hEn hso' hL ((hRO _ (Env.put_le' hEn)).sameRow hrow)
              have hold := noneMade_ok D.old id (mem_madeIds hmem hmid)
              refine wp_val hrun (go hle (fun id' hid' => ?_) hM' (fun t0 ht0 => ?_) (fun j d hd hne hl hx id' hid' => ?_))
              · unfold Env.put; rw [if_neg (by omega)]
              · rw [htd'] at ht0; cases ht0
                rw [hfid]; exact hR _ _ (Env.put_same _ _)
              · unfold Env.put
                rw [if_neg]
                · exact I.made j d hd hl hx id' hid'
                · obtain ⟨o', ho', rfl⟩ := D.item_of hd
                  refine fun he => apart_ok D.ap _ (upTo_mem.2 ⟨List.mem_of_getElem? hd, hl⟩) _ hmem (fun hdd => hne ?_) _ _ hid' hmid he
                  exact congrArg DI.ix hdd
          · cases hsame
        · cases hsame
      · split at hsame
        · rename_i v hv
          obtain ⟨v', h1, h2⟩ := light_ok hC I.mem (Ops_of_looks hlooks) hv
          exact wp_val h1 (go (Env.le_refl E) (fun _ _ => rfl) I.mem (fun t0 ht0 => by rw [dstIs_ok hsame t0 ht0]; exact h2) hmadeE)
        · cases hsame
    · rename_i hg
      have hg' : guardOk ops.toList sF o = .ok false := hg
      rw [guard_ok hlooks hg']
      simp only [Bool.false_eq_true, if_false]
      exact go (Env.le_refl E) (fun _ _ => rfl) I.mem (fun t0 ht0 => by rw [dstIs_ok hsame t0 ht0]; exact R_undef) hmadeE
    · cases hsame
  · -- a heavy one
    have hc2 : opClass C.types o.op = 2 := by rcases opClass_le C.types o.op with h | h | h <;> omega
    obtain ⟨k, hk, hki⟩ := List.getElem_of_mem ((D.plan.heavy i).2 ⟨o, hio, hc2⟩)
    have hki' : p.hs[k]? = some i := by rw [List.getElem?_eq_getElem hk, hki]
    have hkh : k = h := by
      have h1 : ¬ k < h := fun hlt => hXn ((I.hv k i hki').2 hlt)
      cases k with
      | zero => omega
      | succ k =>
        have hkl : k < p.hs.length := by omega
        have hx := List.getElem?_eq_getElem hkl
        have := (I.hv k _ hx).1 (hed _ (D.plan.chain k _ i hx hki'))
        omega
    subst hkh
    have hdrop : p.hs.drop k = i :: p.hs.drop (k + 1) := by rw [List.drop_eq_getElem_cons hk, hki]
    have hTd : T.drop (k + 1) = ts := by
      have := I.at_
      rw [List.drop_eq_getElem_cons hTlen] at this
      exact (List.cons.inj this).2
    have hch := I.chain
    rw [hdrop] at hch
    obtain ⟨_, d, s1, v, m', hd, hhv', hcase⟩ := hch
    rw [hitem] at hd
    cases hd
    obtain ⟨hdi, hls, hnone⟩ := stOk_at D.st t (List.mem_of_getElem? hTh) _ _ _ _ hhv'
    have hl1 : ∀ t0 ∈ o.looksAt ops, R E ρ (s1.get t0) (a.tmps.getD t0 undef) := fun t0 ht0 => by
      rw [looksSame_ok hls t0 ht0]; exact hlooks t0 ht0
    have hhv : ∀ k' x, p.hs[k']? = some x → ((if x = i then some true else X[x]?) = some true ↔ k' < k + 1) := fun k' x hx => by
      by_cases hxi : x = i
      · rw [if_pos hxi]
        subst hxi
        have := D.plan.hs_inj hx hki'
        exact ⟨fun _ => by omega, fun _ => rfl⟩
      · rw [if_neg hxi, I.hv k' x hx]
        constructor
        · intro h; omega
        · intro h
          have : k' ≠ k := fun he => by subst he; rw [hki'] at hx; cases hx; exact hxi rfl
          omega
    rcases hcase with ⟨hg, rfl, rfl, hch⟩ | ⟨hg, hop, hch⟩ | ⟨hg, ch, hop, he, hmF, hts⟩
    · have hg' : guardOk ops.toList s1 o = .ok false := hg
      rw [guard_ok hl1 hg']
      simp only [Bool.false_eq_true, if_false]
      obtain ⟨t', ts', hts, hext⟩ := hch.ne
      subst hts
      exact hK _ _ _ (k + 1) t' ts' _ (I.next hio hed hdst (Env.le_refl E) (fun _ _ => rfl) hhv hTd hch (I.mem.ext hext) (fun t0 ht0 => by rw [dstIs_ok hdi t0 ht0]; exact R_undef)
        (fun j d hd _ hl hx id hid => I.made j d hd hl hx id hid) (Nat.le_trans I.nx hext.1))
    · have hg' : guardOk ops.toList s1 o = .ok true := hg
      rw [guard_ok hl1 hg', if_pos rfl]
      refine .inl (opS_ok hC I.mem hI (Ops_of_looks hl1) hop ?_ ?_ ?_)
      · intro v1 m1 hr w' v' hleft
        cases hr
        obtain ⟨E', b1, b2, b3, b4, b5⟩ := hleft
        obtain ⟨t', ts', hts, hext⟩ := hch.ne
        subst hts
        refine hK _ _ _ (k + 1) t' ts' _ (I.next hio hed hdst b2 (fun id hid => b1 id (Nat.lt_of_lt_of_le hid I.nx)) hhv hTd hch (b3.ext hext) (fun t0 ht0 => by rw [dstIs_ok hdi t0 ht0]; exact b5)
          (fun j d hd hne hl hx id hid => ?_) (Nat.le_trans (Nat.le_trans I.nx b4) hext.1))
        have hEn := I.made j d hd hl hx id hid
        rcases noneMade_ok hnone id (mem_madeIds (upTo_mem.2 ⟨List.mem_of_getElem? hd, hl⟩) hid) with h1 | h1
        · rw [b1 id h1]; exact hEn
        · exact b3.none_above h1
      · intro d1 m1 hr; cases hr
      · intro ch1 m1 hr; cases hr
    · have hg' : guardOk ops.toList s1 o = .ok true := hg
      rw [guard_ok hl1 hg', if_pos rfl]
      refine .inl (opS_ok hC I.mem hI (Ops_of_looks hl1) hop ?_ ?_ ?_)
      · intro v1 m1 hr; cases hr
      · intro d1 m1 hr; cases hr
      · intro ch1 m1 hr w' chain hleft
        cases hr
        obtain ⟨E', b1, b2, b3, b4, b5⟩ := hleft
        refine F.panic ch he E' a w' chain (fun id hid => (b1 id (Nat.lt_of_lt_of_le hid I.nx)).trans (I.agree id hid)) (Env.le_trans I.le b2) (by rw [hmF]; exact b3) (by rw [hmF]; exact Nat.le_trans I.nx b4) b5 I.fsize (fun t0 ht0 => ?_) (I.df.mono b2)
        have := I.tm t0 (fun j hj => by rw [ht0] at hj; cases hj)
        rw [D.off.get t0 fun d hd hdst => ?_] at this
        · exact R.mono b2 _ _ this
        · obtain ⟨j, hj, hd⟩ := List.getElem_of_mem hd
          obtain ⟨o', ho', rfl⟩ := D.item_of (by rw [List.getElem?_eq_getElem hj, hd])
          have := D.plan.writes j o' t0 ho' hdst
          rw [ht0] at this; cases this

theorem Inv.any (hC : CxOk C ρ w0) (hI : CallOk C ρ w0 ih) (F : Ends D ρ w0 E0 Q) : ∀ (fuel : Nat) {X : Array Bool} {a : Act} {w : World} {E : Env} {h : Nat} {t : St} {ts : List St} {mp : Mem}, Inv D ρ w0 E0 X a w E h t ts mp → X.toList.count false ≤ fuel → wpAny C.P .any ops Q fuel X a w
  | 0, X, a, w, E, h, t, ts, mp, I, hc => by
    have hall : Region.ready .any ops X = [] := by
      cases hr : Region.ready .any ops X with
      | nil => rfl
      | cons i l =>
        have hi : i ∈ Region.ready .any ops X := by rw [hr]; simp
        obtain ⟨hsz, hXf, _⟩ := mem_ready.1 hi
        have hXi : i < X.size := by rw [I.size]; exact hsz
        have : false ∈ X.toList := by
          have h1 : X.toList[i]? = some false := by
            rw [Array.getElem?_toList, Array.getElem?_eq_getElem hXi]
            simp [Array.getD, hXi] at hXf
            rw [hXf]
          exact List.mem_of_getElem? h1
        have := List.count_pos_iff.2 this
        omega
    exact ⟨hall, I.done F hall⟩
  | fuel + 1, X, a, w, E, h, t, ts, mp, I, hc => by
    refine ⟨fun hr => I.done F hr, fun i hi => ?_⟩
    refine I.step hC hI F hi fun a' w' E' h' t' ts' mp' I' => Inv.any hC hI F fuel I' ?_
    obtain ⟨hsz, hXf, _⟩ := mem_ready.1 hi
    have hXi : i < X.size := by rw [I.size]; exact hsz
    have h1 : X.toList[i]? = some false := by
      rw [Array.getElem?_toList, Array.getElem?_eq_getElem hXi]
      simp [Array.getD, hXi] at hXf
      rw [hXf]
    have := count_set X.toList i h1
    rw [Array.toList_setIfInBounds]
    omega

theorem drawS_ok (hC : CxOk C ρ w0) (hI : CallOk C ρ w0 ih) : DrawOk C ρ w0 ih := by
  intro id ops s m e s' m' h E a w hM hF Q hQ
  unfold drawS at h
  obtain ⟨p, hp, h⟩ := Rs.bind_ok h
  obtain ⟨P⟩ := planOf_ok (T := C.types) (by have h0 : C.plan ops = planOf C.types ops := rfl; rw [← h0]; exact hp)
  obtain ⟨⟨eF, sF, mF, sts⟩, hst, h⟩ := Rs.bind_ok h
  obtain ⟨hchk, h7⟩ := cond_ok h
  clear h
  obtain ⟨hoff, T, hT, hchain⟩ := stagesS_ok _ _ hst
  rw [List.append_nil] at hT
  have hK : Nat.pred (lenOf sts 0) = T.length - 1 := by rw [lenOf_eq, hT]; simp
  rw [hK, hT, List.reverse_reverse] at hchk
  simp only [drawOk, Bool.and_eq_true] at hchk
  obtain ⟨⟨⟨⟨k1, k2⟩, k3⟩, k4⟩, k5⟩ := hchk
  let D : DCtx C ih ops s m p eF sF mF T := ⟨P, hoff, hchain, k1, k2, k3, k4, k5⟩
  have hM1 : RM C.P ρ w0 E m { w with drawn := w.drawn + 1 } := hM.drawn _
  obtain ⟨t, ts, I⟩ := Inv.start D hM1 hF
  refine wp_region_any hC.mixed (Inv.any (D := D) hC hI ⟨fun he E' a' w' b1 b2 b3 b4 b5 => ?_, fun ch he E' a' w' chain b1 b2 b3 b4 b5 b6 b7 b8 => ?_⟩ ops.size I (by
    simp))
  · subst he
    simp only [Rs.ok.injEq, Prod.mk.injEq] at h7
    obtain ⟨rfl, rfl, rfl⟩ := h7
    exact hQ _ _ _ ⟨E', b1, b2, b3, b4, trivial, b5⟩
  · subst he
    obtain ⟨s2, hs2, h8⟩ := Rs.bind_ok h7
    simp only [Rs.ok.injEq, Prod.mk.injEq] at h8
    obtain ⟨rfl, rfl, rfl⟩ := h8
    obtain ⟨c1, c2, c3⟩ := anyDst_ok _ hs2
    refine hQ _ _ _ ⟨E', b1, b2, b3, b4, b5, by rw [b6, c1], fun t0 => ?_, by rw [c2]; exact b8⟩
    rcases c3 t0 with hx | ⟨hx, hno⟩
    · rw [hx]; simp [R]
    · rw [hx]
      refine b7 t0 ?_
      cases hw : P.wr.get t0 with
      | none => rfl
      | some j =>
        obtain ⟨o, ho, hd⟩ := P.written t0 j hw
        exact (hno _ (List.mem_of_getElem? (P.item j o ho)) hd).elim

end
end Go.Eng
