import Derived.Test.YtjnejkmcmmablaaGreatDoorEngHeavy4
/-
  Every operation of the run is the model's.
-/
namespace Go.Eng
open Go.RowKit

section
variable {C : Cx} {ρ : Nat → Value} {w0 : World} {E : Env} {m : Mem} {w : World} {s : FS}

section
variable {P : Program} {o : Oper} {a : Act} {next : Act → World → Prop} {Q : Exit → Act → World → Prop} {w' : World} {v' : Value}
theorem wp_val (h : (execOp a.eval o).run P w = .ok (.value v') w') (hn : next (a.put o.dst v') w') : o.wp P a w next Q := by
  unfold Oper.wp; rw [h]; exact hn
theorem wp_skp (h : (execOp a.eval o).run P w = .ok .skip w') (hn : next (a.put o.dst undef) w') : o.wp P a w next Q := by
  unfold Oper.wp; rw [h]; exact hn
end

theorem evs_R {ev : Operand → Value} {l : List Operand} {vs : List SV} (hev : ∀ x, x ∈ l → ∀ v, s.ev x = .ok v → R E ρ v (ev x)) (h : s.evs l = .ok vs) : Rs' E ρ vs (l.map ev) := by
  induction l generalizing vs with
  | nil => simp only [FS.evs, Rs.ok.injEq] at h; subst h; exact Rs'.nil
  | cons x l ih =>
    simp only [FS.evs] at h
    obtain ⟨v, hv, h⟩ := Rs.bind_ok h
    obtain ⟨us, hus, h⟩ := Rs.bind_ok h
    simp only [Rs.ok.injEq] at h; subst h
    exact Rs'.cons (hev x (by simp) v hv) (ih (fun y hy => hev y (by simp [hy])) hus)

theorem R_undef : R E ρ (.tup []) undef := by simp only [R]; exact ⟨[], Rs'.nil, rfl⟩

theorem opS_ok (hC : CxOk C ρ w0) (hM : RM C.P ρ w0 E m w) {ih : Run} (hI : CallOk C ρ w0 ih) {o : Oper} {a : Act} {r : OR} (hev : Ops E ρ s a.eval o.op) (h : opS C ih s m o.op = .ok r) {next : Act → World → Prop} {Q : Exit → Act → World → Prop}
    (hv : ∀ v m', r = .val v m' → ∀ w' v', Left C ρ w0 E m m' w' (fun E' => R E' ρ v v') → next (a.put o.dst v') w')
    (hd : ∀ d m', r = .defer d m' → ∀ d', RD E ρ d d' → m' = m → next ({ a with defers := d' :: a.defers }.put o.dst undef) w)
    (hp : ∀ ch m', r = .panic ch m' → ∀ w' chain, Left C ρ w0 E m m' w' (fun E' => RCh E' ρ ch chain) → Q (.panic chain) a w') : o.wp C.P a w next Q := by
  obtain ⟨dst, op, ty, pos, after, guard⟩ := o
  simp only at hev h hv hd
  have obj : ∀ {x : SO × (Nat → SV)}, objS C s op = .ok x → r = .val (x.2 m.nx) (m.new x.1).2 → (Oper.mk dst op ty pos after guard).wp C.P a w next Q := by
    intro x hx hr
    obtain ⟨L, c, e, hL, ⟨v', h1, h2, _⟩, h3⟩ := obj_ok (o := ⟨dst, op, ty, pos, after, guard⟩) hC hM hev hx
    refine wp_val h1 (hv _ _ hr _ _ ⟨E.put m.nx L, Env.put_agree _ _, hM.put_le _, hM.alloc _ _ L hL (h3 _ (hM.put_le _)), Nat.le_succ _, h2⟩)
  have light : ∀ {v : SV}, lightS C s m op = .ok v → r = .val v m → (Oper.mk dst op ty pos after guard).wp C.P a w next Q := by
    intro v hx hr
    obtain ⟨v', h1, h2⟩ := light_ok (o := ⟨dst, op, ty, pos, after, guard⟩) hC hM hev hx
    exact wp_val h1 (hv _ _ hr _ _ (Left.same hM h2))
  have lightB : (lightS C s m op).bind (fun v => .ok (.val v m)) = .ok r → (Oper.mk dst op ty pos after guard).wp C.P a w next Q := by
    intro hx
    obtain ⟨v, hx, hr⟩ := Rs.bind_ok hx
    simp only [Rs.ok.injEq] at hr
    exact light hx hr.symm
  have vsem : ∀ {S : Sem Value} {v : SV} {m' : Mem} {v' : Value} {w' : World}, execOp a.eval ⟨dst, op, ty, pos, after, guard⟩ = (do pure (.value (← S))) → S.run C.P w = .ok v' w' → r = .val v m' → Left C ρ w0 E m m' w' (fun E' => R E' ρ v v') → (Oper.mk dst op ty pos after guard).wp C.P a w next Q := by
    intro S v m' v' w' hS hr he hl
    exact wp_val (by rw [hS, Sem.run_bind, hr]; rfl) (hv _ _ he _ _ hl)
  have usem : ∀ {S : Sem Unit} {m' : Mem} {w' : World}, execOp a.eval ⟨dst, op, ty, pos, after, guard⟩ = (do S; pure .skip) → S.run C.P w = .ok () w' → r = .val (.tup []) m' → RM C.P ρ w0 E m' w' → m'.nx = m.nx → (Oper.mk dst op ty pos after guard).wp C.P a w next Q := by
    intro S m' w' hS hr he hM' hn
    exact wp_skp (by rw [hS, Sem.run_bind, hr]; rfl) (hv _ _ he _ _ (Left.turned hM' hn R_undef))
  cases op
  case alloc t => obtain ⟨x, hx, hr⟩ := Rs.bind_ok h; simp only [Rs.ok.injEq] at hr; exact obj hx hr.symm
  case box t y => obtain ⟨x, hx, hr⟩ := Rs.bind_ok h; simp only [Rs.ok.injEq] at hr; exact obj hx hr.symm
  case buildSlice t n ps => obtain ⟨x, hx, hr⟩ := Rs.bind_ok h; simp only [Rs.ok.injEq] at hr; exact obj hx hr.symm
  case store t x y =>
    simp only [opS] at h
    obtain ⟨xa, hxa, h⟩ := Rs.bind_ok h
    obtain ⟨xv, hxv, h⟩ := Rs.bind_ok h
    obtain ⟨m', hm', h⟩ := Rs.bind_ok h
    simp only [Rs.ok.injEq] at h
    obtain ⟨w', h1, h2, h3⟩ := store_ok hC hM (hev x (by simp [Op.operands]) _ hxa) (hev y (by simp [Op.operands]) _ hxv) hm'
    exact usem rfl h1 h.symm h2 h3
  case makeMap t x =>
    cases x with
    | some x => exact lightB h
    | none =>
      simp only [opS, Rs.ok.injEq] at h
      refine vsem (S := Instr.makeMap t none) rfl rfl h.symm ⟨E.put m.nx ⟨w.heap.size, 0, 0, 0⟩, Env.put_agree _ _, hM.put_le _, hM.alloc (.map #[] 0) _ _ rfl ⟨[], heap_alloc_new _ _, rfl⟩, Nat.le_succ _, ?_⟩
      simp only [R]
      exact ⟨_, Env.put_same _ _, rfl⟩
  case insert t x k v =>
    simp only [opS] at h
    obtain ⟨xx, hx, h⟩ := Rs.bind_ok h
    obtain ⟨kk, hk, h⟩ := Rs.bind_ok h
    obtain ⟨vv, hvv, h⟩ := Rs.bind_ok h
    obtain ⟨m', hm', h⟩ := Rs.bind_ok h
    simp only [Rs.ok.injEq] at h
    obtain ⟨w', h1, h2, h3⟩ := mapSet_ok hC hM (hev x (by simp [Op.operands]) _ hx) (hev k (by simp [Op.operands]) _ hk) (hev v (by simp [Op.operands]) _ hvv) hm'
    exact usem rfl h1 h.symm h2 h3
  case mapUpdate t x k v =>
    simp only [opS] at h
    obtain ⟨xx, hx, h⟩ := Rs.bind_ok h
    obtain ⟨kk, hk, h⟩ := Rs.bind_ok h
    obtain ⟨vv, hvv, h⟩ := Rs.bind_ok h
    obtain ⟨m', hm', h⟩ := Rs.bind_ok h
    simp only [Rs.ok.injEq] at h
    obtain ⟨w', h1, h2, h3⟩ := mapSet_ok hC hM (hev x (by simp [Op.operands]) _ hx) (hev k (by simp [Op.operands]) _ hk) (hev v (by simp [Op.operands]) _ hvv) hm'
    exact usem rfl h1 h.symm h2 h3
  case makeSlice t l c =>
    simp only [opS] at h
    obtain ⟨ll, hl, h⟩ := Rs.bind_ok h
    obtain ⟨cc, hc, h⟩ := Rs.bind_ok h
    obtain ⟨v, m', v', w', h1, h2, h3⟩ := makeSliceS_ok hC hM (hev l (by simp [Op.operands]) _ hl) (hev c (by simp [Op.operands]) _ hc) h
    exact vsem rfl h2 h1 h3
  case convert src dst' x =>
    simp only [opS] at h
    obtain ⟨v, hx, h⟩ := Rs.bind_ok h
    obtain ⟨ua, hua, h⟩ := Rs.bind_ok h
    obtain ⟨ub, hub, h⟩ := Rs.bind_ok h
    cases hs : isStrBytes ua ub v with
    | false => rw [hs] at h; exact lightB h
    | true =>
      rw [hs] at h
      simp only [cond_true] at h
      have hxr := hev x (by simp [Op.operands]) _ hx
      unfold isStrBytes at hs
      split at hs
      · rename_i e l n
        simp only [R] at hxr
        obtain ⟨hn, hxe⟩ := hxr
        simp only [convB] at h
        obtain ⟨hue, v, m', v', w', h1, h2, h3⟩ := toBytesS_ok hC hM h
        refine vsem rfl (?_ : (convert src dst' (a.eval x)).run C.P w = _) h1 h3
        rw [hxe]
        simp only [convert, Sem.run_bind, CxOk.run_und hC hua, CxOk.run_und hC hub, Result.andThen_ok, run_underlying hue]
        exact h2
      · cases hs
  case panic x =>
    simp only [opS] at h
    obtain ⟨v, hx, h⟩ := Rs.bind_ok h
    have hxr := hev x (by simp [Op.operands]) _ hx
    unfold panicS at h
    split at h
    · rename_i t y
      simp only [Rs.ok.injEq] at h
      simp only [R] at hxr
      obtain ⟨y', hy, hxe⟩ := hxr
      have hrun : (execOp a.eval ⟨dst, .panic x, ty, pos, after, guard⟩).run C.P w = .halt (.panic (.iface t y')) w := by
        show Sem.run C.P (do pure (Next.value (← Instr.panic (a.eval x))) : Sem Next) w = _
        rw [hxe]; rfl
      unfold Oper.wp
      rw [hrun]
      exact hp _ _ h.symm _ _ (Left.same hM ⟨_, _, ⟨by simp only [R]; exact ⟨y', hy, rfl⟩, rfl, rfl⟩, rfl, rfl⟩)
    · simp at h
  case defer c =>
    simp only [opS] at h
    obtain ⟨args, hargs, h⟩ := Rs.bind_ok h
    obtain ⟨callee, cargs, cT⟩ := c
    simp only at h hargs
    have hargs' := evs_R (ev := a.eval) (fun x hx => hev x (by simp [Op.operands, Call.operands, hx])) hargs
    cases callee with
    | builtin b => simp at h
    | invoke r n => simp at h
    | value f =>
      obtain ⟨fv, hfv, h⟩ := Rs.bind_ok h
      have hfr := hev f (by simp [Op.operands, Call.operands]) _ hfv
      unfold deferS at h
      split at h
      · rename_i fn first captured
        simp only [Rs.ok.injEq] at h
        simp only [R] at hfr
        obtain ⟨a', c', ha', hc', hfe⟩ := hfr
        have hrun : (execOp a.eval ⟨dst, .defer ⟨.value f, cargs, cT⟩, ty, pos, after, guard⟩).run C.P w = .ok (.defer { target := .fn fn ⟨c'⟩, args := ⟨a'⟩ ++ cargs.map a.eval }) w := by
          show Sem.run C.P (do pure (Next.defer (← resolve a.eval ⟨.value f, cargs, cT⟩ ty)) : Sem Next) w = _
          simp only [resolve, hfe, Deferred.ofValue]
          rfl
        unfold Oper.wp
        rw [hrun]
        refine hd _ _ h.symm _ ⟨c', a' ++ cargs.toList.map a.eval, rfl, ?_, hc', Rs'.append ha' hargs'⟩ rfl
        apply Array.toList_inj.1; simp
      · simp at h
  case call c =>
    simp only [opS] at h
    obtain ⟨callee, cargs, cT⟩ := c
    simp only at h
    have hargs' : ∀ vs, s.evs cargs.toList = .ok vs → Rs' E ρ vs (cargs.toList.map a.eval) := fun vs hvs => evs_R (ev := a.eval) (fun x hx => hev x (by simp [Op.operands, Call.operands, hx])) hvs
    have hmap : cargs.map a.eval = ⟨cargs.toList.map a.eval⟩ := map_mk _ _
    cases callee with
    | invoke r n => simp [clOf] at h
    | builtin b =>
      cases b
      case append =>
        simp only [clOf] at h
        obtain ⟨vs, hvs, h⟩ := Rs.bind_ok h
        have hr := hargs' vs hvs
        unfold appendA at h
        split at h
        · simp only [Rs'] at hr
          obtain ⟨u1, us1, hu1, ⟨u2, us2, hu2, rfl, rfl⟩, hus⟩ := hr
          obtain ⟨v, m', v', w', h1, h2, h3⟩ := appendS_ok (ty := ty) hC hM hu1 hu2 h
          refine wp_val (v' := v') (w' := w') ?_ (hv _ _ h1 _ _ h3)
          show Sem.run C.P (do let d ← resolve a.eval ⟨.builtin .append, cargs, cT⟩ ty; invoke d.target d.args) w = _
          simp only [resolve, hmap, hus, pure_bind, invoke, builtin]
          rw [Sem.run_bind, h2]; rfl
        · simp at h
      case unsafeString =>
        simp only [clOf] at h
        obtain ⟨vs, hvs, h⟩ := Rs.bind_ok h
        have hr := hargs' vs hvs
        obtain ⟨v, m', v', w', h1, h2, h3⟩ := unsafeStringS_ok (ty := ty) hC hM hr h
        refine wp_val (v' := v') (w' := w') ?_ (hv _ _ h1 _ _ h3)
        show Sem.run C.P (do let d ← resolve a.eval ⟨.builtin .unsafeString, cargs, cT⟩ ty; invoke d.target d.args) w = _
        simp only [resolve, hmap, pure_bind, invoke, builtin]
        rw [Sem.run_bind, h2]; rfl
      all_goals exact lightB h
    | value f =>
      simp only [clOf] at h
      obtain ⟨fv, hfv, h⟩ := Rs.bind_ok h
      obtain ⟨args, hargs, h⟩ := Rs.bind_ok h
      have hr := hargs' args hargs
      have hfr := hev f (by simp [Op.operands, Call.operands]) _ hfv
      unfold enterS at h
      split at h
      · rename_i g first captured
        simp only [R] at hfr
        obtain ⟨a', c', ha', hc', hfe⟩ := hfr
        refine callS_ok hC hM hI (Rs'.append (Rs'.append ha' hr) hc') h ?_ (fun v m' hr w' v' hl => hv v m' hr w' v' hl) hp
        show Sem.run C.P (do let d ← resolve a.eval ⟨.value f, cargs, cT⟩ ty; invoke d.target d.args) w = _
        have harr : (⟨a'⟩ : Array Value) ++ cargs.map a.eval ++ ⟨c'⟩ = ⟨a' ++ cargs.toList.map a.eval ++ c'⟩ := by apply Array.toList_inj.1; simp
        simp only [resolve, hfe, Deferred.ofValue, pure_bind, invoke, harr]
      · simp at h
  all_goals exact lightB h

end
end Go.Eng
