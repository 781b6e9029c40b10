/- Each operation acts by its plan: the theorem. Conditions: the context's contracts hold. -/
import Derived.Test.YtekkphoingjidaaDoorEvF
namespace Go.Evl
open Go.RowKit

section
variable {ρ : Nat → Nat} {A : Nat → Prop} {w : World} {n : Nat → Prop} {Γ : Cx} {Inv : World → Prop}

theorem args_rel {tm : List AV} {a : Act} (h : Rvs ρ A w n tm a.tmps.toList) (ys : List Operand) : Rvs ρ A w n (ys.map (opd tm)) (ys.map a.eval) := by
  induction ys with
  | nil => exact .nil
  | cons y ys ih => exact .cons (opd_rv h y) ih

theorem callFunc_enter {P : Program} {f : FuncId} {fn : Func} (hf : P.funcs[f]? = some fn) (hn : (fn.name == "runtime.NumGoroutine") = false) (hb : fn.body.isNone = false) (args : Array Value) (w : World) :
    (callFunc f args).run P w = .ok (.enter f args) w := by
  simp only [callFunc, Sem.run_bind, run_program, Result.andThen_ok, hf, hn, hb, Bool.false_eq_true, if_false, Sem.run_pure]

theorem callA_acts (hΓ : Γ.Ok Inv) {f : AV} {args : List AV} {p : Plan} (h : callA Γ f args = some (true, p)) {fv : Value} (hf : Rv ρ A w n f fv) {vs : List Value} (hv : Rvs ρ A w n args vs) :
    Acts Γ.P ρ A w n (do let d ← Deferred.ofValue fv vs.toArray; invoke d.target d.args) p := by
  unfold callA at h
  split at h
  · rename_i g cs
    obtain ⟨us, rfl, hus⟩ := hf.of_fn
    have happ := hv.append hus
    have hrun : ((do let d ← Deferred.ofValue (.func (.func g) #[] us.toArray) vs.toArray; invoke d.target d.args) : Sem Next).run Γ.P w = (callFunc g (vs ++ us).toArray).run Γ.P w := by
      simp [Deferred.ofValue, invoke]
    split at h
    · rename_i s hs
      split at h
      · rename_i hb
        obtain ⟨r, _, h4⟩ := Option.map_eq_some_iff.1 h
        simp only [Prod.mk.injEq, true_and] at h4
        subst h4
        obtain ⟨fn, h1, h2, h3⟩ := hΓ.body g (.inl (by simp [hs]))
        exact ⟨vs ++ us, happ.bnd0 hb, by rw [hrun, callFunc_enter h1 h2 h3]⟩
      · simp at h
    · split at h
      · rename_i s hs
        obtain ⟨v, hv', h4⟩ := Option.map_eq_some_iff.1 h
        simp only [Prod.mk.injEq] at h4
        obtain ⟨h5, rfl⟩ := h4
        obtain ⟨u, hu, hr⟩ := hΓ.ext g s hs _ v.2 (by rw [hv', ← h5]) ρ A w n _ happ
        exact .val_same (by rw [hrun, hu]) hr
      · split at h
        · rename_i hi
          simp only [Option.some.injEq, Prod.mk.injEq, true_and] at h
          subst h
          obtain ⟨fn, h1, h2, h3⟩ := hΓ.body g (.inr hi)
          exact ⟨vs ++ us, happ, by rw [hrun, callFunc_enter h1 h2 h3]⟩
        · simp at h
  · simp at h

theorem acts_v {s : Sem Value} {v : AV} {u : Value} (hs : s.run Γ.P w = .ok u w) (h : Rv ρ A w n v u) : Acts Γ.P ρ A w n (do pure (.value (← s))) (.val v) :=
  .val_same (by simp [hs]) h
theorem acts_ok1 {s : Sem Value} {x : Option AV} {c : Bool} {p : Plan} (h : ok1 x = some (c, p)) (hs : ∀ v, x = some v → ∃ u, s.run Γ.P w = .ok u w ∧ Rv ρ A w n v u) : Acts Γ.P ρ A w n (do pure (.value (← s))) p := by
  obtain ⟨v, hv, h2⟩ := Option.map_eq_some_iff.1 h
  simp only [Prod.mk.injEq] at h2
  obtain ⟨_, rfl⟩ := h2
  obtain ⟨u, hu, hr⟩ := hs v hv
  exact acts_v hu hr
theorem acts_ok2 {s : Sem Value} {x : Option (Bool × AV)} {c : Bool} {p : Plan} (h : ok2 x = some (c, p)) (hc : c = true) (hs : ∀ v, x = some (true, v) → ∃ u, s.run Γ.P w = .ok u w ∧ Rv ρ A w n v u) :
    Acts Γ.P ρ A w n (do pure (.value (← s))) p := by
  obtain ⟨v, hv, h2⟩ := Option.map_eq_some_iff.1 h
  simp only [Prod.mk.injEq] at h2
  obtain ⟨h3, rfl⟩ := h2
  obtain ⟨c', v⟩ := v
  simp only at h3
  subst h3 hc
  obtain ⟨u, hu, hr⟩ := hs v hv
  exact acts_v hu hr

theorem plan_acts (hΓ : Γ.Ok Inv) {tm : List AV} {a : Act} (ht : Rvs ρ A w n tm a.tmps.toList) (hA : ∀ b, A b → b < w.heap.size) {o : Oper} {c : Bool} {p : Plan}
    (h : plan Γ (opd tm) o.op = some (c, p)) (hc : c = true) : Acts Γ.P ρ A w n (execOp a.eval o) p := by
  have he := opd_rv ht
  obtain ⟨dst, op, ty, pos, after, guard⟩ := o
  simp only at h
  cases op <;> simp only [plan, reduceCtorEq] at h <;> simp only [execOp]
  case move y => simp only [Option.some.injEq, Prod.mk.injEq] at h; obtain ⟨_, rfl⟩ := h; exact .val_same rfl (he y)
  case assign y => simp only [Option.some.injEq, Prod.mk.injEq] at h; obtain ⟨_, rfl⟩ := h; exact .val_same rfl (he y)
  case pick y p q =>
    split at h
    · rename_i t hy
      simp only [Option.some.injEq, Prod.mk.injEq] at h; obtain ⟨_, rfl⟩ := h
      have hb := he y
      rw [hy] at hb
      have := hb.of_bool
      exact .val_same (by simp [this, asBool]) (pickA_rv (he p) (he q))
    · simp at h
  case alloc t =>
    obtain ⟨cs, hz, h2⟩ := Option.map_eq_some_iff.1 h
    simp only [Prod.mk.injEq] at h2; obtain ⟨_, rfl⟩ := h2
    obtain ⟨z, hzr, hzv⟩ := zeroA_run (ρ := ρ) (A := A) (w := w) (n := n) hz
    refine ⟨z.cells.toList, hzv, ?_⟩
    simp [Instr.alloc, hzr, newVar, newRow]
  case box t y =>
    split at h
    · rename_i hp
      simp only [Option.some.injEq, Prod.mk.injEq] at h; obtain ⟨_, rfl⟩ := h
      obtain ⟨h1, _⟩ := cellsOf_rv (he y) hp
      refine ⟨_, h1, ?_⟩
      simp [Instr.box, newVar, newRow]
    · simp at h
  case build t ps => exact acts_ok1 h fun v hv => buildA_run hv (parts_rel ht ps) w
  case buildSlice t len ps =>
    obtain ⟨v, hv, h2⟩ := Option.map_eq_some_iff.1 h
    simp only [Prod.mk.injEq] at h2; obtain ⟨_, rfl⟩ := h2
    obtain ⟨u, w', hr, hb, hrv⟩ := buildSliceA_run hv hA (parts_rel ht ps)
    exact ⟨u, w', by simp only [Sem.run_bind, hr, Result.andThen_ok, Sem.run_pure], hb, hrv⟩
  case load t y =>
    split at h
    · rename_i id off hy
      have hp := he y
      rw [hy] at hp
      obtain ⟨hp, hid⟩ := hp.of_ptr
      split at h
      · rename_i k hg hk
        simp only [Option.some.injEq, Prod.mk.injEq] at h; obtain ⟨_, rfl⟩ := h
        refine ⟨hid, by simp, fun us hl hcell => ?_⟩
        have := run_loadVar (P := Γ.P) (us := us) hg (by rw [hl]; exact hk) (by simp) hcell
        simp [hp, Instr.loadAt, Instr.sureAddr, this]
      · rename_i hg hk
        simp only [Option.some.injEq, Prod.mk.injEq] at h; obtain ⟨_, rfl⟩ := h
        refine ⟨hid, by simp, fun us hl hcell => ?_⟩
        have := run_loadVar (P := Γ.P) (us := us) hg (by rw [hl]; exact hk) (fun _ => hl) hcell
        simp only [Bool.false_eq_true, if_false] at this
        simp [hp, Instr.loadAt, Instr.sureAddr, this]
      · simp at h
    · rename_i cells hy
      have hp := he y
      rw [hy] at hp
      exact acts_ok1 h fun v hv => loadI_run hv hp
    · simp at h
  case store t y z =>
    split at h
    · rename_i id off k hy hk
      have hp := he y
      rw [hy] at hp
      obtain ⟨hp, hid⟩ := hp.of_ptr
      split at h
      · rename_i hcond
        simp only [Bool.and_eq_true, decide_eq_true_eq] at hcond
        obtain ⟨hlen, hpl⟩ := hcond
        simp only [Option.some.injEq, Prod.mk.injEq] at h; obtain ⟨_, rfl⟩ := h
        obtain ⟨h1, h2⟩ := cellsOf_rv (he z) hpl
        refine ⟨hid, _, h1, fun bs bt hb hle => ?_⟩
        have hs : (a.eval z).cells.size = k := by rw [← hlen, h1.1]; simp
        obtain ⟨w', hr, hput⟩ := run_storeCells (P := Γ.P) (a.eval z).cells.toList w off 0 bs hb (by simpa using hle) h2
        refine ⟨w', ?_, by simpa using hput⟩
        simp only [hp, Instr.storeAt, Instr.sureAddr, Sem.run_bind, Sem.run_pure, Result.andThen_ok, storeVar, run_sizeOf hk]
        rw [if_neg (by simp [hs])]
        simp only [hr, Result.andThen_ok]
      · simp at h
    · simp at h
  case binOp op t y z t2 => exact acts_ok2 h hc fun v hv => binA_run hv rfl (he y) (he z) y z w
  case unOp op t y => exact acts_ok1 h fun v hv => unA_run hv (he y) w
  case convert s d y => exact acts_ok1 h fun v hv => convA_run hv (he y) w
  case makeInterface t y => exact acts_ok1 h fun v hv => ifaceA_run hv (he y) w
  case makeFunc f first cap =>
    split at h
    · rename_i hf
      simp only [Option.some.injEq, Prod.mk.injEq] at h; obtain ⟨_, rfl⟩ := h
      have h0 : first = #[] := by simpa using hf
      subst h0
      have := args_rel ht cap.toList
      refine .val_same (u := .func f #[] (cap.map a.eval)) (by simp [Instr.makeFunc]) ?_
      have e : cap.map a.eval = (cap.toList.map a.eval).toArray := by apply Array.ext'; simp
      rw [e]
      exact .fn this.1 this.2
    · simp at h
  case fieldAddr s y f => exact acts_ok1 h fun v hv => fieldAddrA_run hv (he y) w
  case field s y f => exact acts_ok1 h fun v hv => fieldA_run hv (he y) w
  case indexAddr t y i => exact acts_ok2 h hc fun v hv => indexAddrA_run hv rfl (he y) (he i) w
  case index t y i => exact acts_ok2 h hc fun v hv => indexA_run hv rfl (he y) (he i) w
  case extract y i =>
    split at h
    · rename_i cs hy
      have hp := he y
      rw [hy] at hp
      obtain ⟨vs, hv, hvs⟩ := hp.of_tup
      refine acts_ok1 h fun v hv' => ?_
      obtain ⟨u, hu, hr⟩ := hvs.get hv'
      exact ⟨u, by simp [hv, Instr.extract, hu], hr⟩
    · simp at h
  case call cl =>
    obtain ⟨callee, args, argTypes⟩ := cl
    simp only at h
    split at h
    · rename_i f
      have := callA_acts hΓ (p := p) (by rw [h, hc]) (he f) (args_rel ht args.toList)
      have e : args.map a.eval = (args.toList.map a.eval).toArray := by apply Array.ext'; simp
      simp only [resolve, e]
      exact this
    · split at h
      · rename_i y t hy ht0
        refine ?_
        have e : args = #[y] := by
          apply Array.ext'
          simpa using hy
        subst e
        obtain ⟨v, hv, h2⟩ := Option.map_eq_some_iff.1 h
        simp only [Prod.mk.injEq] at h2; obtain ⟨_, rfl⟩ := h2
        obtain ⟨u, hu, hr⟩ := lenA_run hv (he y) argTypes ht0 ty w
        exact .val_same (by simp [resolve, invoke, builtin, hu]) hr
      · simp at h
    · obtain ⟨v, hv, h2⟩ := Option.map_eq_some_iff.1 h
      simp only [Prod.mk.injEq] at h2; obtain ⟨_, rfl⟩ := h2
      have hr := args_rel ht args.toList
      generalize args.toList.map (opd tm) = l at hv hr
      unfold minA at hv
      split at hv
      · rename_i k x k' y
        split at hv
        · rename_i hk
          subst hk
          simp only [Option.some.injEq] at hv
          subst hv
          obtain ⟨v1, r1, e1, h1, hr⟩ := hr.cons_inv
          obtain ⟨v2, r2, rfl, h2, hr⟩ := hr.cons_inv
          cases hr.nil_inv
          cases h1.of_int; cases h2.of_int
          have e : (args.map a.eval).toList = [.int k x, .int k y] := by simpa using e1
          refine .val_same (u := .int k (bif decide (y < x) then y else x)) ?_ .int
          simp only [resolve, invoke, builtin, Sem.run_bind, Sem.run_pure, Result.andThen_ok, Builtin.min_, e]
          simp [Builtin.min2, cond_eq_ite]
        · simp at hv
      · simp at hv
    · obtain ⟨v, hv, h2⟩ := Option.map_eq_some_iff.1 h
      simp only [Prod.mk.injEq] at h2; obtain ⟨_, rfl⟩ := h2
      have hr := args_rel ht args.toList
      generalize args.toList.map (opd tm) = l at hv hr
      unfold maxA at hv
      split at hv
      · rename_i k x k' y
        split at hv
        · rename_i hk
          subst hk
          simp only [Option.some.injEq] at hv
          subst hv
          obtain ⟨v1, r1, e1, h1, hr⟩ := hr.cons_inv
          obtain ⟨v2, r2, rfl, h2, hr⟩ := hr.cons_inv
          cases hr.nil_inv
          cases h1.of_int; cases h2.of_int
          have e : (args.map a.eval).toList = [.int k x, .int k y] := by simpa using e1
          refine .val_same (u := .int k (bif decide (y > x) then y else x)) ?_ .int
          simp only [resolve, invoke, builtin, Sem.run_bind, Sem.run_pure, Result.andThen_ok, Builtin.max_, e]
          simp [Builtin.max2, cond_eq_ite]
        · simp at hv
      · simp at hv
    · simp at h
  case panic y =>
    split at h
    · rename_i t v hy
      simp only [Option.some.injEq, Prod.mk.injEq] at h; obtain ⟨_, rfl⟩ := h
      have hp := he y
      rw [hy] at hp
      generalize a.eval y = u at hp
      cases hp with
      | @iface _ _ _ u' hv => exact ⟨t, u', by simp only [Instr.panic, Sem.run_bind, run_goPanic, Result.andThen_halt]⟩
    · simp at h
end
end Go.Evl
