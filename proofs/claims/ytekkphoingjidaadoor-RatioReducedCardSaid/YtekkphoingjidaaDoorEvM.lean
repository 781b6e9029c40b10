/- The evaluator is right about functions: a contract out of a run. Conditions: the contracts of what is called hold. -/
import Derived.Test.YtekkphoingjidaaDoorEvL
namespace Go.Evl
open Go.RowKit

section
variable {D : List Deferred} {Γ : Cx} {Inv : World → Prop} {cf : CallF} {df : DrawF} {lp : Nat → LK} {w0 : World}

theorem resultA_run {ρ : Nat → Nat} {A : Nat → Prop} {w : World} {st : St} {a : Act} (hr : Rel D w0 ρ A st a w) {v : ResultVar} {x : AV} (h : resultA Γ.P st v = some x) :
    ∃ u, ((match v with | .tmp t => pure (a.tmps.getD t undef) | .cell b t => do loadVar t (← asAddr (a.tmps.getD b undef))) : Sem Value).run Γ.P w = .ok u w ∧ Rv ρ A w (Live st.hp) x u := by
  cases v with
  | tmp t =>
    simp only [resultA, Option.some.injEq] at h
    subst h
    exact ⟨_, rfl, by have := opd_rv hr.tm (.tmp t); simpa [opd, Act.eval] using this⟩
  | cell b t =>
    simp only [resultA] at h
    have hb := opd_rv hr.tm (.tmp b)
    simp only [opd, Act.eval] at hb
    split at h
    · rename_i id off hx
      rw [hx] at hb
      obtain ⟨hb, hid⟩ := hb.of_ptr
      split at h
      · rename_i k hg hk
        obtain ⟨⟨y, H⟩, hy, rfl⟩ := Option.map_eq_some_iff.1 h
        simp only [doPlan] at hy
        split at hy
        · rename_i cs ct ho
          split at hy
          · rename_i hle
            simp only [Nat.ble_eq] at hle
            simp only [if_true, Option.some.injEq, Prod.mk.injEq] at hy
            obtain ⟨rfl, rfl⟩ := hy
            obtain ⟨us, hl, hcell, hrv⟩ := hr.mem.get ho hle
            have := run_loadVar (P := Γ.P) (us := us) hg (by rw [hl]; exact hk) (by simp) hcell
            simp only [if_true] at this
            exact ⟨.agg us.toArray, by simp [hb, asAddr, this], .agg hrv.1 hrv.2⟩
          · simp at hy
        · simp at hy
      · rename_i hg hk
        obtain ⟨⟨y, H⟩, hy, rfl⟩ := Option.map_eq_some_iff.1 h
        simp only [doPlan] at hy
        split at hy
        · rename_i cs ct ho
          split at hy
          · rename_i hle
            simp only [Nat.ble_eq] at hle
            simp only [Bool.false_eq_true, if_false] at hy
            obtain ⟨c, hc, h2⟩ := Option.map_eq_some_iff.1 hy
            simp only [Prod.mk.injEq] at h2
            obtain ⟨rfl, rfl⟩ := h2
            obtain ⟨us, hl, hcell, hrv⟩ := hr.mem.get ho hle
            have := run_loadVar (P := Γ.P) (us := us) hg (by rw [hl]; exact hk) (fun _ => hl) hcell
            simp only [Bool.false_eq_true, if_false] at this
            match us, hl with
            | [u], _ =>
              have hc' : ((cs.drop off).take 1)[0]? = some c := by rw [← hc]; simp [List.getElem?_drop]
              obtain ⟨u', hu', hrv'⟩ := hrv.get hc'
              simp only [List.getElem?_cons_zero, Option.some.injEq] at hu'
              subst hu'
              exact ⟨u, by simp [hb, asAddr, this], hrv'⟩
          · simp at hy
        · simp at hy
      · simp at h
    · simp at h

theorem resultsA_run {ρ : Nat → Nat} {A : Nat → Prop} {w : World} {st : St} {a : Act} (hr : Rel D w0 ρ A st a w) : ∀ (l : List ResultVar) {xs : List AV}, resultsA Γ.P st l = some xs →
    ∃ us, (l.mapM fun v => (match v with | .tmp t => pure (a.tmps.getD t undef) | .cell b t => do loadVar t (← asAddr (a.tmps.getD b undef)) : Sem Value)).run Γ.P w = .ok us w ∧ Rvs ρ A w (Live st.hp) xs us := by
  intro l
  induction l with
  | nil => intro xs h; simp only [resultsA, Option.some.injEq] at h; subst h; exact ⟨[], by simp, .nil⟩
  | cons v l ih =>
    intro xs h
    simp only [resultsA] at h
    split at h
    · rename_i y ys hy hys
      simp only [Option.some.injEq] at h
      subst h
      obtain ⟨u, hu, hru⟩ := resultA_run hr hy
      obtain ⟨us, hus, hrus⟩ := ih hys
      refine ⟨u :: us, ?_, .cons hru hrus⟩
      simp only [List.mapM_cons, Sem.run_bind, hu, Result.andThen_ok, hus, Sem.run_pure]
    · simp at h

theorem results_run {ρ : Nat → Nat} {A : Nat → Prop} {w : World} {st : St} {a : Act} (hr : Rel D w0 ρ A st a w) {fn : Func} {xs : List AV} (h : resultsA Γ.P st fn.results.toList = some xs) :
    ∃ u, (results fn a.tmps).run Γ.P w = .ok u w ∧ Rv ρ A w (Live st.hp) (packA xs) u := by
  obtain ⟨us, hus, hrus⟩ := resultsA_run hr _ h
  have hrun : (results fn a.tmps).run Γ.P w = .ok (if h : us.toArray.size = 1 then us.toArray[0] else .tuple us.toArray) w := by
    have e : (results fn a.tmps).run Γ.P w = (((fn.results.toList.mapM fun v => (match v with | .tmp t => pure (a.tmps.getD t undef) | .cell b t => do loadVar t (← asAddr (a.tmps.getD b undef)) : Sem Value)).run Γ.P w).andThen
        fun a w' => .ok a.toArray w').andThen fun vs w' => .ok (if h : vs.size = 1 then vs[0] else .tuple vs) w' := by
      unfold results
      simp only [Array.mapM_eq_mapM_toList, Sem.run_bind, Sem.run_map, Sem.run_pure]
      rfl
    rw [e, hus]
    rfl
  refine ⟨_, hrun, ?_⟩
  have hl := hrus.1
  match xs, us, hrus, hl with
  | [], [], hrus, _ => exact .tup hrus.1 hrus.2
  | [x], [u], hrus, _ => exact hrus.2 0 (by simp) (by simp)
  | x :: y :: xs, u :: v :: us, hrus, _ => simpa [packA] using Rv.tup hrus.1 hrus.2
  | [], _ :: _, _, hl => simp at hl
  | _ :: _, [], _, hl => simp at hl
  | [_], _ :: _ :: _, _, hl => simp at hl
  | _ :: _ :: _, [_], _, hl => simp at hl

theorem runFn_sound (hΓ : Γ.Ok Inv) (hI : Stable Inv) (h0 : Inv w0) (hcf : CallSound Γ.P Inv cf) (hdf : DrawSound Γ.P Inv df) (hdl : DrawLen df) {f : FuncId} {fn : Func} (hfn : Γ.P.funcs[f]? = some fn)
    {c : Code} (hb : fn.body = some c) (hlp : LoopsOk Γ cf df lp fn.ntmps c) {args : List AV} {H : List Ob} {q : Res} {H' : List Ob} (hargs : args.length ≤ fn.ntmps)
    (h : runFn Γ cf df lp fn args H = some (q, H')) {ρ : Nat → Nat} {A : Nat → Prop} {w : World} {vs : List Value} (hm : Mem w0 ρ A w H) (hv : Rvs ρ A w (Live H) args vs) :
    Calls Γ.P f vs.toArray w (EndRel w0 ρ A w H q H') := by
  rw [← callsIn_fr (r := none) (n := 0)]
  simp only [runFn, hb] at h
  have hlen : vs.length = args.length := hv.1.symm
  have hrel : Rel [] w0 ρ A ⟨frame0 fn args, H⟩ { tmps := vs.toArray ++ Array.replicate (fn.ntmps - vs.toArray.size) undef, defers := [] } w := by
    refine ⟨?_, rfl, hm⟩
    have : (vs.toArray ++ Array.replicate (fn.ntmps - vs.toArray.size) undef).toList = vs ++ List.replicate (fn.ntmps - args.length) undef := by simp [hlen]
    rw [this]
    exact hv.append (.replicate .raw _)
  have hl0 : (frame0 fn args).length = fn.ntmps := by simp [frame0]; omega
  refine callsIn_of_wp hfn hb trivial ?_ rfl
  cases hrun : runC Γ cf df lp c ⟨frame0 fn args, H⟩ with
  | none => simp [hrun, leaveA] at h
  | some es =>
    obtain ⟨e, st⟩ := es
    rw [hrun] at h
    refine wpIn_mono (runC_sound hΓ hI h0 hcf hdf hdl _ c (Nat.le_refl _) hlp _ ρ A w _ e st hrel hl0 hrun) ?_
    intro x a' w' ho
    obtain ⟨ρ', A', hext, ho⟩ := ho
    cases e with
    | exit id => simp [leaveA] at h
    | pan =>
      simp only [leaveA, Option.some.injEq, Prod.mk.injEq] at h
      obtain ⟨rfl, rfl⟩ := h
      obtain ⟨t, v, rfl, hr'⟩ := ho
      exact ⟨hr'.df, ρ', A', hr'.mem, hext, t, v, rfl⟩
    | normal =>
      simp only [leaveA] at h
      obtain ⟨xs, hxs, h2⟩ := Option.map_eq_some_iff.1 h
      simp only [Prod.mk.injEq] at h2
      obtain ⟨rfl, rfl⟩ := h2
      obtain ⟨rfl, hr⟩ := ho
      obtain ⟨u, hu, hru⟩ := results_run hr hxs
      exact ⟨hr.df, u, hu, ρ', A', hr.mem, hext, u, rfl, hru⟩
    | ret =>
      simp only [leaveA] at h
      obtain ⟨xs, hxs, h2⟩ := Option.map_eq_some_iff.1 h
      simp only [Prod.mk.injEq] at h2
      obtain ⟨rfl, rfl⟩ := h2
      obtain ⟨rfl, hr⟩ := ho
      obtain ⟨u, hu, hru⟩ := results_run hr hxs
      exact ⟨hr.df, u, hu, ρ', A', hr.mem, hext, u, rfl, hru⟩

/-- what a contract says -/
def SpecHolds (P : Program) (Inv : World → Prop) (f : FuncId) (s : List AV → Option Res) : Prop :=
  ∀ args r, s args = some r → ∀ ρ A w vs, (∀ b, A b → b < w.heap.size) → Inv w → Rvs ρ A w None_ args vs →
    Calls P f vs.toArray w fun e w' => Below w.heap.size w w' ∧ match r with
      | .ret v => ∃ u, e = .returned u ∧ Rv ρ (Grow A w w') w' None_ v u
      | .pan => ∃ t u, e = .panicked [{ v := .iface t u, recovered := false }]

def okRes : Res → Bool
  | .ret v => bnd 0 v
  | .pan => true

/-- a contract out of runs -/
theorem spec_of_run (hΓ : Γ.Ok Inv) (hI : Stable Inv) (hcf : CallSound Γ.P Inv cf) (hdf : DrawSound Γ.P Inv df) (hdl : DrawLen df) {f : FuncId} {fn : Func} (hfn : Γ.P.funcs[f]? = some fn)
    {c : Code} (hb : fn.body = some c) (hlp : LoopsOk Γ cf df lp fn.ntmps c) {s : List AV → Option Res}
    (h : ∀ args r, s args = some r → args.length ≤ fn.ntmps ∧ okRes r = true ∧ ∃ H', runFn Γ cf df lp fn args [] = some (r, H')) : SpecHolds Γ.P Inv f s := by
  intro args r hs ρ A w vs hA hi hv
  obtain ⟨hl, hok, H', hrun⟩ := h args r hs
  have hm : Mem w ρ A w [] := ⟨⟨fun id o ho => by simp at ho, fun i j hi => by obtain ⟨o, ho, _⟩ := hi; simp at ho⟩, Below.refl _ _, hA⟩
  refine (runFn_sound hΓ hI hi hcf hdf hdl hfn hb hlp hl hrun hm (hv.mono (fun _ h => h.elim) (fun _ h => h.elim) (fun _ h => h) (fun _ _ => rfl))).mono ?_
  rintro e w' ⟨ρ', A', hm', hext, hres⟩
  refine ⟨hm'.bel, ?_⟩
  cases r with
  | ret v =>
    obtain ⟨u, rfl, hu⟩ := hres
    refine ⟨u, rfl, (hu.bnd0 hok).mono (fun _ h => h) (fun _ h => h.elim) (fun b hb => ?_) (fun _ _ => rfl)⟩
    exact (hext.late b hb).imp id (fun hl => ⟨hl, hm'.lt b hb⟩)
  | pan => exact hres
end
end Go.Evl
