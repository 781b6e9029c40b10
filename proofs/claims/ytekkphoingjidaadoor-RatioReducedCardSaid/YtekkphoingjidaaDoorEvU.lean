/- Contracts out of runs in continuation style, contexts out of lists. Conditions: the lists' contracts hold. -/
import Derived.Test.YtekkphoingjidaaDoorEvT
namespace Go.Evl
open Go.RowKit

abbrev Ent := FuncId × (List AV → Tr Res)
def spOf (l : List Ent) : Sp := fun f => match l.find? (fun p => Nat.beq p.1 f) with
  | some p => some p.2
  | none => none
def inlOf (l : List FuncId) (f : FuncId) : Bool := l.any (Nat.beq f)
def bodyB (P : Program) (f : FuncId) : Bool := match P.funcs[f]? with
  | some fn => !(fn.name == "runtime.NumGoroutine") && fn.body.isSome
  | none => false
def ExtHolds (P : Program) (ext : FuncId → Option (List AV → Option (Bool × AV))) : Prop :=
  ∀ f s, ext f = some s → ∀ args v, s args = some (true, v) → ∀ ρ A w n vs, Rvs ρ A w n args vs → ∃ u, (callFunc f vs.toArray).run P w = .ok (.value u) w ∧ Rv ρ A w n v u

theorem spOf_some {l : List Ent} {f : FuncId} {s : List AV → Tr Res} (h : spOf l f = some s) : ∃ p ∈ l, p.1 = f ∧ p.2 = s := by
  unfold spOf at h
  split at h
  · rename_i p hp
    simp only [Option.some.injEq] at h
    have := List.find?_some hp
    exact ⟨p, List.mem_of_find?_eq_some hp, by simpa using this, h⟩
  · simp at h
theorem cx_ok {P : Program} {Inv : World → Prop} {l : List Ent} {il : List FuncId} {ext : FuncId → Option (List AV → Option (Bool × AV))} (hb : (l.map (·.1) ++ il).all (bodyB P) = true) (hext : ExtHolds P ext)
    (hs : ∀ p ∈ l, SpecHolds P Inv p.1 fun a => (p.2 a).run) : (mkCx P (spOf l) (inlOf il) ext).Ok Inv where
  body := by
    intro f hf
    have hmem : f ∈ l.map (·.1) ++ il := by
      rcases hf with hf | hf
      · simp only [mkCx, Option.isSome_map] at hf
        obtain ⟨s, hs⟩ := Option.isSome_iff_exists.1 hf
        obtain ⟨p, hp, rfl, _⟩ := spOf_some hs
        exact List.mem_append_left _ (List.mem_map.2 ⟨p, hp, rfl⟩)
      · simp only [mkCx, inlOf, List.any_eq_true, Nat.beq_eq] at hf
        obtain ⟨g, hg, rfl⟩ := hf
        exact List.mem_append_right _ hg
    have := List.all_eq_true.1 hb f hmem
    unfold bodyB at this
    split at this
    · rename_i fn hfn
      simp only [Bool.and_eq_true, Bool.not_eq_true'] at this
      refine ⟨fn, hfn, this.1, ?_⟩
      cases hh : fn.body with
      | none => rw [hh] at this; simp at this
      | some c => rfl
    · simp at this
  ext := hext
  spec := by
    intro f s hf
    simp only [mkCx, Option.map_eq_some_iff] at hf
    obtain ⟨t, ht, rfl⟩ := hf
    obtain ⟨p, hp, rfl, rfl⟩ := spOf_some ht
    exact hs p hp

section
variable (P : Program) (sp : Sp) (inl : FuncId → Bool) (ext : FuncId → Option (List AV → Option (Bool × AV))) (cK : {β : Type} → CallK β) {cf : CallF}

def SumOkT (lp : Nat → LT) (nt : Nat) (body : Code) (keep : List Nat) (f : List AV → List Ob → Tr (Ex × List AV × List Ob)) : Prop :=
  ∃ μ : List AV → List Ob → Nat, ∀ vs H R, vs.length = keep.length → (f vs H).run = some R →
    ∃ e vs1 H1, evC P sp inl ext cK lp body ⟨mkF nt keep vs, H⟩ (fun e st => (cutBack keep H.length st).map fun q => (e, q.1, q.2)) = some (e, vs1, H1) ∧
      match e with
      | .normal => (f vs1 H1).run = some R ∧ μ vs1 H1 < μ vs H
      | e => R = (e, vs1, H1)
def LoopOkT (lp : Nat → LT) (nt : Nat) (body : Code) : LT → Prop
  | .unroll _ => True
  | .sum keep f => keep.Nodup ∧ (∀ k ∈ keep, k < nt) ∧ SumOkT P sp inl ext cK lp nt body keep f
theorem loopsOk_of (hcf : ∀ {β : Type}, CallEq (β := β) cK cf) {lp : Nat → LT} {nt : Nat} {c : Code} (h : ∀ p ∈ loops c, LoopOkT P sp inl ext cK lp nt p.2 (lp p.1)) : LoopsOk (mkCx P sp inl ext) cf (drawF (mkCx P sp inl ext)) (fun i => (lp i).lk) nt c := by
  intro p hp keep f hf
  have := h p hp
  cases hl : lp p.1 with
  | unroll k => simp only [hl, LT.lk] at hf; cases hf
  | sum keep' f' =>
    simp only [hl, LT.lk, LK.sum.injEq] at hf
    obtain ⟨rfl, rfl⟩ := hf
    rw [hl] at this
    obtain ⟨h1, h2, μ, h3⟩ := this
    refine ⟨h1, h2, μ, fun vs H R hv hR => ?_⟩
    obtain ⟨e, vs1, H1, hev, hres⟩ := h3 vs H R hv hR
    rw [evC_eq P sp inl ext cK hcf lp _ p.2 (Nat.le_refl _)] at hev
    obtain ⟨⟨e0, st1⟩, hrun, hk⟩ := Option.bind_eq_some_iff.1 hev
    obtain ⟨q, hq, he⟩ := Option.map_eq_some_iff.1 hk
    simp only [Prod.mk.injEq] at he
    obtain ⟨rfl, rfl, rfl⟩ := he
    exact ⟨e0, st1, q.1, q.2, hrun, hq, hres⟩

theorem spec_of_ev (hcf : ∀ {β : Type}, CallEq (β := β) cK cf) {Inv : World → Prop} (hΓ : (mkCx P sp inl ext).Ok Inv) (hI : Stable Inv) (hm : P.follows .mixedOrders = true) (hcs : CallSound P Inv cf) {f : FuncId} {fn : Func} (hfn : P.funcs[f]? = some fn) {c : Code} (hb : fn.body = some c)
    (lp : Nat → LT) (hlp : ∀ p ∈ loops c, LoopOkT P sp inl ext cK lp fn.ntmps p.2 (lp p.1)) {s : List AV → Tr Res}
    (h : ∀ args r, (s args).run = some r → Nat.ble args.length fn.ntmps = true ∧ okRes r = true ∧ evFn P sp inl ext cK lp fn args [] (fun r _ => some r) = some r) : SpecHolds P Inv f fun a => (s a).run := by
  refine spec_of_run (Γ := mkCx P sp inl ext) hΓ hI hcs (drawF_sound hΓ hI hm) drawF_len hfn hb (loopsOk_of P sp inl ext cK hcf hlp) fun args r hr => ?_
  obtain ⟨h1, h2, h3⟩ := h args r hr
  rw [evFn_eq P sp inl ext cK hcf] at h3
  obtain ⟨⟨r', H'⟩, hrun, hk⟩ := Option.bind_eq_some_iff.1 h3
  simp only [Option.some.injEq] at hk
  subst hk
  exact ⟨by simpa using h1, h2, H', hrun⟩
end
end Go.Evl
