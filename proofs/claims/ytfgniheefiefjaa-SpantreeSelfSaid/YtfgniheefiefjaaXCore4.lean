/- awake, by its run. No condition. -/
import Derived.Test.YtfgniheefiefjaaXCore3
import Derived.Laws.Externs
import Derived.ChangeArms
import Derived.ChangeMaps5
import Derived.Carry
import Derived.DataElems
import Derived.WideShapes
import Derived.ChangeShapes
import Derived.Test.YtfgniheefiefjaaChecked
import Derived.KernelRfl
/- Contracts out of runs in continuation style, contexts out of lists. Conditions: the lists' contracts hold. -/
namespace Go.Evl
open Go.RowKit

abbrev Ent := FuncId × (List AV → Tr Res)
def spOf (l : List Ent) : Sp := fun f => match l.find? (fun p => Nat.beq p.1 f) with
  | some p => some p.2
  | none => none
def inlOf (l : List FuncId) (f : FuncId) : Bool := l.any (Nat.beq f)
def bodyB (P : Program) (f : FuncId) : Bool := match P.funcs[f]? with
  | some fn => !(fn.name == "runtime.NumGoroutine") && fn.body.isSome
  | none => false
def ExtHolds (P : Program) (ext : FuncId → Option (List AV → Option (Bool × AV))) : Prop :=
  ∀ f s, ext f = some s → ∀ args v, s args = some (true, v) → ∀ ρ A w n vs, Rvs ρ A w n args vs → ∃ u, (callFunc f vs.toArray).run P w = .ok (.value u) w ∧ Rv ρ A w n v u

theorem spOf_some {l : List Ent} {f : FuncId} {s : List AV → Tr Res} (h : spOf l f = some s) : ∃ p ∈ l, p.1 = f ∧ p.2 = s := by
  unfold spOf at h
  split at h
  · rename_i p hp
    simp only [Option.some.injEq] at h
    have := List.find?_some hp
    exact ⟨p, List.mem_of_find?_eq_some hp, by simpa using this, h⟩
  · simp at h
theorem cx_body {P : Program} {l : List FuncId} (hb : l.all (bodyB P) = true) {f : FuncId} (hmem : f ∈ l) : ∃ fn, P.funcs[f]? = some fn ∧ (fn.name == "runtime.NumGoroutine") = false ∧ fn.body.isNone = false := by
  have := List.all_eq_true.1 hb f hmem
  unfold bodyB at this
  split at this
  · rename_i fn hfn
    simp only [Bool.and_eq_true, Bool.not_eq_true'] at this
    refine ⟨fn, hfn, this.1, ?_⟩
    cases hh : fn.body with
    | none => rw [hh] at this; simp at this
    | some c => rfl
  · simp at this
/-- what a list's entry must hold -/
def EntHolds (P : Program) (Inv : World → Prop) (p : Ent) : Prop :=
  bif Nat.blt p.1 1000000 then SpecHolds P Inv p.1 fun a => (p.2 a).run else UpdHolds P Inv (p.1 - 1000000) fun a => (p.2 a).run
def keyN (n : Nat) : Nat := bif Nat.blt n 1000000 then n else n - 1000000
theorem blt_up (f : Nat) : Nat.blt (1000000 + f) 1000000 = false := by
  rw [Bool.eq_false_iff, ne_eq, Nat.blt_eq]; omega
theorem keyN_up (f : Nat) : keyN (1000000 + f) = f := by
  unfold keyN
  rw [blt_up, cond_false, Nat.add_sub_cancel_left]
theorem entHolds_up {P : Program} {Inv : World → Prop} {p : Ent} {f : FuncId} (he : p.1 = 1000000 + f) (h : EntHolds P Inv p) : UpdHolds P Inv f fun a => (p.2 a).run := by
  unfold EntHolds at h
  rw [he, blt_up, cond_false, Nat.add_sub_cancel_left] at h
  exact h
theorem cx_ok {P : Program} {Inv : World → Prop} {l : List Ent} {il : List FuncId} {ext : FuncId → Option (List AV → Option (Bool × AV))} (hb : (l.map (fun p => keyN p.1) ++ il).all (bodyB P) = true) (hext : ExtHolds P ext)
    (hs : ∀ p ∈ l, EntHolds P Inv p) : (mkCx P (spOf l) (inlOf il) ext).Ok Inv where
  body := by
    intro f hf
    refine cx_body hb ?_
    rcases hf with hf | hf
    · simp only [mkCx, Option.isSome_map, spL] at hf
      cases hk : Nat.blt f 1000000 with
      | false => simp [hk] at hf
      | true =>
        simp only [hk, cond_true] at hf
        obtain ⟨s, hs⟩ := Option.isSome_iff_exists.1 hf
        obtain ⟨p, hp, rfl, _⟩ := spOf_some hs
        exact List.mem_append_left _ (List.mem_map.2 ⟨p, hp, by simp [keyN, hk]⟩)
    · simp only [mkCx, inlOf, List.any_eq_true, Nat.beq_eq] at hf
      obtain ⟨g, hg, rfl⟩ := hf
      exact List.mem_append_right _ hg
  ext := hext
  spec := by
    intro f s hf
    simp only [mkCx, Option.map_eq_some_iff, spL] at hf
    obtain ⟨t, ht, rfl⟩ := hf
    cases hk : Nat.blt f 1000000 with
    | false => simp [hk] at ht
    | true =>
      simp only [hk, cond_true] at ht
      obtain ⟨p, hp, rfl, rfl⟩ := spOf_some ht
      have := hs p hp
      unfold EntHolds at this
      rw [hk] at this
      exact this
  ubody := by
    intro f hf
    refine cx_body hb ?_
    simp only [mkCx, upL] at hf
    obtain ⟨s, hs⟩ := Option.isSome_iff_exists.1 hf
    obtain ⟨p, hp, he, _⟩ := spOf_some hs
    refine List.mem_append_left _ (List.mem_map.2 ⟨p, hp, ?_⟩)
    show keyN p.1 = f
    rw [he, keyN_up]
  upd := by
    intro f s hf
    simp only [mkCx, upL] at hf
    obtain ⟨p, hp, he, rfl⟩ := spOf_some hf
    exact entHolds_up he (hs p hp)
  vw := fun f s h => by simp only [mkCx] at h ⊢; rw [h]; rfl

section
variable (P : Program) (sp : Sp) (inl : FuncId → Bool) (ext : FuncId → Option (List AV → Option (Bool × AV))) (cK : {β : Type} → CallK β) {cf : CallF}

def SumOkT (lp : Nat → LT) (nt : Nat) (body : Code) (keep : List Nat) (f : List AV → List Ob → Tr (Ex × List AV × List Ob)) : Prop :=
  ∃ μ : List AV → List Ob → Nat, ∀ vs H R, vs.length = keep.length → (f vs H).run = some R →
    ∃ e vs1 H1, evC P sp inl ext cK lp body ⟨mkF nt keep vs, H⟩ (fun e st => (cutBack keep H.length st).map fun q => (e, q.1, q.2)) = some (e, vs1, H1) ∧
      match e with
      | .normal => (f vs1 H1).run = some R ∧ μ vs1 H1 < μ vs H
      | e => R = (e, vs1, H1)
def LoopOkT (lp : Nat → LT) (nt : Nat) (body : Code) : LT → Prop
  | .unroll _ => True
  | .forget _ => True
  | .ghost _ => True
  | .sum keep f => keep.Nodup ∧ (∀ k ∈ keep, k < nt) ∧ SumOkT P sp inl ext cK lp nt body keep f
theorem loopsOk_of (hcf : ∀ {β : Type}, CallEq (β := β) cK cf) {lp : Nat → LT} {nt : Nat} {c : Code} (h : ∀ p ∈ loops c, LoopOkT P sp inl ext cK lp nt p.2 (lp p.1)) : LoopsOk (mkCx P sp inl ext) cf (drawF (mkCx P sp inl ext)) (fun i => (lp i).lk) nt c := by
  intro p hp keep f hf
  have := h p hp
  cases hl : lp p.1 with
  | unroll k => simp only [hl, LT.lk] at hf; cases hf
  | forget k => simp only [hl, LT.lk] at hf; cases hf
  | ghost gs => simp only [hl, LT.lk] at hf; cases hf
  | sum keep' f' =>
    simp only [hl, LT.lk, LK.sum.injEq] at hf
    obtain ⟨rfl, rfl⟩ := hf
    rw [hl] at this
    obtain ⟨h1, h2, μ, h3⟩ := this
    refine ⟨h1, h2, μ, fun vs H R hv hR => ?_⟩
    obtain ⟨e, vs1, H1, hev, hres⟩ := h3 vs H R hv hR
    rw [evC_eq P sp inl ext cK hcf lp _ p.2 (Nat.le_refl _)] at hev
    obtain ⟨⟨e0, st1⟩, hrun, hk⟩ := Option.bind_eq_some_iff.1 hev
    obtain ⟨q, hq, he⟩ := Option.map_eq_some_iff.1 hk
    simp only [Prod.mk.injEq] at he
    obtain ⟨rfl, rfl, rfl⟩ := he
    exact ⟨e0, st1, q.1, q.2, hrun, hq, hres⟩

theorem spec_of_ev (hcf : ∀ {β : Type}, CallEq (β := β) cK cf) {Inv : World → Prop} (hΓ : (mkCx P sp inl ext).Ok Inv) (hI : Stable Inv) (hm : P.follows .mixedOrders = true) (hcs : CallSound P Inv cf) {f : FuncId} {fn : Func} (hfn : P.funcs[f]? = some fn) {c : Code} (hb : fn.body = some c)
    (lp : Nat → LT) (hlp : ∀ p ∈ loops c, LoopOkT P sp inl ext cK lp fn.ntmps p.2 (lp p.1)) {s : List AV → Tr Res}
    (h : ∀ args r, (s args).run = some r → Nat.ble args.length fn.ntmps = true ∧ okRes r = true ∧ evFn P sp inl ext cK lp fn args [] (fun r _ => some r) = some r) : SpecHolds P Inv f fun a => (s a).run := by
  refine spec_of_run (Γ := mkCx P sp inl ext) hΓ hI hcs (drawF_sound hΓ hI hm) drawF_len drawF_keep hfn hb (loopsOk_of P sp inl ext cK hcf hlp) fun args r hr => ?_
  obtain ⟨h1, h2, h3⟩ := h args r hr
  rw [evFn_eq P sp inl ext cK hcf] at h3
  obtain ⟨⟨r', H'⟩, hrun, hk⟩ := Option.bind_eq_some_iff.1 h3
  simp only [Option.some.injEq] at hk
  subst hk
  exact ⟨by simpa using h1, h2, H', hrun⟩
def castT (ct : Ct) (r : Res) (H : List Ob) : Tr Res := match castR ct H r with
  | some (c, q) => .chk c (.leaf q)
  | none => .non
/-- a contract out of runs whose results are cast -/
theorem spec_of_evC (hcf : ∀ {β : Type}, CallEq (β := β) cK cf) {Inv : World → Prop} (hΓ : (mkCx P sp inl ext).Ok Inv) (hI : Stable Inv) (hm : P.follows .mixedOrders = true) (hcs : CallSound P Inv cf) {f : FuncId} {fn : Func} (hfn : P.funcs[f]? = some fn) {c : Code} (hb : fn.body = some c)
    (lp : Nat → LT) (hlp : ∀ p ∈ loops c, LoopOkT P sp inl ext cK lp fn.ntmps p.2 (lp p.1)) {s : List AV → Tr Res} (ct : Ct)
    (h : ∀ args r, (s args).run = some r → Nat.ble args.length fn.ntmps = true ∧ (evFnT P sp inl ext cK lp fn args [] (castT ct)).run = some r) : SpecHolds P Inv f fun a => (s a).run := by
  refine spec_of_runC (Γ := mkCx P sp inl ext) hΓ hI hcs (drawF_sound hΓ hI hm) drawF_len drawF_keep hfn hb (loopsOk_of P sp inl ext cK hcf hlp) ct fun args r hr => ?_
  obtain ⟨h1, h3⟩ := h args r hr
  rw [evFnT_eq P sp inl ext cK hcf] at h3
  obtain ⟨⟨q, H'⟩, hrun, hk⟩ := Option.bind_eq_some_iff.1 h3
  refine ⟨by simpa using h1, q, H', hrun, ?_⟩
  unfold castT at hk
  split at hk
  · rename_i b q' hq
    cases b with
    | false => simp [Tr.run] at hk
    | true =>
      simp only [Tr.run, cond_true, Option.some.injEq] at hk
      rw [hq, hk]
  · simp [Tr.run] at hk
end
end Go.Evl

/- Contracts that are the run itself, to a depth: for calls with known arguments. math/bits' additions with a carry. Conditions: the base's contracts hold. -/
namespace Go.Evl
open Go.RowKit

def autoSp (P : Program) (l0 : List Ent) (sl il : List FuncId) (ext : FuncId → Option (List AV → Option (Bool × AV))) (att : FuncId → Option Att) (u : FuncId → Nat → Nat) : Nat → Sp
  | 0 => spL (spOf l0)
  | n + 1 => spL fun f => match spOf l0 f with
    | some s => some s
    | none => bif inlOf sl f then some fun args => callK P (autoSp P l0 sl il ext att u n) (inlOf il) ext att u 40 f args [] (fun r _ => .chk (okRes r) (.leaf r))
      else none
theorem spL_some {sp : Sp} {f : FuncId} {s : List AV → Tr Res} (h : spL sp f = some s) : sp f = some s := by
  unfold spL at h
  cases hk : Nat.blt f 1000000 with
  | false => simp [hk] at h
  | true => simpa [hk] using h
theorem upL_none (sp : Sp) (f : FuncId) : upL (spL sp) f = none := by
  simp only [upL, spL, blt_up, cond_false]

theorem auto_spec {P : Program} {Inv : World → Prop} {sp : Sp} {inl : FuncId → Bool} {ext : FuncId → Option (List AV → Option (Bool × AV))} {att : FuncId → Option Att} {u : FuncId → Nat → Nat} (hatt : ∀ f T, att f = some T → T.fa = f ∧ T.Ok P)
    (hΓ : (mkCx P sp inl ext).Ok Inv) (hI : Stable Inv) (hm : P.follows .mixedOrders = true) (n : Nat) (f : FuncId) : SpecHolds P Inv f fun args => (callK P sp inl ext att u n f args [] fun r _ => .chk (okRes r) (.leaf r)).run := by
  intro args r h ρ A w vs hA hi hv
  simp only at h
  rw [(callK_eq P sp inl ext att u n).fn] at h
  obtain ⟨⟨r', H'⟩, hrun, hk⟩ := Option.bind_eq_some_iff.1 h
  have hok : okRes r' = true := by
    cases hh : okRes r' with
    | true => rfl
    | false => simp [Tr.run, hh] at hk
  simp only [Tr.run, hok, cond_true, Option.some.injEq] at hk
  subst hk
  have hmem : Mem w { ρ with base := w.heap.size } A w [] := ⟨⟨fun id o ho => by simp at ho, fun i j o p b hi => by simp at hi⟩, Below.refl _ _, hA, rfl⟩
  refine ((callN_sound (Γ := mkCx P sp inl ext) hatt hΓ hI hm n).fn f args [] r' H' hrun w _ A w vs hi hmem (hv.mono (fun _ h => h.elim) (Nle.none _ _ fun _ h => h) (fun _ h => h) (fun _ _ => rfl))).mono ?_
  rintro e w' ⟨ρ', A', hm', hext, hres⟩
  refine ⟨hm'.bel, ?_⟩
  cases r' with
  | ret v =>
    obtain ⟨u, rfl, hu⟩ := hres
    refine ⟨u, rfl, (hu.bnd0 hok).mono (fun _ h => h) (Nle.none _ _ fun _ h => h) (fun b hb => ?_) (fun _ _ => rfl)⟩
    exact (hext.late b hb).imp id (fun hl => ⟨hl, hm'.lt b hb⟩)
  | pan => exact hres

theorem autoSp_ok {P : Program} {Inv : World → Prop} {l0 : List Ent} {sl il : List FuncId} {ext : FuncId → Option (List AV → Option (Bool × AV))} {att : FuncId → Option Att} {u : FuncId → Nat → Nat} (hatt : ∀ f T, att f = some T → T.fa = f ∧ T.Ok P)
    (hb : (l0.map (·.1) ++ (sl ++ il)).all (bodyB P) = true) (hext : ExtHolds P ext) (hs : ∀ p ∈ l0, SpecHolds P Inv p.1 fun a => (p.2 a).run) (hI : Stable Inv) (hm : P.follows .mixedOrders = true) :
    ∀ n, (mkCx P (autoSp P l0 sl il ext att u n) (inlOf il) ext).Ok Inv := by
  have hbody : ∀ f, f ∈ l0.map (·.1) ∨ inlOf sl f = true ∨ inlOf il f = true → ∃ fn, P.funcs[f]? = some fn ∧ (fn.name == "runtime.NumGoroutine") = false ∧ fn.body.isNone = false := by
    intro f hf
    have hmem : f ∈ l0.map (·.1) ++ (sl ++ il) := by
      rcases hf with hf | hf | hf
      · exact List.mem_append_left _ hf
      · simp only [inlOf, List.any_eq_true, Nat.beq_eq] at hf
        obtain ⟨g, hg, rfl⟩ := hf
        exact List.mem_append_right _ (List.mem_append_left _ hg)
      · simp only [inlOf, List.any_eq_true, Nat.beq_eq] at hf
        obtain ⟨g, hg, rfl⟩ := hf
        exact List.mem_append_right _ (List.mem_append_right _ hg)
    have := List.all_eq_true.1 hb f hmem
    unfold bodyB at this
    split at this
    · rename_i fn hfn
      simp only [Bool.and_eq_true, Bool.not_eq_true'] at this
      refine ⟨fn, hfn, this.1, ?_⟩
      cases hh : fn.body with
      | none => rw [hh] at this; simp at this
      | some c => rfl
    · simp at this
  intro n
  induction n with
  | zero =>
    refine ⟨fun f hf => hbody f ?_, hext, ?_, fun f hf => by simp [mkCx, autoSp, upL_none] at hf, fun f s hf => by simp [mkCx, autoSp, upL_none] at hf, fun f s h => by simp only [mkCx] at h ⊢; rw [h]; rfl⟩
    · rcases hf with hf | hf
      · simp only [mkCx, autoSp, Option.isSome_map] at hf
        obtain ⟨s, hs⟩ := Option.isSome_iff_exists.1 hf
        obtain ⟨p, hp, rfl, _⟩ := spOf_some (spL_some (spL_some hs))
        exact .inl (List.mem_map.2 ⟨p, hp, rfl⟩)
      · exact .inr (.inr hf)
    · intro f s hf
      simp only [mkCx, autoSp, Option.map_eq_some_iff] at hf
      obtain ⟨t, ht, rfl⟩ := hf
      obtain ⟨p, hp, rfl, rfl⟩ := spOf_some (spL_some (spL_some ht))
      exact hs p hp
  | succ n ih =>
    refine ⟨fun f hf => hbody f ?_, hext, ?_, fun f hf => by simp [mkCx, autoSp, upL_none] at hf, fun f s hf => by simp [mkCx, autoSp, upL_none] at hf, fun f s h => by simp only [mkCx] at h ⊢; rw [h]; rfl⟩
    · rcases hf with hf | hf
      · simp only [mkCx, autoSp, Option.isSome_map] at hf
        obtain ⟨s, hf⟩ := Option.isSome_iff_exists.1 hf
        have hf := spL_some (spL_some hf)
        split at hf
        · rename_i s hs
          obtain ⟨p, hp, rfl, _⟩ := spOf_some hs
          exact .inl (List.mem_map.2 ⟨p, hp, rfl⟩)
        · cases hsl : inlOf sl f with
          | true => exact .inr (.inl rfl)
          | false => simp [hsl] at hf
      · exact .inr (.inr hf)
    · intro f s hf
      simp only [mkCx, autoSp, Option.map_eq_some_iff] at hf
      obtain ⟨t, ht, rfl⟩ := hf
      have ht := spL_some (spL_some ht)
      split at ht
      · rename_i s hs'
        simp only [Option.some.injEq] at ht
        subst ht
        obtain ⟨p, hp, rfl, rfl⟩ := spOf_some hs'
        exact hs p hp
      · cases hsl : inlOf sl f with
        | false => simp [hsl] at ht
        | true =>
          simp only [hsl, cond_true, Option.some.injEq] at ht
          subst ht
          intro args r hr ρ A w vs hA hi hv
          exact auto_spec hatt ih hI hm 40 f args r hr ρ A w vs hA hi hv
end Go.Evl

/- Contracts that are the run itself, to a depth; rows among the results are handed out as immutable ones. Conditions: the base's contracts hold. -/
namespace Go.Evl
open Go.RowKit

def autoSpC (P : Program) (l0 : List Ent) (sl il : List FuncId) (ext : FuncId → Option (List AV → Option (Bool × AV))) (att : FuncId → Option Att) (u : FuncId → Nat → Nat) : Nat → Sp
  | 0 => spL (spOf l0)
  | n + 1 => spL fun f => match spOf l0 f with
    | some s => some s
    | none => bif inlOf sl f then some fun args => callK P (autoSpC P l0 sl il ext att u n) (inlOf il) ext att u 40 f args [] (castT .aut)
      else none
theorem auto_specC {P : Program} {Inv : World → Prop} {sp : Sp} {inl : FuncId → Bool} {ext : FuncId → Option (List AV → Option (Bool × AV))} {att : FuncId → Option Att} {u : FuncId → Nat → Nat} (hatt : ∀ f T, att f = some T → T.fa = f ∧ T.Ok P)
    (hΓ : (mkCx P sp inl ext).Ok Inv) (hI : Stable Inv) (hm : P.follows .mixedOrders = true) (n : Nat) (f : FuncId) : SpecHolds P Inv f fun args => (callK P sp inl ext att u n f args [] (castT .aut)).run := by
  intro args r h ρ A w vs hA hi hv
  simp only at h
  rw [(callK_eq P sp inl ext att u n).fn] at h
  obtain ⟨⟨q, H'⟩, hrun, hk⟩ := Option.bind_eq_some_iff.1 h
  have hcast : castR .aut H' q = some (true, r) := by
    unfold castT at hk
    split at hk
    · rename_i b q' hq
      cases b with
      | false => simp [Tr.run] at hk
      | true =>
        simp only [Tr.run, cond_true, Option.some.injEq] at hk
        rw [hq, hk]
    · simp [Tr.run] at hk
  have hmem : Mem w { ρ with base := w.heap.size } A w [] := ⟨⟨fun id o ho => by simp at ho, fun i j o p b hi => by simp at hi⟩, Below.refl _ _, hA, rfl⟩
  refine ((callN_sound (Γ := mkCx P sp inl ext) hatt hΓ hI hm n).fn f args [] q H' hrun w _ A w vs hi hmem (hv.mono (fun _ h => h.elim) (Nle.none _ _ fun _ h => h) (fun _ h => h) (fun _ _ => rfl))).mono ?_
  rintro e w' ⟨ρ', A', hm', hext, hres⟩
  refine ⟨hm'.bel, ?_⟩
  cases q with
  | ret v =>
    obtain ⟨⟨p, v'⟩, hp, h2⟩ := Option.map_eq_some_iff.1 hcast
    simp only [Prod.mk.injEq] at h2
    obtain ⟨rfl, rfl⟩ := h2
    obtain ⟨u, rfl, hu⟩ := hres
    refine ⟨u, rfl, (castA_rv hm' _ _ _ _ _ hp hu).mono (fun _ h => h) (Nle.none _ _ fun _ h => h) (fun b hb => ?_) (fun _ _ => rfl)⟩
    rcases hb with hb | ⟨hb1, hb2⟩
    · exact (hext.late b hb).imp id (fun hl => ⟨hl, hm'.lt b hb⟩)
    · exact .inr ⟨by rw [hm'.bs] at hb1; exact hb1, hb2⟩
  | pan =>
    simp only [castR, Option.some.injEq, Prod.mk.injEq, true_and] at hcast
    subst hcast
    exact hres
theorem autoSpC_ok {P : Program} {Inv : World → Prop} {l0 : List Ent} {sl il : List FuncId} {ext : FuncId → Option (List AV → Option (Bool × AV))} {att : FuncId → Option Att} {u : FuncId → Nat → Nat} (hatt : ∀ f T, att f = some T → T.fa = f ∧ T.Ok P)
    (hb : (l0.map (·.1) ++ (sl ++ il)).all (bodyB P) = true) (hext : ExtHolds P ext) (hs : ∀ p ∈ l0, SpecHolds P Inv p.1 fun a => (p.2 a).run) (hI : Stable Inv) (hm : P.follows .mixedOrders = true) :
    ∀ n, (mkCx P (autoSpC P l0 sl il ext att u n) (inlOf il) ext).Ok Inv := by
  have hbody : ∀ f, f ∈ l0.map (·.1) ∨ inlOf sl f = true ∨ inlOf il f = true → ∃ fn, P.funcs[f]? = some fn ∧ (fn.name == "runtime.NumGoroutine") = false ∧ fn.body.isNone = false := by
    intro f hf
    have hmem : f ∈ l0.map (·.1) ++ (sl ++ il) := by
      rcases hf with hf | hf | hf
      · exact List.mem_append_left _ hf
      · simp only [inlOf, List.any_eq_true, Nat.beq_eq] at hf
        obtain ⟨g, hg, rfl⟩ := hf
        exact List.mem_append_right _ (List.mem_append_left _ hg)
      · simp only [inlOf, List.any_eq_true, Nat.beq_eq] at hf
        obtain ⟨g, hg, rfl⟩ := hf
        exact List.mem_append_right _ (List.mem_append_right _ hg)
    have := List.all_eq_true.1 hb f hmem
    unfold bodyB at this
    split at this
    · rename_i fn hfn
      simp only [Bool.and_eq_true, Bool.not_eq_true'] at this
      refine ⟨fn, hfn, this.1, ?_⟩
      cases hh : fn.body with
      | none => rw [hh] at this; simp at this
      | some c => rfl
    · simp at this
  intro n
  induction n with
  | zero =>
    refine ⟨fun f hf => hbody f ?_, hext, ?_, fun f hf => by simp [mkCx, autoSpC, upL_none] at hf, fun f s hf => by simp [mkCx, autoSpC, upL_none] at hf, fun f s h => by simp only [mkCx] at h ⊢; rw [h]; rfl⟩
    · rcases hf with hf | hf
      · simp only [mkCx, autoSpC, Option.isSome_map] at hf
        obtain ⟨s, hs⟩ := Option.isSome_iff_exists.1 hf
        obtain ⟨p, hp, rfl, _⟩ := spOf_some (spL_some (spL_some hs))
        exact .inl (List.mem_map.2 ⟨p, hp, rfl⟩)
      · exact .inr (.inr hf)
    · intro f s hf
      simp only [mkCx, autoSpC, Option.map_eq_some_iff] at hf
      obtain ⟨t, ht, rfl⟩ := hf
      obtain ⟨p, hp, rfl, rfl⟩ := spOf_some (spL_some (spL_some ht))
      exact hs p hp
  | succ n ih =>
    refine ⟨fun f hf => hbody f ?_, hext, ?_, fun f hf => by simp [mkCx, autoSpC, upL_none] at hf, fun f s hf => by simp [mkCx, autoSpC, upL_none] at hf, fun f s h => by simp only [mkCx] at h ⊢; rw [h]; rfl⟩
    · rcases hf with hf | hf
      · simp only [mkCx, autoSpC, Option.isSome_map] at hf
        obtain ⟨s, hf⟩ := Option.isSome_iff_exists.1 hf
        have hf := spL_some (spL_some hf)
        split at hf
        · rename_i s hs
          obtain ⟨p, hp, rfl, _⟩ := spOf_some hs
          exact .inl (List.mem_map.2 ⟨p, hp, rfl⟩)
        · cases hsl : inlOf sl f with
          | true => exact .inr (.inl rfl)
          | false => simp [hsl] at hf
      · exact .inr (.inr hf)
    · intro f s hf
      simp only [mkCx, autoSpC, Option.map_eq_some_iff] at hf
      obtain ⟨t, ht, rfl⟩ := hf
      have ht := spL_some (spL_some ht)
      split at ht
      · rename_i s hs'
        simp only [Option.some.injEq] at ht
        subst ht
        obtain ⟨p, hp, rfl, rfl⟩ := spOf_some hs'
        exact hs p hp
      · cases hsl : inlOf sl f with
        | false => simp [hsl] at ht
        | true =>
          simp only [hsl, cond_true, Option.some.injEq] at ht
          subst ht
          intro args r hr ρ A w vs hA hi hv
          exact auto_specC hatt ih hI hm 40 f args r hr ρ A w vs hA hi hv
end Go.Evl

/- Ways through a tree, and cuts: a function's text in pieces. No condition. -/
namespace Go.Evl
open Go.RowKit

/-- conditions in their order, each with what it must be -/
def nestB {α : Type} : List (Bool × Bool) → Option α → Option α
  | [], r => r
  | (b, true) :: l, r => bif b then nestB l r else none
  | (b, false) :: l, r => bif b then none else nestB l r
def allB : List (Bool × Bool) → Bool
  | [] => true
  | (b, true) :: l => b && allB l
  | (b, false) :: l => !b && allB l
theorem nestB_all {α : Type} {l : List (Bool × Bool)} {r : Option α} (h : allB l = true) : nestB l r = r := by
  induction l with
  | nil => rfl
  | cons p l ih =>
    obtain ⟨b, v⟩ := p
    cases v <;> cases b <;> simp_all [allB, nestB]
theorem allB_nil : allB [] = true := rfl
theorem allB_t {b : Bool} {l : List (Bool × Bool)} (h : b = true) (hl : allB l = true) : allB ((b, true) :: l) = true := by simp [allB, h, hl]
theorem allB_f {b : Bool} {l : List (Bool × Bool)} (h : b = false) (hl : allB l = true) : allB ((b, false) :: l) = true := by simp [allB, h, hl]
theorem way {α : Type} {t : Tr α} {gs : List Bool} {l : List (Bool × Bool)} {r : α} (hp : t.path gs = nestB l (some r)) (h : allB l = true) : t.run = some r :=
  Tr.path_run t gs (by rw [hp, nestB_all h])

def takeSeq : Nat → Code → Code
  | n + 1, .seq a b => .seq a (takeSeq n b)
  | _, _ => .skip
def dropSeq : Nat → Code → Code
  | n + 1, .seq _ b => dropSeq n b
  | _, c => c
def isSeqs : Nat → Code → Bool
  | 0, _ => true
  | n + 1, .seq _ b => isSeqs n b
  | _, _ => false

section
variable {Γ : Cx} {cf : CallF} {df : DrawF} {lp : Nat → LK}
theorem runC_cut : ∀ (n : Nat) (c : Code), isSeqs n c = true → ∀ {st st' : St}, runC Γ cf df lp (takeSeq n c) st = some (.normal, st') → runC Γ cf df lp c st = runC Γ cf df lp (dropSeq n c) st' := by
  intro n
  induction n with
  | zero =>
    intro c _ st st' h
    have e : takeSeq 0 c = .skip := by cases c <;> rfl
    have e2 : dropSeq 0 c = c := by cases c <;> rfl
    rw [e] at h
    simp only [runC, Option.some.injEq, Prod.mk.injEq, true_and] at h
    rw [e2, h]
  | succ n ih =>
    intro c hc st st' h
    cases c with
    | seq a b =>
      simp only [isSeqs] at hc
      simp only [takeSeq, runC] at h
      simp only [dropSeq]
      rw [runC]
      split at h
      · rename_i st1 h1
        exact ih b hc h
      · rename_i hne
        exact absurd h (hne _)
    | _ => simp [isSeqs] at hc
end

def headRegion : Code → Option Nat
  | .seq a _ => headRegion a
  | .region id _ _ => some id
  | _ => none
theorem getT_set_same {tm : List AV} {i : Nat} {v : AV} (h : i < tm.length) : getT (tm.set i v) i = v := by simp [getT, h]
theorem getT_set_other {tm : List AV} {i j : Nat} {v : AV} (h : i ≠ j) : getT (tm.set i v) j = getT tm j := by simp [getT, List.getElem?_set_ne h]
theorem getT_setAll_out : ∀ (keep : List Nat) (tm vs : List AV) (j : Nat), j ∉ keep → getT (setAll tm keep vs) j = getT tm j := by
  intro keep
  induction keep with
  | nil => intro tm vs j _; simp [setAll]
  | cons i is ih =>
    intro tm vs j hj
    cases vs with
    | nil => simp [setAll]
    | cons v vs =>
      simp only [List.mem_cons, not_or] at hj
      simp only [setAll]
      rw [ih _ _ _ hj.2, getT_set_other (fun e => hj.1 e.symm)]
theorem getT_setAll : ∀ (keep : List Nat) (tm vs : List AV), keep.Nodup → (∀ k ∈ keep, k < tm.length) → vs.length = keep.length → keep.map (getT (setAll tm keep vs)) = vs := by
  intro keep
  induction keep with
  | nil => intro tm vs _ _ hl; simp at hl; simp [hl]
  | cons i is ih =>
    intro tm vs hn hk hl
    cases vs with
    | nil => simp at hl
    | cons v vs =>
      simp only [List.nodup_cons] at hn
      simp only [setAll, List.map_cons]
      rw [getT_setAll_out is _ _ i hn.1, getT_set_same (hk i (by simp)), ih _ _ hn.2 (fun k hk' => by simpa using hk k (by simp [hk'])) (by simpa using hl)]
theorem mkF_mkF {nt : Nat} {keep : List Nat} {vs : List AV} (hn : keep.Nodup) (hk : ∀ k ∈ keep, k < nt) (hl : vs.length = keep.length) : mkF nt keep (keep.map (getT (mkF nt keep vs))) = mkF nt keep vs := by
  have : keep.map (getT (mkF nt keep vs)) = vs := getT_setAll keep _ vs hn (by simpa using hk) hl
  rw [this]

section
variable {Γ : Cx} {cf : CallF} {df : DrawF} {lp : Nat → LK}
theorem runC_head {id : Nat} {keep : List Nat} (hf : lp (1000000 + id) = .forget keep) (hn : keep.Nodup) : ∀ {c : Code} (_ : headRegion c = some id) {st : St} (_ : ∀ k ∈ keep, k < st.tm.length),
    runC Γ cf df lp c st = runC Γ cf df lp c ⟨mkF st.tm.length keep (keep.map (getT st.tm)), st.hp⟩
  | .seq a b, hc, st, hk => by
    simp only [headRegion] at hc
    simp only [runC]
    rw [runC_head hf hn hc hk]
  | .region i ops d, hc, st, hk => by
    simp only [headRegion, Option.some.injEq] at hc
    subst hc
    have hfs : preSt (lp (1000000 + i)) ⟨mkF st.tm.length keep (keep.map (getT st.tm)), st.hp⟩ = preSt (lp (1000000 + i)) st := by
      rw [hf]
      simp only [preSt, forgetSt, mkF_length]
      rw [mkF_mkF hn hk (by simp)]
    simp only [runC, hfs]
  | .skip, hc, _, _ => by simp [headRegion] at hc
  | .cond _ _ _, hc, _, _ => by simp [headRegion] at hc
  | .block _ _, hc, _, _ => by simp [headRegion] at hc
  | .loop _, hc, _, _ => by simp [headRegion] at hc
  | .exit _, hc, _, _ => by simp [headRegion] at hc
  | .ret, hc, _, _ => by simp [headRegion] at hc
  | .rangeFunc _ _ _ _, hc, _, _ => by simp [headRegion] at hc
  | .scope _, hc, _, _ => by simp [headRegion] at hc
  | .label _, hc, _, _ => by simp [headRegion] at hc
  | .goto _, hc, _, _ => by simp [headRegion] at hc
  | .refuse _, hc, _, _ => by simp [headRegion] at hc
end

section
variable {β : Type} (P : Program) (sp : Sp) (inl : FuncId → Bool) (ext : FuncId → Option (List AV → Option (Bool × AV))) (cK : {β : Type} → CallK β) {cf : CallF}
/-- a piece of the text: the slots kept and the heap behind it -/
def evPart (lp : Nat → LT) (n : Nat) (c : Code) (keep : List Nat) (st : St) : Tr (Ex × List AV × List Ob) := evCT P sp inl ext cK lp (takeSeq n c) st fun e st => .leaf (e, keep.map (getT st.tm), st.hp)
/-- the text from a piece on -/
def evRest (lp : Nat → LT) (c : Code) (nt : Nat) (keep : List Nat) (vs : List AV) (H : List Ob) (k : Ex → St → Tr β) : Tr β := evCT P sp inl ext cK lp c ⟨mkF nt keep vs, H⟩ k
theorem ev_cut (hcf : ∀ {β : Type}, CallEq (β := β) cK cf) {lp : Nat → LT} {n : Nat} {c : Code} {id : Nat} {keep : List Nat} (hs : isSeqs n c = true) (hc : headRegion (dropSeq n c) = some id) (hf : lp (1000000 + id) = .forget keep) (hn : keep.Nodup)
    {st : St} (hk : ∀ k ∈ keep, k < st.tm.length) {vs : List AV} {H : List Ob} (h : (evPart P sp inl ext cK lp n c keep st).run = some (.normal, vs, H)) (k : Ex → St → Tr β) :
    (evCT P sp inl ext cK lp c st k).run = (evRest P sp inl ext cK lp (dropSeq n c) st.tm.length keep vs H k).run := by
  unfold evPart at h
  rw [evCT_eq P sp inl ext cK hcf lp _ _ (Nat.le_refl _)] at h
  obtain ⟨⟨e, st'⟩, hr, h2⟩ := Option.bind_eq_some_iff.1 h
  simp only [Tr.run, Option.some.injEq, Prod.mk.injEq] at h2
  obtain ⟨rfl, rfl, rfl⟩ := h2
  have hl : st'.tm.length = st.tm.length := runC_length drawF_len _ hr
  unfold evRest
  rw [evCT_eq P sp inl ext cK hcf lp _ _ (Nat.le_refl _), evCT_eq P sp inl ext cK hcf lp _ _ (Nat.le_refl _), runC_cut n c hs hr]
  rw [runC_head (lp := fun i => (lp i).lk) (id := id) (by simp [hf, LT.lk]) hn hc (by rw [hl]; exact hk), hl]
end
section
variable {β : Type} (P : Program) (sp : Sp) (inl : FuncId → Bool) (ext : FuncId → Option (List AV → Option (Bool × AV))) (cK : CallK β)
theorem evFn_body {lp : Nat → LT} {fn : Func} {c : Code} (hb : fn.body = some c) (args : List AV) (H : List Ob) (k : Res → List Ob → Option β) :
    evFn P sp inl ext cK lp fn args H k = (evCT P sp inl ext cK lp c ⟨frame0 fn args, H⟩ (endKT P fn H.length fun r H => .ofOpt (k r H))).run := by
  unfold evFn evFnT
  rw [hb]
end
end Go.Evl

/- One level of calls in place whose loops are summed up, above calls to a depth. Conditions: the loops' summaries hold. -/
namespace Go.Evl
open Go.RowKit

def lookLp (l : List (FuncId × (Nat → LT))) (f : FuncId) : Option (Nat → LT) := match l.find? (fun p => Nat.beq p.1 f) with
  | some p => some p.2
  | none => none
theorem lookLp_mem {l : List (FuncId × (Nat → LT))} {f : FuncId} {lp : Nat → LT} (h : lookLp l f = some lp) : (f, lp) ∈ l := by
  unfold lookLp at h
  split at h
  · rename_i p hp
    simp only [Option.some.injEq] at h
    have h1 := List.find?_some hp
    have h2 := List.mem_of_find?_eq_some hp
    obtain ⟨a, b⟩ := p
    simp only [Nat.beq_eq] at h1
    simp only at h
    subst h1 h
    exact h2
  · simp at h
def callLN (Γ : Cx) (cf : CallF) (l : List (FuncId × (Nat → LT))) : CallF := ⟨fun f args H => match lookLp l f with
  | some lp => match Γ.P.funcs[f]? with
    | some fn => if Nat.ble args.length fn.ntmps then runFn Γ cf (drawF Γ) (fun i => (lp i).lk) fn args H else none
    | none => none
  | none => cf f args H, cf.rnd⟩
def LpsOk (Γ : Cx) (cf : CallF) (l : List (FuncId × (Nat → LT))) : Prop := ∀ f lp, (f, lp) ∈ l → ∀ fn c, Γ.P.funcs[f]? = some fn → fn.body = some c → LoopsOk Γ cf (drawF Γ) (fun i => (lp i).lk) fn.ntmps c

section
variable {Γ : Cx} {Inv : World → Prop} {cf : CallF}
theorem runFn_keep1 (hcf : CallSound Γ.P Inv cf) {lp : Nat → LK} {fn : Func} (hlp : ∀ c, fn.body = some c → LoopsOk Γ cf (drawF Γ) lp fn.ntmps c) {args : List AV} {H : List Ob} {r : Res} {H' : List Ob} (hle : args.length ≤ fn.ntmps) (h : runFn Γ cf (drawF Γ) lp fn args H = some (r, H')) :
    KeepD H H' ∧ H.length ≤ H'.length := by
  unfold runFn at h
  split at h
  · rename_i c hb
    cases hr : runC Γ cf (drawF Γ) lp c ⟨frame0 fn args, H⟩ with
    | none => simp [hr, leaveA] at h
    | some es =>
      obtain ⟨e, st⟩ := es
      rw [hr] at h
      obtain ⟨k, l⟩ := runC_keep hcf drawF_keep drawF_len (nt := fn.ntmps) _ c (Nat.le_refl _) (hlp c hb) _ _ _ (by simp [frame0]; omega) hr
      exact leaveA_keep k l h
  · simp at h
theorem callLN_sound (hΓ : Γ.Ok Inv) (hI : Stable Inv) (hm : Γ.P.follows .mixedOrders = true) (hcf : CallSound Γ.P Inv cf) {l : List (FuncId × (Nat → LT))} (hl : LpsOk Γ cf l) : CallSound Γ.P Inv (callLN Γ cf l) := by
  have hk : ∀ f args H r H', (callLN Γ cf l) f args H = some (r, H') → KeepD H H' ∧ H.length ≤ H'.length := by
    intro f args H r H' h
    simp only [callLN] at h
    split at h
    · rename_i lp hlp
      split at h
      · rename_i fn hfn
        split at h
        · rename_i hle
          exact runFn_keep1 hcf (fun c hc => (hl f lp (lookLp_mem hlp) fn c hfn hc)) (by simpa using hle) h
        · simp at h
      · simp at h
    · exact ⟨hcf.keep f args H r H' h, hcf.len f args H r H' h⟩
  refine ⟨fun f args H r H' h => (hk f args H r H' h).1, fun f args H r H' h => (hk f args H r H' h).2, hcf.rlen, ?_, hcf.rkeep, hcf.rnd⟩
  intro f args H r H' h w0 ρ A w vs h0 hmem hv
  simp only [callLN] at h
  split at h
  · rename_i lp hlp
    split at h
    · rename_i fn hfn
      split at h
      · rename_i hle
        cases hb : fn.body with
        | none => simp [runFn, hb] at h
        | some c => exact runFn_sound hΓ hI h0 hcf (drawF_sound hΓ hI hm) drawF_len drawF_keep hfn hb (hl f lp (lookLp_mem hlp) fn c hfn hb) (by simpa using hle) h hmem hv
      · simp at h
    · simp at h
  · exact hcf.fn f args H r H' h w0 ρ A w vs h0 hmem hv
end

def callLK {β : Type} (P : Program) (sp : Sp) (inl : FuncId → Bool) (ext : FuncId → Option (List AV → Option (Bool × AV))) (cK : CallK β) (l : List (FuncId × (Nat → LT))) : CallK β := ⟨fun f args H k => match lookLp l f with
  | some lp => match P.funcs[f]? with
    | some fn => bif Nat.ble args.length fn.ntmps then evFnT P sp inl ext cK lp fn args H k else .non
    | none => .non
  | none => cK f args H k, cK.rnd⟩
theorem callLK_eq {β : Type} (P : Program) (sp : Sp) (inl : FuncId → Bool) (ext : FuncId → Option (List AV → Option (Bool × AV))) {cK : CallK β} {cf : CallF} (h : CallEq cK cf) (l : List (FuncId × (Nat → LT))) : CallEq (callLK P sp inl ext cK l) (callLN (mkCx P sp inl ext) cf l) := by
  refine ⟨fun f args H k => ?_, h.rnd⟩
  simp only [callLK, callLN]
  cases lookLp l f with
  | none => exact h.fn f args H k
  | some lp =>
    simp only
    show _ = Option.bind (match P.funcs[f]? with | some fn => _ | none => _) _
    cases P.funcs[f]? with
    | none => rfl
    | some fn =>
      simp only
      cases Nat.ble args.length fn.ntmps with
      | false => rfl
      | true => exact evFnT_eq P sp inl ext _ h _ fn args H k
end Go.Evl

/- Calls by contracts that leave new objects: ids moved up; a layer of such contracts. Conditions: the contracts hold. -/
namespace Go.Evl
open Go.RowKit

/-! ids moved up -/
mutual
def shV (m : Nat) : AV → AV
  | .ptr id off => .ptr (m + id) off
  | .map id => .map (m + id)
  | .yld id => .yld (m + id)
  | .agg cs => .agg (shVs m cs)
  | .tup cs => .tup (shVs m cs)
  | .fn f cs => .fn f (shVs m cs)
  | .iface t v => .iface t (shV m v)
  | .own id key ver => .own (m + id) key ver
  | .opt id key ver idx k off => .opt (m + id) key ver idx k off
  | v => v
def shVs (m : Nat) : List AV → List AV
  | [] => []
  | c :: cs => shV m c :: shVs m cs
end
theorem shVs_length (m : Nat) : ∀ cs : List AV, (shVs m cs).length = cs.length
  | [] => rfl
  | c :: cs => by simp [shVs, shVs_length m cs]
theorem shVs_get (m : Nat) : ∀ (cs : List AV) (i : Nat) (h : i < cs.length) (h' : i < (shVs m cs).length), (shVs m cs)[i] = shV m cs[i]
  | c :: cs, 0, _, _ => rfl
  | c :: cs, i + 1, h, h' => by
    simp only [shVs, List.getElem_cons_succ]
    exact shVs_get m cs i (by simpa using h) (by simpa [shVs] using h')
theorem shVs_map {α : Type} (m : Nat) (f : α → AV) : ∀ l : List α, shVs m (l.map f) = l.map fun a => shV m (f a)
  | [] => rfl
  | a :: l => by simp [shVs, shVs_map m f l]
section
variable {ρ ρ' : Nm} {A : Nat → Prop} {w : World} {m : Nat}
theorem Rv.shift {n : Nat → Prop} {a : AV} {v : Value} (h : Rv ρ A w n a v) : ∀ {n' : Nat → Prop}, (∀ id, n id → n' (m + id) ∧ ρ' (m + id) = ρ id ∧ ∀ k, ρ'.v (m + id) k = ρ.v id k) → Rv ρ' A w n' (shV m a) v := by
  induction h with
  | junk => intros; exact .junk
  | bool => intros; exact .bool
  | int => intros; exact .int
  | str => intros; exact .str
  | raw => intros; exact .raw
  | agg hl _ ih =>
    intro n' hn
    exact .agg (by rw [shVs_length]; exact hl) fun i hc hv => by rw [shVs_get _ _ _ (by rw [shVs_length] at hc; exact hc)]; exact ih i (by rw [shVs_length] at hc; exact hc) hv hn
  | tup hl _ ih =>
    intro n' hn
    exact .tup (by rw [shVs_length]; exact hl) fun i hc hv => by rw [shVs_get _ _ _ (by rw [shVs_length] at hc; exact hc)]; exact ih i (by rw [shVs_length] at hc; exact hc) hv hn
  | ptr h => intro n' hn; rw [← (hn _ h).2.1]; exact .ptr (hn _ h).1
  | ipt us hb hc hr _ => intro n' hn; exact .ipt us hb hc fun j hj => (hr j hj).mono (fun _ h => h) (Nle.none _ _ fun _ h => h) (fun _ h => h) (fun _ _ => rfl)
  | isl0 => intros; exact .isl0
  | isl us hb hk hc hr hcap _ => intro n' hn; exact .isl us hb hk hc (fun i hi j hj => (hr i hi j hj).mono (fun _ h => h) (Nle.none _ _ fun _ h => h) (fun _ h => h) (fun _ _ => rfl)) hcap
  | isz h ih => intro n' hn; exact .isz (ih hn)
  | ful h hc ih => intro n' hn; exact .ful (ih hn) hc
  | fn hl _ ih =>
    intro n' hn
    exact .fn (by rw [shVs_length]; exact hl) fun i hc hv => by rw [shVs_get _ _ _ (by rw [shVs_length] at hc; exact hc)]; exact ih i (by rw [shVs_length] at hc; exact hc) hv hn
  | iface _ ih => intro n' hn; exact .iface (ih hn)
  | map h => intro n' hn; rw [← (hn _ h).2.1]; exact .map (hn _ h).1
  | yld h => intro n' hn; rw [← (hn _ h).2.1]; exact .yld (hn _ h).1
  | nsl => intros; exact .nsl
  | own h hle ho hv =>
    intro n' hn
    obtain ⟨h1, _, h3⟩ := hn _ h
    exact .own h1 (by rw [h3]; exact hle) ho (by rw [h3]; exact hv)
  | opt h hle ho hv =>
    intro n' hn
    obtain ⟨h1, _, h3⟩ := hn _ h
    exact .opt h1 (by rw [h3]; exact hle) ho (by rw [h3]; exact hv)
theorem Rvs.shift {n n' : Nat → Prop} {cs : List AV} {vs : List Value} (h : Rvs ρ A w n cs vs) (hn : ∀ id, n id → n' (m + id) ∧ ρ' (m + id) = ρ id ∧ ∀ k, ρ'.v (m + id) k = ρ.v id k) : Rvs ρ' A w n' (shVs m cs) vs :=
  ⟨by rw [shVs_length]; exact h.1, fun i hc hv => by
    rw [shVs_get _ _ _ (by rw [shVs_length] at hc; exact hc)]
    exact (h.2 i (by rw [shVs_length] at hc; exact hc) hv).shift hn⟩
/-- objects that can be moved -/
def shOb (m : Nat) : Ob → Option Ob
  | .free => some .free
  | .own t sh len el => some (.own t sh len el)
  | .frz t sh len el => some (.frz t sh len el)
  | .cells cs t => some (.cells (shVs m cs) t)
  | .rows t sh f => some (.rows t sh f)
  | .mapF dk cnt mf => some (.mapF dk cnt (match mf with | .dat s f => .dat s f | .own rid f => .own (m + rid) f))
  | _ => none
def shObs (m : Nat) : List Ob → Option (List Ob)
  | [] => some []
  | o :: os => match shOb m o, shObs m os with
    | some o', some os' => some (o' :: os')
    | _, _ => none
theorem shObs_get : ∀ {l l' : List Ob}, shObs m l = some l' → l'.length = l.length ∧ ∀ i : Nat, (∀ o, l[i]? = some o → ∃ o', shOb m o = some o' ∧ l'[i]? = some o') ∧ (∀ o', l'[i]? = some o' → ∃ o, shOb m o = some o' ∧ l[i]? = some o)
  | [], l', h => by
    simp only [shObs, Option.some.injEq] at h
    subst h
    exact ⟨rfl, fun i => ⟨fun o ho => by simp at ho, fun o ho => by simp at ho⟩⟩
  | o :: os, l', h => by
    simp only [shObs] at h
    split at h
    · rename_i o' os' h1 h2
      simp only [Option.some.injEq] at h
      subst h
      obtain ⟨e1, e2⟩ := shObs_get h2
      refine ⟨by simp [e1], fun i => ?_⟩
      cases i with
      | zero =>
        refine ⟨fun q hq => ?_, fun q hq => ?_⟩
        · simp only [List.getElem?_cons_zero, Option.some.injEq] at hq
          subst hq
          exact ⟨o', h1, rfl⟩
        · simp only [List.getElem?_cons_zero, Option.some.injEq] at hq
          subst hq
          exact ⟨o, h1, rfl⟩
      | succ i => simpa using e2 i
    · simp at h
theorem shOb_live {o o' : Ob} (h : shOb m o = some o') : o'.live = o.live := by
  cases o <;> simp [shOb] at h <;> subst h <;> rfl
theorem shOb_noD {o o' : Ob} (h : shOb m o = some o') : o' ≠ .dfr := by
  cases o <;> simp [shOb] at h <;> subst h <;> simp
theorem shOb_blk {o o' : Ob} {id : Nat} (h : shOb m o = some o') (h1 : ρ' (m + id) = ρ id) (h2 : ∀ k, ρ'.v (m + id) k = ρ.v id k) (b : Nat) : blk ρ' (m + id) o' b ↔ blk ρ id o b := by
  cases o <;> simp [shOb] at h <;> subst h <;> simp [blk, h1, h2]
theorem ownsRow_base {w : World} {base base' : Nat} {t : TypeId} {k : Nat} {v : Value} {len : Nat} {xs : List Value} (h : w.ownsRow base t k v len xs) (hb : base' ≤ base) : w.ownsRow base' t k v len xs := by
  refine ⟨h.1, h.2.imp id ?_⟩
  rintro ⟨g, cap, cur, rfl, h1, h2, h3⟩
  exact ⟨g, cap, cur, rfl, Nat.le_trans hb h1, h2, h3⟩
theorem ORel.shift {n n' : Nat → Prop} {base base' id : Nat} {o o' : Ob} (ho : shOb m o = some o') (h : ORel ρ A w n base id o) (hb : base' ≤ base) (h1 : ρ' (m + id) = ρ id) (h2 : ∀ k, ρ'.v (m + id) k = ρ.v id k)
    (hn : ∀ id, n id → n' (m + id) ∧ ρ' (m + id) = ρ id ∧ ∀ k, ρ'.v (m + id) k = ρ.v id k) : ORel ρ' A w n' base' (m + id) o' := by
  cases o <;> simp only [shOb, Option.some.injEq, reduceCtorEq] at ho
  · subst ho; trivial
  · subst ho
    obtain ⟨e1, e2, x, e3, vs, e4, e5⟩ := h
    exact ⟨by rw [h1]; exact Nat.le_trans hb e1, by rw [h1]; exact e2, x, by rw [h1]; exact e3, vs, e4, e5.shift hn⟩
  · subst ho
    obtain ⟨e1, e2, xs, e3, e4⟩ := h
    refine ⟨by rw [h2]; exact e1, by rw [h2]; exact e2, xs, by rw [h2]; exact ownsRow_base e3 hb, fun i hi j hj => ?_⟩
    obtain ⟨u, hu, hr⟩ := e4 i hi j hj
    exact ⟨u, hu, hr.mono (fun _ h => h) (Nle.none _ _ fun _ h => h) (fun _ h => h) (fun _ _ => rfl)⟩
  · subst ho
    obtain ⟨e1, e2, e3⟩ := h
    exact ⟨by rw [h2]; exact e1, by rw [h2]; exact e2, by rw [h2]; exact e3.mono (fun _ h => h) (Nle.none _ _ fun _ h => h) (fun _ h => h) (fun _ _ => rfl)⟩
  · subst ho
    obtain ⟨e1, e2, x, e3, ents, clock, e4, e5, e6, e7, e8⟩ := h
    refine ⟨by rw [h1]; exact Nat.le_trans hb e1, by rw [h1]; exact e2, x, by rw [h1]; exact e3, ents, clock, e4, e5, ?_, e7, fun key kv hk => ?_⟩
    · rename_i mf
      cases mf with
      | dat s f => trivial
      | own rid f =>
        obtain ⟨g1, _, g3⟩ := hn _ e6.1
        exact ⟨g1, fun key hz => by rw [g3] at hz ⊢; exact e6.2 key hz⟩
    · obtain ⟨r, hr, he⟩ := e8 key kv hk
      refine ⟨r, hr, ?_⟩
      rename_i mf
      cases mf with
      | dat s f =>
        refine he.imp fun a v ha hv => ?_
        obtain ⟨d, _, rfl⟩ := Option.map_eq_some_iff.1 ha
        exact ((hv.bnd0 (toAV_bnd s d)).mono (fun _ h => h.elim) (Nle.none _ _ fun _ h => h) (fun _ h => h) (fun _ _ => rfl))
      | own rid f =>
        simp only [MF.at] at he ⊢
        cases hf : f key with
        | none =>
          rw [hf] at he
          cases r with
          | none => trivial
          | some p => exact he.elim
        | some ver =>
          rw [hf] at he
          cases r with
          | none => exact he.elim
          | some p => exact Rv.shift (show Rv ρ A w n (.own rid key ver) p.2 from he) hn
  · subst ho
    obtain ⟨e1, e2⟩ := h
    refine ⟨fun key => ?_, fun k1 k2 b g1 g2 => e2 k1 k2 b (by rw [← h2]; exact g1) (by rw [← h2]; exact g2)⟩
    obtain ⟨g1, ⟨g2, xs, g3, g4⟩, g5⟩ := e1 key
    refine ⟨by rw [h2]; exact g1, ⟨by rw [h2]; exact g2, xs, by rw [h2]; exact ownsRow_base g3 hb, fun i hi j hj => ?_⟩, by rw [h2]; exact g5⟩
    obtain ⟨u, hu, hr⟩ := g4 i hi j hj
    exact ⟨u, hu, hr.mono (fun _ h => h) (Nle.none _ _ fun _ h => h) (fun _ h => h) (fun _ _ => rfl)⟩
end

/-- what a call that leaves new objects says -/
def FrsAt (P : Program) (Inv : World → Prop) (f : FuncId) (args : List AV) (v : AV) (obs : List Ob) : Prop :=
  ∀ ρ A w vs, (∀ b, A b → b < w.heap.size) → Inv w → Rvs ρ A w None_ args vs →
    Calls P f vs.toArray w fun e w' => ∃ ρ' A' u, Mem w ρ' A' w' obs ∧ (∀ b, A b → A' b) ∧ (∀ b, A' b → A b ∨ w.heap.size ≤ b) ∧ e = .returned u ∧ Rv ρ' A' w' (Live obs) v u
def FrsHolds (P : Program) (Inv : World → Prop) (f : FuncId) (s : List AV → Option (AV × List Ob)) : Prop :=
  ∀ args v obs, s args = some (v, obs) → FrsAt P Inv f args v obs

abbrev HEnt := FuncId × (List AV → Tr (AV × List Ob))
def lookH (l : List HEnt) (f : FuncId) : Option (List AV → Tr (AV × List Ob)) := match l.find? (fun p => Nat.beq p.1 f) with
  | some p => some p.2
  | none => none
theorem lookH_mem {l : List HEnt} {f : FuncId} {s : List AV → Tr (AV × List Ob)} (h : lookH l f = some s) : (f, s) ∈ l := by
  unfold lookH at h
  split at h
  · rename_i p hp
    simp only [Option.some.injEq] at h
    have h1 := List.find?_some hp
    have h2 := List.mem_of_find?_eq_some hp
    obtain ⟨a, b⟩ := p
    simp only [Nat.beq_eq] at h1
    simp only at h
    subst h1 h
    exact h2
  · simp at h
def frsEnd (H : List Ob) (q : AV × List Ob) : Option (Res × List Ob) := match shObs H.length q.2 with
  | some obs => some (.ret (shV H.length q.1), H ++ obs)
  | none => none
def callHN (cf : CallF) (l : List HEnt) : CallF := ⟨fun f args H => match lookH l f with
  | some s => if bnds 0 args then (s args).run.bind (frsEnd H) else none
  | none => cf f args H, cf.rnd⟩
def callHK {β : Type} (cK : CallK β) (l : List HEnt) : CallK β := ⟨fun f args H k => match lookH l f with
  | some s => bif bnds 0 args then (s args).fold fun q => match frsEnd H q with
    | some (r, H') => k r H'
    | none => .non
    else .non
  | none => cK f args H k, cK.rnd⟩
theorem callHK_eq {β : Type} {cK : CallK β} {cf : CallF} (h : CallEq cK cf) (l : List HEnt) : CallEq (callHK cK l) (callHN cf l) := by
  refine ⟨fun f args H k => ?_, h.rnd⟩
  simp only [callHK, callHN]
  cases lookH l f with
  | none => exact h.fn f args H k
  | some s =>
    simp only
    cases bnds 0 args with
    | false => rfl
    | true =>
      simp only [cond_true, if_true, Tr.fold_eq, Option.bind_assoc]
      congr 1
      funext q
      cases hq : frsEnd H q with
      | none => rfl
      | some p => rfl
section
variable {P : Program} {Inv : World → Prop} {cf : CallF}
theorem frs_step {w0 w w' : World} {ρ ρ1 : Nm} {A A1 : Nat → Prop} {H obs obs' : List Ob} (hm : Mem w0 ρ A w H) (h1 : Mem w ρ1 A1 w' obs) (hA : ∀ b, A b → A1 b) (hl : ∀ b, A1 b → A b ∨ w.heap.size ≤ b) (hs : shObs H.length obs = some obs') {v : AV} {u : Value}
    (hv : Rv ρ1 A1 w' (Live obs) v u) :
    ∃ ρ', Mem w0 ρ' A1 w' (H ++ obs') ∧ Ext (Live H) ρ A w (Live (H ++ obs')) ρ' A1 w' ∧ Rv ρ' A1 w' (Live (H ++ obs')) (shV H.length v) u := by
  let ρ' : Nm := ⟨fun i => if i < H.length then ρ i else ρ1 (i - H.length), fun i k => if i < H.length then ρ.v i k else ρ1.v (i - H.length) k, ρ.base⟩
  have ho : ∀ i, i < H.length → ρ' i = ρ i ∧ ∀ k, ρ'.v i k = ρ.v i k := fun i hi => ⟨if_pos hi, fun k => if_pos hi⟩
  have hn : ∀ i, ρ' (H.length + i) = ρ1 i ∧ ∀ k, ρ'.v (H.length + i) k = ρ1.v i k := fun i =>
    ⟨(if_neg (by omega)).trans (by rw [Nat.add_sub_cancel_left]), fun k => (if_neg (by omega)).trans (by rw [Nat.add_sub_cancel_left])⟩
  obtain ⟨hlen, hget⟩ := shObs_get hs
  have hlt : ∀ i, Live H i → i < H.length := fun i ⟨o, ho, _⟩ => (List.getElem?_eq_some_iff.1 ho).1
  have hlive : ∀ i, Live H i → Live (H ++ obs') i := fun i hi => by
    obtain ⟨o, ho, hl⟩ := hi
    exact ⟨o, by rw [List.getElem?_append_left (List.getElem?_eq_some_iff.1 ho).1]; exact ho, hl⟩
  have hliven : ∀ i, Live obs i → Live (H ++ obs') (H.length + i) := fun i ⟨o, ho, hlo⟩ => by
    obtain ⟨o', e1, e2⟩ := (hget i).1 o ho
    exact ⟨o', by rw [List.getElem?_append_right (by omega), Nat.add_sub_cancel_left]; exact e2, by rw [shOb_live e1]; exact hlo⟩
  have hnew : ∀ id, Live obs id → Live (H ++ obs') (H.length + id) ∧ ρ' (H.length + id) = ρ1 id ∧ ∀ k, ρ'.v (H.length + id) k = ρ1.v id k := fun id hid => ⟨hliven id hid, hn id⟩
  have hnle : Nle (Live H) ρ ρ' := fun i hi => ⟨(ho i (hlt i hi)).1, fun k => by rw [(ho i (hlt i hi)).2 k]; exact Vle.refl _⟩
  have hkeep : ∀ b, A b → w'.heap[b]? = w.heap[b]? := fun b hb => h1.bel.block b (hm.lt b hb)
  refine ⟨ρ', ⟨⟨fun id o hi => ?_, fun i j o p b hi hj hb hc => ?_⟩, hm.bel.trans (h1.bel.mono hm.bel.size), h1.lt, hm.bs⟩, ⟨hlive, hnle, hA, hkeep, fun b hb => (hl b hb).imp (fun x => x) (fun x => ?_), h1.bel.size, rfl⟩, hv.shift hnew⟩
  · by_cases hi' : id < H.length
    · rw [List.getElem?_append_left hi'] at hi
      have hr := hm.hp.obj id o hi
      refine hr.keep (live_of hi) hlive hnle (fun _ => (ho id hi').2) hA hkeep (fun b hb => ?_)
      have hb' := hr.blk hb
      exact ⟨h1.bel.block b hb'.2.1, fun z => (hl b z).elim (fun x => x) (fun x => by omega)⟩
    · obtain ⟨k, rfl⟩ : ∃ k, id = H.length + k := ⟨id - H.length, by omega⟩
      rw [List.getElem?_append_right (by omega), Nat.add_sub_cancel_left] at hi
      obtain ⟨o1, e1, e2⟩ := (hget k).2 o hi
      exact (h1.hp.obj k o1 e2).shift e1 hm.bel.size (hn k).1 (hn k).2 hnew
  · have hblk : ∀ i o, (H ++ obs')[i]? = some o → blk ρ' i o b → (i < H.length ∧ H[i]? = some o ∧ blk ρ i o b) ∨ (∃ k o1, i = H.length + k ∧ obs[k]? = some o1 ∧ blk ρ1 k o1 b) := fun i o hi hb => by
      by_cases hi' : i < H.length
      · rw [List.getElem?_append_left hi'] at hi
        rw [blk_congr (ho i hi').1 (ho i hi').2] at hb
        exact .inl ⟨hi', hi, hb⟩
      · obtain ⟨k, rfl⟩ : ∃ k, i = H.length + k := ⟨i - H.length, by omega⟩
        rw [List.getElem?_append_right (by omega), Nat.add_sub_cancel_left] at hi
        obtain ⟨o1, e1, e2⟩ := (hget k).2 o hi
        exact .inr ⟨k, o1, rfl, e2, (shOb_blk e1 (hn k).1 (hn k).2 b).1 hb⟩
    rcases hblk i o hi hb with ⟨x1, x2, x3⟩ | ⟨k, o1, rfl, x2, x3⟩ <;> rcases hblk j p hj hc with ⟨y1, y2, y3⟩ | ⟨l, p1, rfl, y2, y3⟩
    · exact hm.hp.inj i j o p b x2 y2 x3 y3
    · have := ((hm.hp.obj i o x2).blk x3).2.1
      have := ((h1.hp.obj l p1 y2).blk y3).1
      omega
    · have := ((hm.hp.obj j p y2).blk y3).2.1
      have := ((h1.hp.obj k o1 x2).blk x3).1
      omega
    · rw [h1.hp.inj k l o1 p1 b x2 y2 x3 y3]
  · rw [hm.bs]
    exact Nat.le_trans hm.bel.size x
theorem callHN_sound (hcf : CallSound P Inv cf) (hI : Stable Inv) {l : List HEnt} (hl : ∀ f s, (f, s) ∈ l → FrsHolds P Inv f fun a => (s a).run) : CallSound P Inv (callHN cf l) := by
  have hkey : ∀ s args H r H', (if bnds 0 args then ((s : List AV → Tr (AV × List Ob)) args).run.bind (frsEnd H) else none) = some (r, H') → bnds 0 args = true ∧ ∃ v obs obs', (s args).run = some (v, obs) ∧ shObs H.length obs = some obs' ∧ r = .ret (shV H.length v) ∧ H' = H ++ obs' := by
    intro s args H r H' h
    split at h
    · rename_i hb
      obtain ⟨⟨v, obs⟩, h1, h2⟩ := Option.bind_eq_some_iff.1 h
      simp only [frsEnd] at h2
      split at h2
      · rename_i obs' h3
        simp only [Option.some.injEq, Prod.mk.injEq] at h2
        exact ⟨hb, v, obs, obs', h1, h3, h2.1.symm, h2.2.symm⟩
      · simp at h2
    · simp at h
  have hk : ∀ f args H r H', (callHN cf l) f args H = some (r, H') → KeepD H H' ∧ H.length ≤ H'.length := by
    intro f args H r H' h
    simp only [callHN] at h
    split at h
    · obtain ⟨_, v, obs, obs', _, _, _, rfl⟩ := hkey _ _ _ _ _ h
      exact ⟨fun id hid => by rw [List.getElem?_append_left (List.getElem?_eq_some_iff.1 hid).1]; exact hid, by simp⟩
    · exact ⟨hcf.keep f args H r H' h, hcf.len f args H r H' h⟩
  refine ⟨fun f args H r H' h => (hk f args H r H' h).1, fun f args H r H' h => (hk f args H r H' h).2, hcf.rlen, ?_, hcf.rkeep, hcf.rnd⟩
  intro f args H r H' h w0 ρ A w vs h0 hmem hv
  simp only [callHN] at h
  split at h
  · rename_i s hs
    obtain ⟨hb, v, obs, obs', h1, h2, rfl, rfl⟩ := hkey _ _ _ _ _ h
    refine (hl f s (lookH_mem hs) args v obs h1 ρ A w vs hmem.lt (hI _ _ h0 hmem.bel) (hv.bnd0 hb)).mono ?_
    rintro e w' ⟨ρ1, A1, u, m1, hA, hA', rfl, hu⟩
    obtain ⟨ρ', r1, r2, r3⟩ := frs_step hmem m1 hA hA' h2 hu
    exact ⟨ρ', A1, r1, r2, u, rfl, r3⟩
  · exact hcf.fn f args H r H' h w0 ρ A w vs h0 hmem hv
end
section
variable (P : Program) (sp : Sp) (inl : FuncId → Bool) (ext : FuncId → Option (List AV → Option (Bool × AV))) (cK : {β : Type} → CallK β) {cf : CallF}
/-- such a call out of a run -/
theorem frsAt_of_ev (hcf : ∀ {β : Type}, CallEq (β := β) cK cf) {Inv : World → Prop} (hΓ : (mkCx P sp inl ext).Ok Inv) (hI : Stable Inv) (hm : P.follows .mixedOrders = true) (hcs : CallSound P Inv cf) {f : FuncId} {fn : Func} (hfn : P.funcs[f]? = some fn) {c : Code} (hb : fn.body = some c)
    (lp : Nat → LT) (hlp : ∀ p ∈ loops c, LoopOkT P sp inl ext cK lp fn.ntmps p.2 (lp p.1)) {args : List AV} {v : AV} {obs : List Ob}
    (h1 : Nat.ble args.length fn.ntmps = true) (h3 : evFn (β := Res × List Ob) P sp inl ext cK lp fn args [] (fun r H => some (r, H)) = some (.ret v, obs)) : FrsAt P Inv f args v obs := by
  intro ρ A w vs hA hi hv
  rw [evFn_eq P sp inl ext cK hcf] at h3
  obtain ⟨⟨r', H'⟩, hrun, hk⟩ := Option.bind_eq_some_iff.1 h3
  simp only [Option.some.injEq, Prod.mk.injEq] at hk
  obtain ⟨rfl, rfl⟩ := hk
  have hm0 : Mem w { ρ with base := w.heap.size } A w [] := ⟨⟨fun id o ho => by simp at ho, fun i j o p b hi => by simp at hi⟩, Below.refl _ _, hA, rfl⟩
  refine (runFn_sound (Γ := mkCx P sp inl ext) hΓ hI hi hcs (drawF_sound hΓ hI hm) drawF_len drawF_keep hfn hb (loopsOk_of P sp inl ext cK hcf hlp) (by simpa using h1) hrun hm0 (hv.mono (fun _ h => h.elim) (Nle.none _ _ fun _ h => h) (fun _ h => h) (fun _ _ => rfl))).mono ?_
  rintro e w' ⟨ρ', A', hm', hext, u, rfl, hu⟩
  exact ⟨ρ', A', u, hm', hext.imm, hext.late, rfl, hu⟩
end
section
variable {P : Program} {Inv : World → Prop}
/-- a row without elements reads as any -/
theorem own_zero {w0 w : World} {ρ : Nm} {A : Nat → Prop} {t : TypeId} {sh : List Sh} {el el' : Nat → Nat → Dt} (h : Mem w0 ρ A w [.own t sh 0 el]) : Mem w0 ρ A w [.own t sh 0 el'] := by
  have hlive : ∀ i, Live [Ob.own t sh 0 el] i ↔ Live [Ob.own t sh 0 el'] i := fun i => by
    cases i with
    | zero => exact ⟨fun _ => ⟨_, rfl, rfl⟩, fun _ => ⟨_, rfl, rfl⟩⟩
    | succ i => exact ⟨fun ⟨o, ho, _⟩ => by simp at ho, fun ⟨o, ho, _⟩ => by simp at ho⟩
  refine ⟨⟨fun id o ho => ?_, fun i j o p b hi hj _ _ => ?_⟩, h.bel, h.lt, h.bs⟩
  · cases id with
    | zero =>
      simp only [List.getElem?_cons_zero, Option.some.injEq] at ho
      subst ho
      obtain ⟨h1, h2, xs, h3, _⟩ := h.own (id := 0) rfl
      exact ⟨h1, h2, xs, h3, fun i hi => by omega⟩
    | succ id => simp at ho
  · cases i with
    | zero => cases j with
      | zero => rfl
      | succ j => simp at hj
    | succ i => simp at hi
/-- a copy of a row: out of runs at nil, at a row without elements, at others -/
theorem frs_clone {f : FuncId} {t : TypeId} {sh : List Sh} (ha : ∀ cap, FrsAt P Inv f [.raw (.slice none 0 cap)] .nsl []) (hb : ∀ a cap, FrsAt P Inv f [.raw (.slice (some a) 0 cap)] (.own 0 k0 0) [.own t sh 0 zeroEl])
    (hc : ∀ n x, 0 < n → n ≤ 1000000 → FrsAt P Inv f [.isz n sh x] (.own 0 k0 n) [.own t sh n x]) (n : Nat) (x : Nat → Nat → Dt) (hn : n ≤ 1000000) : FrsAt P Inv f [.isz n sh x] (.own 0 k0 n) [.own t sh n x] := by
  rcases Nat.eq_zero_or_pos n with h0 | h0
  · subst h0
    intro ρ A w vs hA hi hv
    obtain ⟨u, us, rfl, hu, hus⟩ := hv.cons_inv
    obtain rfl := hus.nil_inv
    have hz : ∃ a cap, u = .slice a 0 cap := by
      cases hu with
      | isz h => cases h with
        | isl0 => exact ⟨_, _, rfl⟩
        | isl => exact ⟨_, _, rfl⟩
    obtain ⟨a, cap, rfl⟩ := hz
    cases a with
    | none =>
      refine (ha cap ρ A w _ hA hi (.cons .raw .nil)).mono ?_
      rintro e w' ⟨ρ', A', u, h1, h2, h3, rfl, h4⟩
      obtain ⟨ρ2, m1, x1, r1⟩ := nilA'_sound h1 (t := t) (sh := sh) (v := .nsl) rfl
      refine ⟨ρ2, A', u, own_zero m1, h2, h3, rfl, ?_⟩
      have := r1 h4
      refine this.mono (fun i ⟨o, ho, _⟩ => ?_) (Nle.refl _ _) (fun _ h => h) (fun _ _ => rfl)
      cases i with
      | zero => exact ⟨.own t sh 0 x, rfl, rfl⟩
      | succ i => simp at ho
    | some a =>
      refine (hb a cap ρ A w _ hA hi (.cons .raw .nil)).mono ?_
      rintro e w' ⟨ρ', A', u, h1, h2, h3, rfl, h4⟩
      refine ⟨ρ', A', u, own_zero h1, h2, h3, rfl, h4.mono (fun i ⟨o, ho, _⟩ => ?_) (Nle.refl _ _) (fun _ h => h) (fun _ _ => rfl)⟩
      cases i with
      | zero => exact ⟨.own t sh 0 x, rfl, rfl⟩
      | succ i => simp at ho
  · exact hc n x h0 hn
/-- a new row handed out as one that is immutable -/
theorem spec_of_frs {f : FuncId} {t : TypeId} {sh : List Sh} {s : List AV → Option (Nat × (Nat → Nat → Dt))} (h : ∀ args n x, s args = some (n, x) → FrsAt P Inv f args (.own 0 k0 n) [.own t sh n x]) :
    SpecHolds P Inv f fun a => (s a).map fun q => .ret (.isz q.1 sh q.2) := by
  intro args r hr ρ A w vs hA hi hv
  obtain ⟨⟨n, x⟩, hs, rfl⟩ := Option.map_eq_some_iff.1 hr
  refine (h args n x hs ρ A w vs hA hi hv).mono ?_
  rintro e w' ⟨ρ', A', u, hm', h2, h3, rfl, h4⟩
  refine ⟨hm'.bel, u, rfl, (hm'.thaw (id := 0) rfl h4).mono (fun _ h => h) (Nle.none _ _ fun _ h => h) (fun b hb => ?_) (fun _ _ => rfl)⟩
  rcases hb with hb | ⟨hb1, hb2⟩
  · exact (h3 b hb).imp id (fun hl => ⟨hl, hm'.lt b hb⟩)
  · exact .inr ⟨by rw [hm'.bs] at hb1; exact hb1, hb2⟩
end
end Go.Evl

/- Codes told apart. No condition. -/
namespace Go.Evl
open Go.RowKit

def eqV : Value → Value → Bool
  | .int k a, .int k' b => decide (k = k') && decide (a = b)
  | .bool a, .bool b => a == b
  | _, _ => false
def eqO : Operand → Operand → Bool
  | .tmp a, .tmp b => Nat.beq a b
  | .const a, .const b => eqV a b
  | .global a, .global b => Nat.beq a b
  | .func a, .func b => Nat.beq a b
  | _, _ => false
def eqL {α : Type} (f : α → α → Bool) : List α → List α → Bool
  | [], [] => true
  | a :: as1, b :: bs => f a b && eqL f as1 bs
  | _, _ => false
def eqCl (a b : Call) : Bool := (match a.callee, b.callee with
  | .value x, .value y => eqO x y
  | _, _ => false) && (eqL eqO a.args.toList b.args.toList && eqL Nat.beq a.argTypes.toList b.argTypes.toList)
def eqOp : Op → Op → Bool
  | .move x, .move y => eqO x y
  | .assign x, .assign y => eqO x y
  | .pick c a b, .pick c' a' b' => eqO c c' && (eqO a a' && eqO b b')
  | .alloc t, .alloc t' => Nat.beq t t'
  | .box t x, .box t' x' => Nat.beq t t' && eqO x x'
  | .load t x, .load t' x' => Nat.beq t t' && eqO x x'
  | .store t x y, .store t' x' y' => Nat.beq t t' && (eqO x x' && eqO y y')
  | .binOp o t x y u, .binOp o' t' x' y' u' => decide (o = o') && (Nat.beq t t' && (eqO x x' && (eqO y y' && Nat.beq u u')))
  | .unOp o t x, .unOp o' t' x' => decide (o = o') && (Nat.beq t t' && eqO x x')
  | .convert s t x, .convert s' t' x' => Nat.beq s s' && (Nat.beq t t' && eqO x x')
  | .fieldAddr t x f, .fieldAddr t' x' f' => Nat.beq t t' && (eqO x x' && Nat.beq f f')
  | .field t x f, .field t' x' f' => Nat.beq t t' && (eqO x x' && Nat.beq f f')
  | .extract x i, .extract x' i' => eqO x x' && Nat.beq i i'
  | .call c, .call c' => eqCl c c'
  | _, _ => false
def eqOt : Option Tmp → Option Tmp → Bool
  | none, none => true
  | some a, some b => Nat.beq a b
  | _, _ => false
def eqG : Option (Nat × Bool) → Option (Nat × Bool) → Bool
  | none, none => true
  | some a, some b => Nat.beq a.1 b.1 && (a.2 == b.2)
  | _, _ => false
def eqEd (a b : Edge) : Bool := Nat.beq a.on b.on && decide (a.ground = b.ground)
def eqOper (a b : Oper) : Bool := eqOt a.dst b.dst && (eqOp a.op b.op && (Nat.beq a.type b.type && (decide (a.pos = b.pos) && (eqL eqEd a.after.toList b.after.toList && eqG a.guard b.guard))))
def eqC : Code → Code → Bool
  | .skip, .skip => true
  | .region i ops d, .region i' ops' d' => Nat.beq i i' && (eqL eqOper ops.toList ops'.toList && (d == d'))
  | .seq a b, .seq a' b' => eqC a a' && eqC b b'
  | .cond c a b, .cond c' a' b' => eqO c c' && (eqC a a' && eqC b b')
  | .block i a, .block i' a' => Nat.beq i i' && eqC a a'
  | .loop a, .loop a' => eqC a a'
  | .exit i, .exit i' => Nat.beq i i'
  | .ret, .ret => true
  | _, _ => false

theorem eqV_eq {a b : Value} (h : eqV a b = true) : a = b := by
  unfold eqV at h
  split at h
  · simp only [Bool.and_eq_true, decide_eq_true_eq] at h
    rw [h.1, h.2]
  · simp only [beq_iff_eq] at h; rw [h]
  · simp at h
theorem eqO_eq {a b : Operand} (h : eqO a b = true) : a = b := by
  unfold eqO at h
  split at h
  · rw [Nat.eq_of_beq_eq_true h]
  · rw [eqV_eq h]
  · rw [Nat.eq_of_beq_eq_true h]
  · rw [Nat.eq_of_beq_eq_true h]
  · simp at h
theorem eqL_eq {α : Type} {f : α → α → Bool} (hf : ∀ a b, f a b = true → a = b) : ∀ {l m : List α}, eqL f l m = true → l = m := by
  intro l
  induction l with
  | nil => intro m h; cases m with
    | nil => rfl
    | cons => simp [eqL] at h
  | cons a l ih => intro m h; cases m with
    | nil => simp [eqL] at h
    | cons b m =>
      simp only [eqL, Bool.and_eq_true] at h
      rw [hf a b h.1, ih h.2]
theorem eqA_eq {α : Type} {f : α → α → Bool} (hf : ∀ a b, f a b = true → a = b) {l m : Array α} (h : eqL f l.toList m.toList = true) : l = m := Array.toList_inj.1 (eqL_eq hf h)
theorem beqN {a b : Nat} (h : Nat.beq a b = true) : a = b := Nat.eq_of_beq_eq_true h
theorem eqCl_eq {a b : Call} (h : eqCl a b = true) : a = b := by
  obtain ⟨c, as1, ts⟩ := a
  obtain ⟨c', as', ts'⟩ := b
  simp only [eqCl, Bool.and_eq_true] at h
  obtain ⟨h1, h2, h3⟩ := h
  rw [eqA_eq (fun _ _ => eqO_eq) h2, eqA_eq (fun _ _ => beqN) h3]
  split at h1
  · rw [eqO_eq h1]
  · simp at h1
theorem eqOp_eq {a b : Op} (h : eqOp a b = true) : a = b := by
  unfold eqOp at h
  split at h <;> try simp only [Bool.and_eq_true, decide_eq_true_eq] at h
  · rw [eqO_eq h]
  · rw [eqO_eq h]
  · rw [eqO_eq h.1, eqO_eq h.2.1, eqO_eq h.2.2]
  · rw [beqN h]
  · rw [beqN h.1, eqO_eq h.2]
  · rw [beqN h.1, eqO_eq h.2]
  · rw [beqN h.1, eqO_eq h.2.1, eqO_eq h.2.2]
  · rw [h.1, beqN h.2.1, eqO_eq h.2.2.1, eqO_eq h.2.2.2.1, beqN h.2.2.2.2]
  · rw [h.1, beqN h.2.1, eqO_eq h.2.2]
  · rw [beqN h.1, beqN h.2.1, eqO_eq h.2.2]
  · rw [beqN h.1, eqO_eq h.2.1, beqN h.2.2]
  · rw [beqN h.1, eqO_eq h.2.1, beqN h.2.2]
  · rw [eqO_eq h.1, beqN h.2]
  · rw [eqCl_eq h]
  · simp at h
theorem eqOper_eq {a b : Oper} (h : eqOper a b = true) : a = b := by
  obtain ⟨d, o, t, p, af, g⟩ := a
  obtain ⟨d', o', t', p', af', g'⟩ := b
  simp only [eqOper, Bool.and_eq_true, decide_eq_true_eq] at h
  obtain ⟨h1, h2, h3, h4, h5, h6⟩ := h
  have e1 : d = d' := by
    unfold eqOt at h1
    split at h1
    · rfl
    · rw [beqN h1]
    · simp at h1
  have e5 : af = af' := eqA_eq (fun a b h => by
    obtain ⟨x, y⟩ := a
    obtain ⟨x', y'⟩ := b
    simp only [eqEd, Bool.and_eq_true, decide_eq_true_eq] at h
    rw [beqN h.1, h.2]) h5
  have e6 : g = g' := by
    unfold eqG at h6
    split at h6
    · rfl
    · rename_i x y
      simp only [Bool.and_eq_true, beq_iff_eq] at h6
      rw [Prod.ext (beqN h6.1) h6.2]
    · simp at h6
  rw [e1, eqOp_eq h2, beqN h3, h4, e5, e6]
theorem eqC_eq : ∀ {a b : Code}, eqC a b = true → a = b := by
  intro a
  induction a with
  | skip => intro b h; cases b <;> simp [eqC] at h <;> rfl
  | region i ops d => intro b h; cases b <;> simp only [eqC, Bool.and_eq_true, beq_iff_eq, Bool.false_eq_true] at h; rw [beqN h.1, eqA_eq (fun _ _ => eqOper_eq) h.2.1, h.2.2]
  | seq a b iha ihb => intro c h; cases c <;> simp only [eqC, Bool.and_eq_true, Bool.false_eq_true] at h; rw [iha h.1, ihb h.2]
  | cond c a b iha ihb => intro d h; cases d <;> simp only [eqC, Bool.and_eq_true, Bool.false_eq_true] at h; rw [eqO_eq h.1, iha h.2.1, ihb h.2.2]
  | block i a iha => intro d h; cases d <;> simp only [eqC, Bool.and_eq_true, Bool.false_eq_true] at h; rw [beqN h.1, iha h.2]
  | loop a iha => intro d h; cases d <;> simp only [eqC, Bool.false_eq_true] at h; rw [iha h]
  | exit i => intro d h; cases d <;> simp only [eqC, Bool.false_eq_true] at h; rw [beqN h]
  | ret => intro b h; cases b <;> simp [eqC] at h <;> rfl
  | _ => intro b h; cases b <;> simp [eqC] at h

/-- the ranges over functions in a code -/
def rfs : Code → List (Operand × Array Tmp × Code × Code)
  | .seq a b => rfs a ++ rfs b
  | .cond _ a b => rfs a ++ rfs b
  | .block _ a => rfs a
  | .loop a => rfs a
  | .rangeFunc f ps a b => [(f, ps, a, b)]
  | _ => []
end Go.Evl

/- Contracts of functions that write through their last argument, out of runs. Conditions: the context's contracts hold. -/
namespace Go.Evl
open Go.RowKit

section
variable {Γ : Cx} {Inv : World → Prop} {cf : CallF} {df : DrawF} {lp : Nat → LK}
theorem upd_of_run (hΓ : Γ.Ok Inv) (hI : Stable Inv) (hcf : CallSound Γ.P Inv cf) (hdf : DrawSound Γ.P Inv df) (hdl : DrawLen df) (hdk : DrawKeep df) {f : FuncId} {fn : Func} (hfn : Γ.P.funcs[f]? = some fn)
    {c : Code} (hb : fn.body = some c) (hlp : LoopsOk Γ cf df lp fn.ntmps c) {s : List AV → Option Res}
    (h : ∀ args t cs v cs', s (args ++ .ptr t 0 :: cs) = some (.ret (.tup (v :: cs'))) → (args ++ [.ptr 0 0]).length ≤ fn.ntmps ∧ ∃ H', runFn Γ cf df lp fn (args ++ [.ptr 0 0]) [.cells cs t] = some (.ret v, H') ∧ H'[0]? = some (.cells cs' t)) : UpdHolds Γ.P Inv f s := by
  intro args t cs v cs' hs hbc _ hsv hsc ρ A w0 w b vs us hi0 hbel hbase hA hnA hv hw hcs
  obtain ⟨hl, H', hrun, hH'⟩ := h args t cs v cs' hs
  have hA1 : ∀ k, A k → k < w.heap.size ∧ k ≠ b := fun k hk => ⟨hA k hk, fun e => hnA (e ▸ hk)⟩
  have hlive : ∀ i, Live [Ob.cells cs t] i → i = 0 := fun i ⟨o, ho, _⟩ => by
    match i with
    | 0 => rfl
    | i + 1 => simp at ho
  have l0 : Live [Ob.cells cs t] 0 := ⟨_, rfl, rfl⟩
  have hm : Mem w0 (Nm.one b w0.heap.size) (fun k => k < w.heap.size ∧ k ≠ b) w [.cells cs t] := by
    have hid : ∀ i o, [Ob.cells cs t][i]? = some o → i = 0 := fun i o ho => by
      match i with
      | 0 => rfl
      | i + 1 => simp at ho
    refine ⟨⟨fun id o ho => ?_, fun i j o p x hi hj _ _ => (hid i o hi).trans (hid j p hj).symm⟩, hbel, fun k hk => hk.1, rfl⟩
    have := hid id o ho
    subst this
    simp only [List.getElem?_cons_zero, Option.some.injEq] at ho
    subst ho
    exact ORel.of_solid rfl ⟨hbase, fun hk => hk.2 rfl, _, hw, us, rfl, hcs.mono (fun _ h => h.elim) (Nle.none _ _ fun _ h => h) hA1 (fun _ _ => rfl)⟩
  have hp : Rv (Nm.one b w0.heap.size) (fun k => k < w.heap.size ∧ k ≠ b) w (Live [Ob.cells cs t]) (.ptr 0 0) (.pointer (some ⟨b, 0, none⟩)) := Rv.ptr (ρ := Nm.one b w0.heap.size) l0
  have hargs : Rvs (Nm.one b w0.heap.size) (fun k => k < w.heap.size ∧ k ≠ b) w (Live [Ob.cells cs t]) (args ++ [.ptr 0 0]) (vs ++ [.pointer (some ⟨b, 0, none⟩)]) :=
    (hv.mono (fun _ h => h.elim) (Nle.none _ _ fun _ h => h) hA1 (fun _ _ => rfl)).append (.cons hp .nil)
  refine (runFn_sound hΓ hI hi0 hcf hdf hdl hdk hfn hb hlp hl hrun hm hargs).mono ?_
  rintro e w' ⟨ρ', A', hm', hext, u, rfl, hu⟩
  obtain ⟨_, _, us', k3, k4⟩ := hm'.hp.cells hH'
  rw [(hext.nam 0 l0).1] at k3
  exact ⟨hm'.bel, hext.size, fun k hk hkb => hext.keep k ⟨hk, hkb⟩, u, us', rfl, k3, scal_rv hsv hu, scals_rv hsc k4⟩
end

section
variable (P : Program) (sp : Sp) (inl : FuncId → Bool) (ext : FuncId → Option (List AV → Option (Bool × AV))) (cK : {β : Type} → CallK β) {cf : CallF}
theorem upd_of_ev (hcf : ∀ {β : Type}, CallEq (β := β) cK cf) {Inv : World → Prop} (hΓ : (mkCx P sp inl ext).Ok Inv) (hI : Stable Inv) (hm : P.follows .mixedOrders = true) (hcs : CallSound P Inv cf) {f : FuncId} {fn : Func} (hfn : P.funcs[f]? = some fn) {c : Code} (hb : fn.body = some c)
    (lp : Nat → LT) (hlp : ∀ p ∈ loops c, LoopOkT P sp inl ext cK lp fn.ntmps p.2 (lp p.1)) {s : List AV → Tr Res}
    (h : ∀ args t cs v cs', (s (args ++ .ptr t 0 :: cs)).run = some (.ret (.tup (v :: cs'))) → Nat.ble (args ++ [.ptr 0 0]).length fn.ntmps = true ∧
      evFn P sp inl ext cK lp fn (args ++ [.ptr 0 0]) [.cells cs t] (fun r H => some (r, H[0]?)) = some (.ret v, some (.cells cs' t))) : UpdHolds P Inv f fun a => (s a).run := by
  refine upd_of_run (Γ := mkCx P sp inl ext) hΓ hI hcs (drawF_sound hΓ hI hm) drawF_len drawF_keep hfn hb (loopsOk_of P sp inl ext cK hcf hlp) fun args t cs v cs' hr => ?_
  obtain ⟨h1, h3⟩ := h args t cs v cs' hr
  rw [evFn_eq P sp inl ext cK hcf] at h3
  obtain ⟨⟨r', H'⟩, hrun, hk⟩ := Option.bind_eq_some_iff.1 h3
  simp only [Option.some.injEq, Prod.mk.injEq] at hk
  obtain ⟨rfl, hk⟩ := hk
  exact ⟨by simpa using h1, H', hrun, hk⟩
end
end Go.Evl

/- What a reading of an argument gives the evaluator: rows of data. Conditions: the type's cells lie one behind the other. -/
namespace Go.Evl
open Go.RowKit
def offB (P : Program) : List Field → Nat → Bool
  | [], _ => true
  | f :: fs, o => Nat.beq f.offset o && offB P fs (o + P.cellsOf f.type)
def sumC (P : Program) (fs : List Field) : Nat := fs.foldr (fun f n => P.cellsOf f.type + n) 0
/-- the cells of a type lie one behind the other -/
def shB (P : Program) : Nat → TypeId → Bool
  | 0, _ => false
  | d + 1, t => match P.underlying t with
    | some (.int _) => Nat.beq (P.cellsOf t) 1
    | some .string => Nat.beq (P.cellsOf t) 1
    | some .bool => Nat.beq (P.cellsOf t) 1
    | some (.slice e) => Nat.beq (P.cellsOf t) 1 && (shB P d e && Nat.blt 0 (P.cellsOf e))
    | some (.struct fs) => offB P fs.toList 0 && (fs.toList.all (fun f => shB P d f.type) && Nat.beq (P.cellsOf t) (sumC P fs.toList))
    | _ => false
/-- data that a reading can give -/
def dtOk : Nat → Sh → Dt → Prop
  | 0, _, _ => True
  | _ + 1, .int k, d => (Lit.int k d.n).wf = true
  | _ + 1, .str, d => d.s.size ≤ maxLen
  | _ + 1, .bool, _ => True
  | e + 1, .row sh, d => d.len ≤ maxLen ∧ ∀ i, i < d.len → ∀ j s, sh[j]? = some s → dtOk e s (d.el i j)
def dsOk (e : Nat) (sh : List Sh) (ds : List Dt) : Prop := ∀ (j : Nat) (s : Sh) (d : Dt), sh[j]? = some s → ds[j]? = some d → dtOk e s d
theorem zip_shA (ds : List Dt) : ∀ (sh : List Sh) (j : Nat), ds.length = j + sh.length → shA (dtF ds) sh j = List.zipWith toAV sh (ds.drop j)
  | [], j, _ => by simp [shA]
  | s :: sh, j, h => by
    simp only [List.length_cons] at h
    have hj : j < ds.length := by omega
    rw [List.drop_eq_getElem_cons hj]
    simp only [shA, List.zipWith_cons_cons]
    rw [zip_shA ds sh (j + 1) (by omega)]
    congr 2
    simp [dtF, List.getElem?_eq_getElem hj]
section
variable {H : Type} {enc : TypeId × Value → H} {P : Program} {w : World} {base : Nat} {spare : Nat → Bool} {held : Bool} {ρ : Nm}
theorem shT_len : ∀ (d : Nat) (t : TypeId) (sh : List Sh), shT P d t = some sh → shB P d t = true → sh.length = P.cellsOf t
  | 0, _, _, h, _ => by simp [shT] at h
  | d + 1, t, sh, h, hb => by
    simp only [shT] at h
    simp only [shB] at hb
    split at h
    · rename_i hu; rw [hu] at hb; simp only [Option.some.injEq, Nat.beq_eq] at h hb; subst h; simp [hb]
    · rename_i hu; rw [hu] at hb; simp only [Option.some.injEq, Nat.beq_eq] at h hb; subst h; simp [hb]
    · rename_i hu; rw [hu] at hb; simp only [Option.some.injEq, Nat.beq_eq] at h hb; subst h; simp [hb]
    · rename_i hu
      rw [hu] at hb
      simp only [Bool.and_eq_true, Nat.beq_eq] at hb
      obtain ⟨s, _, rfl⟩ := Option.map_eq_some_iff.1 h
      simp [hb.1]
    · rename_i fs hu
      rw [hu] at hb
      simp only [Bool.and_eq_true, Nat.beq_eq] at hb
      rw [hb.2.2]
      have hall := hb.2.1
      generalize fs.toList = l at h hall
      clear hb hu
      induction l generalizing sh with
      | nil => simp only [List.foldr_nil, Option.some.injEq] at h; subst h; rfl
      | cons f l ih =>
        simp only [List.foldr_cons] at h
        simp only [List.all_cons, Bool.and_eq_true] at hall
        split at h
        · rename_i a b ha hb'
          simp only [Option.some.injEq] at h
          subst h
          rw [List.length_append, shT_len d f.type a ha hall.1, ih b hb' hall.2]
          rfl
        · simp at h
    · simp at h
theorem dsOk_one {d : Nat} {s : Sh} {y : Dt} (h : dtOk d s y) : dsOk d [s] [y] := fun j s' y' hs hy => by
  match j with
  | 0 => simp only [List.getElem?_cons_zero, Option.some.injEq] at hs hy; subst hs hy; exact h
  | j + 1 => simp at hs
theorem dsOk_append {d : Nat} {a b : List Sh} {x y : List Dt} (hl : x.length = a.length) (h1 : dsOk d a x) (h2 : dsOk d b y) : dsOk d (a ++ b) (x ++ y) := fun j s u hs hu => by
  rcases Nat.lt_or_ge j a.length with h | h
  · rw [List.getElem?_append_left h] at hs
    rw [List.getElem?_append_left (by omega)] at hu
    exact h1 j s u hs hu
  · rw [List.getElem?_append_right h] at hs
    rw [List.getElem?_append_right (by omega), hl] at hu
    exact h2 _ s u hs hu
/-- cells of a list, one by one -/
theorem zip_get (sh : List Sh) (ds : List Dt) (j : Nat) (h : j < (List.zipWith toAV sh ds).length) (h1 : j < sh.length) (h2 : j < ds.length) : (List.zipWith toAV sh ds)[j] = toAV sh[j] ds[j] := by simp
/-- a reading gives data -/
theorem trod_sh : ∀ (d : Nat) (t : TypeId) (sh : List Sh) (fuel : Nat) (cs : List Value) (x : DataW H × List MemPlace), shT P d t = some sh → shB P d t = true → DataW.trod enc P w base spare held fuel t cs = some x →
    ∃ ds : List Dt, ds.length = sh.length ∧ Rvs ρ (fun b => b < w.heap.size) w None_ (List.zipWith toAV sh ds) cs ∧ ∀ q, dsOk q sh ds
  | 0, _, _, _, _, _, h, _, _ => by simp [shT] at h
  | d + 1, t, sh, fuel, cs, x, h, hb, hx => by
    simp only [shT] at h
    simp only [shB] at hb
    split at h
    · rename_i k hu
      simp only [Option.some.injEq] at h
      subst h
      obtain ⟨n, rfl, _, hw⟩ := DataW.trod_int hu hx
      exact ⟨[.int n], rfl, .cons .int .nil, fun q => dsOk_one (by cases q <;> first | trivial | exact hw)⟩
    · rename_i hu
      simp only [Option.some.injEq] at h
      subst h
      obtain ⟨n, rfl, _, hw⟩ := DataW.trod_string hu hx
      exact ⟨[.str n], rfl, .cons .str .nil, fun q => dsOk_one (by cases q <;> first | trivial | exact hw)⟩
    · rename_i hu
      simp only [Option.some.injEq] at h
      subst h
      obtain ⟨b, rfl, _⟩ := DataW.trod_bool hu hx
      exact ⟨[.bool b], rfl, .cons .bool .nil, fun q => dsOk_one (by cases q <;> trivial)⟩
    · rename_i e hu
      rw [hu] at hb
      simp only [Bool.and_eq_true, Nat.beq_eq, Nat.blt_eq] at hb
      obtain ⟨hb1, hb2, hb3⟩ := hb
      obtain ⟨s, hs, rfl⟩ := Option.map_eq_some_iff.1 h
      have hsl := shT_len d e s hs hb2
      rcases DataW.trod_slice hu hx with ⟨rfl, _⟩ | ⟨a, len, cap, elems, rest, n, _, rfl, _, hba, hlc, hcm, hel, hels, _, _⟩
      · exact ⟨[.row 0 fun _ _ => .int 0], rfl, .cons isz0 .nil, fun q => dsOk_one (by cases q with | zero => trivial | succ q => exact ⟨Nat.zero_le _, fun i hi => absurd hi (Nat.not_lt_zero _)⟩)⟩
      · have each : ∀ i, i < len → ∃ ds : List Dt, ds.length = s.length ∧ (∀ q, dsOk q s ds) ∧ ∀ j (hj : j < s.length) (hj2 : j < ds.length), ∃ u, w.cell? (a.add (i * s.length + j)) = some u ∧ Rv ρ (fun b => b < w.heap.size) w None_ (toAV s[j] ds[j]) u := by
          intro i hi
          have h1 := hels i hi
          rw [List.getElem?_eq_getElem (by omega)] at h1
          obtain ⟨ci, hci, hti⟩ := Option.bind_eq_some_iff.1 h1
          obtain ⟨ds, hl, hr, hok⟩ := trod_sh d e s n ci _ hs hb2 hti
          obtain ⟨_, hc1, hc2⟩ := World.cells?_some hci
          refine ⟨ds, hl, hok, fun j hj hj2 => ?_⟩
          have hjc : j < ci.length := by rw [← hr.1]; simp; omega
          refine ⟨ci[j], ?_, ?_⟩
          · have := hc2 j (by omega)
            rw [Addr.add_add, ← hsl] at this
            rw [this, List.getElem?_eq_getElem hjc]
          · have := hr.2 j (by simp; omega) hjc
            rwa [zip_get s ds j _ hj hj2] at this
        by_cases h0 : len = 0
        · subst h0
          exact ⟨[.row 0 fun _ _ => .int 0], rfl, .cons isz0 .nil, fun q => dsOk_one (by cases q with | zero => trivial | succ q => exact ⟨Nat.zero_le _, fun i hi => absurd hi (Nat.not_lt_zero _)⟩)⟩
        · obtain ⟨ds0, hl0, _, hc0⟩ := each 0 (by omega)
          obtain ⟨u0, hu0, _⟩ := hc0 0 (by omega) (by omega)
          rw [Nat.zero_mul, Nat.zero_add, Addr.add_zero'] at hu0
          obtain ⟨b, off, spot⟩ := a
          have hspot : spot = none := by
            unfold World.cell? at hu0
            split at hu0
            · split at hu0
              · simp at hu0
              · rename_i hs; simpa using hs
            · simp at hu0
          subst hspot
          have hblk : b < w.heap.size := by
            rcases Nat.lt_or_ge b w.heap.size with h' | h'
            · exact h'
            · unfold World.cell? at hu0
              rw [Array.getElem?_eq_none h'] at hu0
              simp at hu0
          let el : Nat → Nat → Dt := fun i => if hi : i < len then dtF (each i hi).choose else fun _ => .int 0
          have hel' : ∀ i (hi : i < len), el i = dtF (each i hi).choose := fun i hi => by simp [el, hi]
          have hes : ∀ i (hi : i < len), (each i hi).choose.length = s.length ∧ (∀ q, dsOk q s (each i hi).choose) ∧ ∀ j (hj : j < s.length) (hj2 : j < (each i hi).choose.length), ∃ u, w.cell? ((⟨b, off, none⟩ : Addr).add (i * s.length + j)) = some u ∧ Rv ρ (fun b => b < w.heap.size) w None_ (toAV s[j] ((each i hi).choose[j])) u := fun i hi => (each i hi).choose_spec
          have hdt : ∀ i (hi : i < len) j (hj : j < (each i hi).choose.length), el i j = (each i hi).choose[j] := fun i hi j hj => by rw [hel' i hi]; simp [dtF, List.getElem?_eq_getElem hj]
          refine ⟨[.row len el], rfl, .cons (.isz (.isl (fun i j => (w.cell? ⟨b, off + i * s.length + j, none⟩).getD undef) hblk (fun i _ => shA_length _ _ _) (fun i hi j hj => ?_) (fun i hi j hj => ?_) hlc)) .nil, fun q => dsOk_one ?_⟩
          · obtain ⟨e1, _, e3⟩ := hes i hi
            obtain ⟨u, hu', _⟩ := e3 j hj (by omega)
            rw [addr_add, ← Nat.add_assoc] at hu'
            simp [hu']
          · rw [shA_length] at hj
            obtain ⟨e1, _, e3⟩ := hes i hi
            obtain ⟨u, hu', hr⟩ := e3 j hj (by omega)
            rw [addr_add, ← Nat.add_assoc] at hu'
            simp only [hu', Option.getD_some]
            rw [shA_get, Nat.zero_add]
            show Rv _ _ _ _ (toAV s[j] (el i j)) u
            rw [hdt i hi j (by omega)]
            exact hr
          · cases q with
            | zero => trivial
            | succ q =>
              refine ⟨by show len ≤ maxLen; omega, fun i hi j s' hs' => ?_⟩
              have hi' : i < len := hi
              obtain ⟨e1, e2, _⟩ := hes i hi'
              have hj : j < s.length := (List.getElem?_eq_some_iff.1 hs').1
              show dtOk q s' (el i j)
              rw [hdt i hi' j (by omega)]
              exact e2 q j s' _ hs' (List.getElem?_eq_getElem (by omega))
    · rename_i fs hu
      rw [hu] at hb
      simp only [Bool.and_eq_true, Nat.beq_eq] at hb
      obtain ⟨hb1, hb2, hb3⟩ := hb
      obtain ⟨xs, n, _, _, hcl, hxl, hxs⟩ := DataW.trod_struct hu hx
      have hf : ∀ f ∈ fs.toList, ∃ y, DataW.trod enc P w base spare held n f.type ((cs.drop f.offset).take (P.cellsOf f.type)) = some y := fun f hm => by
        obtain ⟨i, hi⟩ := List.getElem?_of_mem hm
        have hi' : fs[i]? = some f := by simpa using hi
        have hil : i < xs.length := by rw [hxl]; exact (Array.getElem?_eq_some_iff.1 hi').1
        exact ⟨xs[i], by rw [hxs i f hi', List.getElem?_eq_getElem hil]⟩
      have go : ∀ (l : List Field) (o : Nat) (sh : List Sh), l.foldr (fun f r => match shT P d f.type, r with | some a, some b => some (a ++ b) | _, _ => none) (some []) = some sh → offB P l o = true → l.all (fun f => shB P d f.type) = true →
          (∀ f ∈ l, ∃ y, DataW.trod enc P w base spare held n f.type ((cs.drop f.offset).take (P.cellsOf f.type)) = some y) → o + sumC P l ≤ cs.length →
          ∃ ds : List Dt, ds.length = sh.length ∧ Rvs ρ (fun b => b < w.heap.size) w None_ (List.zipWith toAV sh ds) ((cs.drop o).take (sumC P l)) ∧ ∀ q, dsOk q sh ds := by
        intro l
        induction l with
        | nil =>
          intro o sh h _ _ _ _
          simp only [List.foldr_nil, Option.some.injEq] at h
          subst h
          exact ⟨[], rfl, by simpa [sumC] using Rvs.nil, fun q j s u hs => by simp at hs⟩
        | cons f l ih =>
          intro o sh h ho hall hf hle
          simp only [List.foldr_cons] at h
          simp only [List.all_cons, Bool.and_eq_true] at hall
          simp only [offB, Bool.and_eq_true, Nat.beq_eq] at ho
          have hsum : sumC P (f :: l) = P.cellsOf f.type + sumC P l := rfl
          rw [hsum] at hle ⊢
          split at h
          · rename_i a b ha hb'
            simp only [Option.some.injEq] at h
            subst h
            obtain ⟨y, hy⟩ := hf f (by simp)
            rw [ho.1] at hy
            obtain ⟨ds1, l1, r1, k1⟩ := trod_sh d f.type a n _ y ha hall.1 hy
            obtain ⟨ds2, l2, r2, k2⟩ := ih (o + P.cellsOf f.type) b hb' ho.2 hall.2 (fun g hg => hf g (by simp [hg])) (by omega)
            refine ⟨ds1 ++ ds2, by simp [l1, l2], ?_, fun q => dsOk_append l1 (k1 q) (k2 q)⟩
            rw [List.zipWith_append (by omega)]
            have := r1.append r2
            rw [← List.drop_drop, ← List.take_add] at this
            exact this
          · simp at h
      obtain ⟨ds, l1, r1, k1⟩ := go fs.toList 0 sh h hb1 hb2 hf (by rw [hcl, hb3]; omega)
      refine ⟨ds, l1, ?_, k1⟩
      rw [List.drop_zero, List.take_of_length_le (by rw [hcl, hb3]; exact Nat.le_refl _)] at r1
      exact r1
    · simp at h
end
end Go.Evl

/- What a reading of an argument gives the evaluator: an argument of a row, of a struct, of a number. Conditions: as for RK1. -/
namespace Go.Evl
open Go.RowKit Go.WideShapes
section
variable {H : Type} {enc : TypeId × Value → H} {P : Program} {w : World} {base b0 : Nat} {spare : Nat → Bool} {held : Bool} {ρ : Nm} {rc : Reach} {v : Value} {x : DataW H} {ps : List MemPlace}
theorem arg_row {d : Nat} {t e : TypeId} {s : List Sh} (hu : P.underlying t = some (.slice e)) (hs : shT P (d + 1) t = some [.row s]) (hb : shB P (d + 1) t = true) (hv : Value.okWide P w rc b0 t v) (h : DataW.Trod enc P w base spare held t v x ps) :
    ∃ y : Dt, Rv ρ (fun b => b < w.heap.size) w None_ (.isz y.len s y.el) v ∧ ∀ q, dtOk q (.row s) y := by
  obtain ⟨a, len, cap, rfl⟩ := okWide_slice hu hv
  obtain ⟨fuel, hf⟩ := h
  obtain ⟨ds, hl, hr, hok⟩ := trod_sh (ρ := ρ) (d + 1) t [.row s] fuel _ _ hs hb hf
  match ds, hl with
  | [y], _ => exact ⟨y, hr.2 0 (by simp) (by simp [Value.cells]), fun q => hok q 0 _ _ rfl rfl⟩
theorem arg_struct {d : Nat} {t : TypeId} {fs : Array Field} {sh : List Sh} (hu : P.underlying t = some (.struct fs)) (hs : shT P d t = some sh) (hb : shB P d t = true) (hv : Value.okWide P w rc b0 t v) (h : DataW.Trod enc P w base spare held t v x ps) :
    ∃ ds : List Dt, ds.length = sh.length ∧ Rv ρ (fun b => b < w.heap.size) w None_ (.agg (List.zipWith toAV sh ds)) v ∧ ∀ q, dsOk q sh ds := by
  obtain ⟨cs, rfl, _⟩ := okWide_struct hu hv
  obtain ⟨fuel, hf⟩ := h
  obtain ⟨ds, hl, hr, hok⟩ := trod_sh (ρ := ρ) d t sh fuel _ _ hs hb hf
  refine ⟨ds, hl, ?_, hok⟩
  have := Rv.agg (ρ := ρ) (A := fun b => b < w.heap.size) (w := w) (n := None_) hr.1 hr.2
  simpa [Value.cells] using this
theorem rv_one {A : Nat → Prop} {n : Nat → Prop} {a : AV} {u : Value} (h : Rv ρ A w n a u) : Rvs ρ A w n [a] [u] := .cons h .nil
end
end Go.Evl

/- Loops that look for the first index that ends them: their summaries. Condition: one round does as it says. -/
namespace Go.Evl
open Go.RowKit
/-- the first index, from i on, where g gives something -/
def scan {α : Type} (g : Nat → Option α) : Nat → Nat → Option (α × Nat)
  | 0, _ => none
  | k + 1, i => match g i with
    | some e => some (e, i)
    | none => scan g k (i + 1)
theorem scan_congr {α : Type} {g h : Nat → Option α} : ∀ (k i : Nat), (∀ j, i ≤ j → j < i + k → g j = h j) → scan g k i = scan h k i
  | 0, _, _ => rfl
  | k + 1, i, hh => by
    simp only [scan]
    rw [hh i (Nat.le_refl _) (by omega), scan_congr k (i + 1) fun j h1 h2 => hh j (by omega) (by omega)]
def scanEnd {α : Type} (id : Nat) (out : List AV) (ret : α → Nat → List AV) (H : List Ob) : Option (α × Nat) → Ex × List AV × List Ob
  | none => (.exit id, out, H)
  | some (e, j) => (.ret, ret e j, H)
section
variable {P : Program} {sp : Sp} {inl : FuncId → Bool} {ext : FuncId → Option (List AV → Option (Bool × AV))} {cK : {β : Type} → CallK β}
theorem sum_scan {lp : Nat → LT} {nt id : Nat} {body : Code} {keep : List Nat} {f : List AV → List Ob → Tr (Ex × List AV × List Ob)} {Par α : Type} (N : Par → Nat) (ok : Par → Prop) (st : Par → Nat → List AV) (H0 : Par → List Ob)
    (g : Par → Nat → Option α) (ret : Par → α → Nat → List AV) (m : List AV → List Ob → Nat) (hm : ∀ p k, m (st p k) (H0 p) = N p - k)
    (hin : ∀ vs H R, (f vs H).run = some R → ∃ p k, ok p ∧ k ≤ N p ∧ vs = st p k ∧ H = H0 p)
    (hrun : ∀ p k, ok p → k ≤ N p → (f (st p k) (H0 p)).run = some (scanEnd id (st p (N p)) (ret p) (H0 p) (scan (g p) (N p - k) k)))
    (hround : ∀ p k, ok p → k < N p → evC P sp inl ext cK lp body ⟨mkF nt keep (st p k), H0 p⟩ (fun e st' => (cutBack keep (H0 p).length st').map fun q => (e, q.1, q.2)) =
      some (match g p k with | some e => (.ret, ret p e k, H0 p) | none => (.normal, st p (k + 1), H0 p)))
    (hend : ∀ p, ok p → evC P sp inl ext cK lp body ⟨mkF nt keep (st p (N p)), H0 p⟩ (fun e st' => (cutBack keep (H0 p).length st').map fun q => (e, q.1, q.2)) = some (.exit id, st p (N p), H0 p)) :
    SumOkT P sp inl ext cK lp nt body keep f := by
  refine ⟨m, fun vs H R hv hR => ?_⟩
  obtain ⟨p, k, hok, hk, rfl, rfl⟩ := hin vs H R hR
  rw [hrun p k hok hk] at hR
  obtain rfl := Option.some.inj hR
  by_cases h : k < N p
  · obtain ⟨j, hj⟩ : ∃ j, N p - k = j + 1 := ⟨N p - k - 1, by omega⟩
    have hr := hround p k hok h
    cases hg : g p k with
    | some e =>
      rw [hg] at hr
      refine ⟨_, _, _, hr, ?_⟩
      simp only [hj, scan, hg]
      rfl
    | none =>
      rw [hg] at hr
      refine ⟨_, _, _, hr, ?_, ?_⟩
      · rw [hrun p (k + 1) hok h, hj]
        simp only [scan, hg]
        rw [show N p - (k + 1) = j by omega]
      · show m (st p (k + 1)) (H0 p) < m (st p k) (H0 p)
        rw [hm, hm]; omega
  · obtain rfl : k = N p := by omega
    refine ⟨_, _, _, hend p hok, ?_⟩
    simp only [Nat.sub_self, scan]
    rfl
end
end Go.Evl

/- Loops summed up by a state of their own. Condition: one round does as it says. -/
namespace Go.Evl
open Go.RowKit
theorem condT {α : Type} {c : Bool} {a b : α} (h : c = true) : (bif c then a else b) = a := by rw [h]; rfl
theorem condF {α : Type} {c : Bool} {a b : α} (h : c = false) : (bif c then a else b) = b := by rw [h]; rfl
section
variable {P : Program} {sp : Sp} {inl : FuncId → Bool} {ext : FuncId → Option (List AV → Option (Bool × AV))} {cK : {β : Type} → CallK β}
/-- a summary out of a state: how it is read off, where it holds, what it ends with -/
def stF {S : Type} (dec : List AV → List Ob → Option S) (dom : S → Bool) (fin : S → Tr (Ex × List AV × List Ob)) (vs : List AV) (H : List Ob) : Tr (Ex × List AV × List Ob) := match dec vs H with
  | some s => .chk (dom s) (fin s)
  | none => .non
theorem stF_run {S : Type} {dec : List AV → List Ob → Option S} {dom : S → Bool} {fin : S → Tr (Ex × List AV × List Ob)} {vs : List AV} {H : List Ob} {R : Ex × List AV × List Ob} (h : (stF dec dom fin vs H).run = some R) :
    ∃ s, dec vs H = some s ∧ dom s = true ∧ (fin s).run = some R := by
  unfold stF at h
  split at h
  · rename_i s hs
    refine ⟨s, hs, ?_⟩
    simp only [Tr.run] at h
    cases hd : dom s with
    | false => rw [hd] at h; cases h
    | true => rw [hd] at h; exact ⟨rfl, h⟩
  · cases h
theorem stF_of {S : Type} {dec : List AV → List Ob → Option S} {dom : S → Bool} {fin : S → Tr (Ex × List AV × List Ob)} {vs : List AV} {H : List Ob} {R : Ex × List AV × List Ob} {s : S} (h1 : dec vs H = some s) (h2 : dom s = true) (h3 : (fin s).run = some R) :
    (stF dec dom fin vs H).run = some R := by
  unfold stF
  rw [h1]
  simp only [Tr.run, h2, h3, cond_true]
theorem sum_st {lp : Nat → LT} {nt : Nat} {body : Code} {keep : List Nat} {S : Type} (dec : List AV → List Ob → Option S) (dom : S → Bool) (fin : S → Tr (Ex × List AV × List Ob)) (vsS : S → List AV) (hpS : S → List Ob) (μ : S → Nat)
    (hdec : ∀ vs H s, dec vs H = some s → vs = vsS s ∧ H = hpS s)
    (step : ∀ s R, dom s = true → (fin s).run = some R →
      (∃ s', evC P sp inl ext cK lp body ⟨mkF nt keep (vsS s), hpS s⟩ (fun e st => (cutBack keep (hpS s).length st).map fun q => (e, q.1, q.2)) = some (.normal, vsS s', hpS s') ∧ dec (vsS s') (hpS s') = some s' ∧ dom s' = true ∧ (fin s').run = some R ∧ μ s' < μ s) ∨
      (R.1 ≠ .normal ∧ evC P sp inl ext cK lp body ⟨mkF nt keep (vsS s), hpS s⟩ (fun e st => (cutBack keep (hpS s).length st).map fun q => (e, q.1, q.2)) = some R)) :
    SumOkT P sp inl ext cK lp nt body keep (stF dec dom fin) := by
  refine ⟨fun vs H => match dec vs H with | some s => μ s | none => 0, fun vs H R _ hR => ?_⟩
  obtain ⟨s, h1, h2, h3⟩ := stF_run hR
  obtain ⟨rfl, rfl⟩ := hdec vs H s h1
  rcases step s R h2 h3 with ⟨s', e1, e2, e3, e4, e5⟩ | ⟨e1, e2⟩
  · refine ⟨_, _, _, e1, stF_of e2 e3 e4, ?_⟩
    show (match dec (vsS s') (hpS s') with | some s => μ s | none => 0) < match dec (vsS s) (hpS s) with | some s => μ s | none => 0
    rw [e2, h1]
    exact e5
  · obtain ⟨e, vs1, H1⟩ := R
    refine ⟨e, vs1, H1, e2, ?_⟩
    cases e <;> first | rfl | exact absurd rfl e1
end
end Go.Evl

/- Loops summed up by their own rounds: the rounds gone through till the end. Condition: one round does as it says. -/
namespace Go.Evl
open Go.RowKit
/-- how a loop's state stands in slots and objects -/
structure Ls (S : Type) where
  id : Nat
  dec : List AV → List Ob → Option S
  vs : S → List AV
  hp : S → List Ob
  rnd : S → Option (Ex × List AV × List Ob)
/-- slots and objects read as a state say no more than the state -/
def Ls.Ok {S : Type} (L : Ls S) : Prop := ∀ vs H s, L.dec vs H = some s → vs = L.vs s ∧ H = L.hp s
section
variable {S : Type} (L : Ls S)
/-- what a round comes to -/
inductive Rd (S : Type) where
  | on (s : S)
  | out (s : S)
  | ret (s : S)
  | bad
def Ls.cls : Option (Ex × List AV × List Ob) → Rd S
  | some (.normal, vs, H) => match L.dec vs H with
    | some s => .on s
    | none => .bad
  | some (.exit j, vs, H) => if j = L.id then match L.dec vs H with
      | some s => .out s
      | none => .bad else .bad
  | some (.ret, vs, H) => match L.dec vs H with
    | some s => .ret s
    | none => .bad
  | _ => .bad
/-- what ends are looked for: 0 exits, 1 returns, else both -/
def mdB (m : Nat) (b : Bool) : Bool := match m with
  | 0 => !b
  | 1 => b
  | _ => true
/-- rounds till the end: their number, whether the function returns, the last state -/
def Ls.go : Nat → S → Option (Nat × Bool × S)
  | 0, _ => none
  | f + 1, s => match L.cls (L.rnd s) with
    | .on s' => (Ls.go f s').map fun q => (q.1 + 1, q.2)
    | .out s' => some (0, false, s')
    | .ret s' => some (0, true, s')
    | .bad => none
theorem Ls.go_mono : ∀ {f : Nat} {s : S} {q : Nat × Bool × S}, L.go f s = some q → ∀ {g : Nat}, f ≤ g → L.go g s = some q
  | 0, _, _, h, _, _ => by cases h
  | f + 1, s, q, h, 0, hg => by omega
  | f + 1, s, q, h, g + 1, hg => by
    simp only [Ls.go] at h ⊢
    split at h
    · rename_i s' e
      obtain ⟨r, hr, rfl⟩ := Option.map_eq_some_iff.1 h
      rw [Ls.go_mono hr (show f ≤ g by omega)]
      rfl
    · exact h
    · exact h
    · cases h
/-- a loop's end, if there is one -/
noncomputable def Ls.res (s : S) : Option (Nat × Bool × S) := @dite _ (∃ f q, L.go f s = some q) (Classical.propDecidable _) (fun h => some h.choose_spec.choose) fun _ => none
theorem Ls.res_of {f : Nat} {s : S} {q : Nat × Bool × S} (h : L.go f s = some q) : L.res s = some q := by
  unfold Ls.res
  have hx : ∃ f q, L.go f s = some q := ⟨f, q, h⟩
  rw [dif_pos hx]
  have h2 := hx.choose_spec.choose_spec
  congr 1
  have a := L.go_mono h (Nat.le_max_left f hx.choose)
  have b := L.go_mono h2 (Nat.le_max_right f hx.choose)
  rw [a] at b
  exact (Option.some.inj b).symm
theorem Ls.res_ex {s : S} {q : Nat × Bool × S} (h : L.res s = some q) : ∃ f, L.go f s = some q := by
  unfold Ls.res at h
  by_cases hx : ∃ f q, L.go f s = some q
  · rw [dif_pos hx] at h
    obtain rfl := Option.some.inj h
    exact ⟨_, hx.choose_spec.choose_spec⟩
  · rw [dif_neg hx] at h
    cases h
theorem Ls.res_on {s s' : S} (h : L.cls (L.rnd s) = .on s') : L.res s = (L.res s').map fun q => (q.1 + 1, q.2) := by
  cases e : L.res s' with
  | some q =>
    obtain ⟨f, hf⟩ := L.res_ex e
    refine L.res_of (f := f + 1) ?_
    simp only [Ls.go, h, hf, Option.map_some]
  | none =>
    cases e2 : L.res s with
    | none => rfl
    | some q =>
      obtain ⟨f, hf⟩ := L.res_ex e2
      cases f with
      | zero => cases hf
      | succ f =>
        simp only [Ls.go, h] at hf
        obtain ⟨r, hr, _⟩ := Option.map_eq_some_iff.1 hf
        rw [L.res_of hr] at e
        cases e
/-- the loop's last state, and whether it returns -/
noncomputable def Ls.end_ (s : S) : Bool × S := match L.res s with
  | some q => q.2
  | none => (false, s)
/-- the loop ends, in such a way -/
noncomputable def Ls.ok (m : Nat) (s : S) : Bool := match L.res s with
  | some q => mdB m q.2.1
  | none => false
def Ls.fin (m : Nat) (b : Bool) (s : S) : Tr (Ex × List AV × List Ob) := match m with
  | 0 => .leaf (.exit L.id, L.vs s, L.hp s)
  | 1 => .leaf (.ret, L.vs s, L.hp s)
  | _ => .node b (.leaf (.ret, L.vs s, L.hp s)) (.leaf (.exit L.id, L.vs s, L.hp s))
theorem Ls.fin_eq {m : Nat} {b : Bool} {s : S} (h : mdB m b = true) : (L.fin m b s).run = some (bif b then (.ret, L.vs s, L.hp s) else (.exit L.id, L.vs s, L.hp s)) := by
  match m with
  | 0 => cases b with
    | false => rfl
    | true => cases h
  | 1 => cases b with
    | true => rfl
    | false => cases h
  | m + 2 => cases b <;> rfl
/-- the loop ends so: by rounds -/
def Ls.To (s : S) (b : Bool) (s' : S) : Prop := ∃ k, L.res s = some (k, b, s')
theorem Ls.To.on {s s1 s2 : S} {b : Bool} (h : L.cls (L.rnd s) = .on s1) (h2 : L.To s1 b s2) : L.To s b s2 := by
  obtain ⟨k, hk⟩ := h2
  exact ⟨k + 1, by rw [L.res_on h, hk]; rfl⟩
theorem Ls.To.out {s s1 : S} (h : L.cls (L.rnd s) = .out s1) : L.To s false s1 := ⟨0, L.res_of (f := 1) (by simp only [Ls.go, h])⟩
theorem Ls.To.ret {s s1 : S} (h : L.cls (L.rnd s) = .ret s1) : L.To s true s1 := ⟨0, L.res_of (f := 1) (by simp only [Ls.go, h])⟩
theorem Ls.To.end_ {s s' : S} {b : Bool} (h : L.To s b s') : L.end_ s = (b, s') := by
  obtain ⟨k, hk⟩ := h
  unfold Ls.end_
  rw [hk]
theorem Ls.To.ok {s s' : S} {b : Bool} (h : L.To s b s') {m : Nat} (hm : mdB m b = true) : L.ok m s = true := by
  obtain ⟨k, hk⟩ := h
  unfold Ls.ok
  rw [hk]
  exact hm
theorem Ls.ok_to {m : Nat} {s : S} (h : L.ok m s = true) : L.To s (L.end_ s).1 (L.end_ s).2 ∧ mdB m (L.end_ s).1 = true := by
  unfold Ls.ok at h
  unfold Ls.end_ Ls.To
  cases e : L.res s with
  | none => rw [e] at h; cases h
  | some q =>
    rw [e] at h
    exact ⟨⟨q.1, rfl⟩, h⟩
theorem Ls.to_on {s s1 s2 : S} {b : Bool} (h : L.rnd s = some (.normal, L.vs s1, L.hp s1)) (hd : L.dec (L.vs s1) (L.hp s1) = some s1) (h2 : L.To s1 b s2) : L.To s b s2 := Ls.To.on L (by simp only [Ls.cls, h, hd]) h2
theorem Ls.to_out {s s1 : S} (h : L.rnd s = some (.exit L.id, L.vs s1, L.hp s1)) (hd : L.dec (L.vs s1) (L.hp s1) = some s1) : L.To s false s1 := Ls.To.out L (by simp only [Ls.cls, h, hd, if_pos])
theorem Ls.to_ret {s s1 : S} (h : L.rnd s = some (.ret, L.vs s1, L.hp s1)) (hd : L.dec (L.vs s1) (L.hp s1) = some s1) : L.To s true s1 := Ls.To.ret L (by simp only [Ls.cls, h, hd])
/-- a loop's result from an invariant of its rounds -/
theorem Ls.To.inv {s s' : S} {b : Bool} (h : L.To s b s') {I : S → Prop} {J : Bool → S → Prop} (h0 : I s)
    (hs : ∀ s, I s → (∀ s1, L.cls (L.rnd s) = .on s1 → I s1) ∧ (∀ s1, L.cls (L.rnd s) = .out s1 → J false s1) ∧ ∀ s1, L.cls (L.rnd s) = .ret s1 → J true s1) : J b s' := by
  obtain ⟨k, hk⟩ := h
  obtain ⟨f, hf⟩ := L.res_ex hk
  clear hk
  induction f generalizing s k with
  | zero => cases hf
  | succ f ih =>
    simp only [Ls.go] at hf
    obtain ⟨i1, i2, i3⟩ := hs s h0
    split at hf
    · rename_i s1 e
      obtain ⟨r, hr, er⟩ := Option.map_eq_some_iff.1 hf
      obtain ⟨r1, r2, r3⟩ := r
      simp only [Prod.mk.injEq] at er
      obtain ⟨_, rfl, rfl⟩ := er
      exact ih (i1 s1 e) _ hr
    · rename_i s1 e
      cases hf
      exact i2 _ e
    · rename_i s1 e
      cases hf
      exact i3 _ e
    · cases hf
section
variable {P : Program} {sp : Sp} {inl : FuncId → Bool} {ext : FuncId → Option (List AV → Option (Bool × AV))} {cK : {β : Type} → CallK β}
theorem sum_ls {lp : Nat → LT} {nt : Nat} {body : Code} {keep : List Nat} (m : Nat) (hL : L.Ok) (hr : ∀ s, evC P sp inl ext cK lp body ⟨mkF nt keep (L.vs s), L.hp s⟩ (fun e st => (cutBack keep (L.hp s).length st).map fun q => (e, q.1, q.2)) = L.rnd s) :
    SumOkT P sp inl ext cK lp nt body keep (stF L.dec (L.ok m) fun s => L.fin m (L.end_ s).1 (L.end_ s).2) := by
  refine sum_st L.dec (L.ok m) _ L.vs L.hp (fun s => match L.res s with | some q => q.1 | none => 0) hL fun s R hd hR => ?_
  obtain ⟨hto, hm⟩ := L.ok_to hd
  rw [L.fin_eq hm] at hR
  obtain rfl := Option.some.inj hR
  rw [hr s]
  obtain ⟨k, hk⟩ := hto
  obtain ⟨f, hf⟩ := L.res_ex hk
  cases f with
  | zero => cases hf
  | succ f =>
    simp only [Ls.go] at hf
    split at hf
    · rename_i s1 e
      left
      obtain ⟨⟨k1, r⟩, hr1, er⟩ := Option.map_eq_some_iff.1 hf
      simp only [Prod.mk.injEq] at er
      obtain ⟨ek, rfl⟩ := er
      have hres := L.res_of hr1
      have hto1 : L.To s1 (L.end_ s).1 (L.end_ s).2 := ⟨k1, hres⟩
      have hex : ∃ vs H, L.rnd s = some (.normal, vs, H) ∧ L.dec vs H = some s1 := by
        unfold Ls.cls at e
        split at e
        · rename_i vs H hrn
          split at e
          · rename_i s2 hd2
            cases e
            exact ⟨vs, H, hrn, hd2⟩
          · cases e
        · split at e
          · split at e <;> cases e
          · cases e
        · split at e <;> cases e
        · cases e
      obtain ⟨vs, H, h1, h2⟩ := hex
      obtain ⟨rfl, rfl⟩ := hL vs H s1 h2
      refine ⟨s1, h1, h2, hto1.ok L hm, ?_, ?_⟩
      · rw [hto1.end_ L]
        exact L.fin_eq hm
      · rw [hres, hk]
        show k1 < k
        omega
    · rename_i s1 e
      right
      simp only [Option.some.injEq, Prod.mk.injEq] at hf
      obtain ⟨_, e2, e3⟩ := hf
      rw [← e2, ← e3]
      refine ⟨by simp, ?_⟩
      unfold Ls.cls at e
      split at e
      · split at e <;> cases e
      · rename_i j vs H hrn
        split at e
        · rename_i hj
          split at e
          · rename_i s2 hd2
            cases e
            obtain ⟨rfl, rfl⟩ := hL vs H s1 hd2
            rw [hrn, hj]
            rfl
          · cases e
        · cases e
      · split at e <;> cases e
      · cases e
    · rename_i s1 e
      right
      simp only [Option.some.injEq, Prod.mk.injEq] at hf
      obtain ⟨_, e2, e3⟩ := hf
      rw [← e2, ← e3]
      refine ⟨by simp, ?_⟩
      unfold Ls.cls at e
      split at e
      · split at e <;> cases e
      · split at e
        · split at e <;> cases e
        · cases e
      · rename_i vs H hrn
        split at e
        · rename_i s2 hd2
          cases e
          obtain ⟨rfl, rfl⟩ := hL vs H s1 hd2
          rw [hrn]
          rfl
        · cases e
      · cases e
    · cases hf
end
/-- a loop within a range over a function: what the record of the range holds is told by the rest of the state -/
structure RgS (C : Type) where
  c : C
  tm : List AV
  ps : Array Tmp
  asg : Code
  bd : Code
structure Lg (C : Type) where
  id : Nat
  dec : List AV → List Ob → Option (RgS C)
  vs : RgS C → List AV
  hp : RgS C → List Ob
  emb : C → RgS C
  rnd : C → Option (Ex × List AV × List Ob)
section
variable {C : Type} (L : Lg C)
def Lg.Ok : Prop := (∀ vs H s, L.dec vs H = some s → vs = L.vs s ∧ H = L.hp s) ∧ ∀ c, (L.emb c).c = c
noncomputable def Lg.gd (s : RgS C) : Bool := @decide (s = L.emb s.c) (Classical.propDecidable _)
noncomputable def Lg.ls : Ls C := ⟨L.id, fun vs H => match L.dec vs H with
  | some s => if L.gd s then some s.c else none
  | none => none, fun c => L.vs (L.emb c), fun c => L.hp (L.emb c), L.rnd⟩
theorem Lg.gd_emb (hL : L.Ok) (c : C) : L.gd (L.emb c) = true := by
  unfold Lg.gd
  rw [hL.2]
  exact @decide_eq_true _ (Classical.propDecidable _) rfl
theorem Lg.gd_eq {s : RgS C} (h : L.gd s = true) : s = L.emb s.c := @of_decide_eq_true _ (Classical.propDecidable _) h
theorem Lg.ls_dec (hL : L.Ok) {vs : List AV} {H : List Ob} {c : C} (h : L.dec vs H = some (L.emb c)) : L.ls.dec vs H = some c := by
  show (match L.dec vs H with | some s => if L.gd s then some s.c else none | none => none) = _
  rw [h]
  simp only [L.gd_emb hL, if_true, hL.2]
theorem Lg.ls_ok (hL : L.Ok) : L.ls.Ok := fun vs H c h => by
  have h : (match L.dec vs H with | some s => if L.gd s then some s.c else none | none => none) = some c := h
  split at h
  · rename_i s hs
    split at h
    · rename_i hg
      obtain rfl := Option.some.inj h
      have := hL.1 vs H s hs
      rw [L.gd_eq hg] at this
      exact this
    · cases h
  · cases h
variable {P : Program} {sp : Sp} {inl : FuncId → Bool} {ext : FuncId → Option (List AV → Option (Bool × AV))} {cK : {β : Type} → CallK β}
theorem sum_lg {lp : Nat → LT} {nt : Nat} {body : Code} {keep : List Nat} (m : Nat) (hL : L.Ok) (hr : ∀ c, evC P sp inl ext cK lp body ⟨mkF nt keep (L.vs (L.emb c)), L.hp (L.emb c)⟩ (fun e st => (cutBack keep (L.hp (L.emb c)).length st).map fun q => (e, q.1, q.2)) = L.rnd c) :
    SumOkT P sp inl ext cK lp nt body keep (stF L.dec (fun s => L.gd s && L.ls.ok m s.c) fun s => L.ls.fin m (L.ls.end_ s.c).1 (L.ls.end_ s.c).2) := by
  obtain ⟨μ, h⟩ := sum_ls (P := P) (sp := sp) (inl := inl) (ext := ext) (cK := cK) (lp := lp) (nt := nt) (body := body) (keep := keep) L.ls m (L.ls_ok hL) hr
  have e : ∀ vs H, (stF L.dec (fun s => L.gd s && L.ls.ok m s.c) (fun s => L.ls.fin m (L.ls.end_ s.c).1 (L.ls.end_ s.c).2) vs H).run = (stF L.ls.dec (L.ls.ok m) (fun s => L.ls.fin m (L.ls.end_ s).1 (L.ls.end_ s).2) vs H).run := fun vs H => by
    unfold stF
    show _ = (match (match L.dec vs H with | some s => if L.gd s then some s.c else none | none => none) with
      | some s => Tr.chk (L.ls.ok m s) (L.ls.fin m (L.ls.end_ s).1 (L.ls.end_ s).2)
      | none => Tr.non).run
    cases L.dec vs H with
    | none => rfl
    | some s =>
      simp only
      cases hg : L.gd s with
      | true => simp
      | false => simp [Tr.run]
  refine ⟨μ, fun vs H R hv hR => ?_⟩
  rw [e] at hR
  obtain ⟨e1, vs1, H1, h1, h2⟩ := h vs H R hv hR
  refine ⟨e1, vs1, H1, h1, ?_⟩
  cases e1 with
  | normal => simp only at h2 ⊢; rw [e]; exact h2
  | _ => exact h2
end
end
end Go.Evl

/- The span tree seat's context: no function without a body, no recovering wrapper. No condition. -/
namespace Go.Proofs.Ytfgniheefiefjaa
open Go.Evl Go.RowKit

noncomputable def codeOf (P : Program) (f : Nat) : Code := match P.funcs[f]? with
  | some fn => fn.body.getD .skip
  | none => .skip
def attD (_ : FuncId) : Option Att := none
theorem attD_ok : ∀ f T, attD f = some T → T.fa = f ∧ T.Ok Try.prog := fun _ _ h => by cases h
theorem mixedD : Try.prog.follows .mixedOrders = true := by kernel_rfl
def InvD (_ : World) : Prop := True
theorem stableD : Stable InvD := fun _ _ _ _ => trivial
def extD (_ : FuncId) : Option (List AV → Option (Bool × AV)) := none
theorem extD_ok : ExtHolds Try.prog extD := fun _ _ h => by cases h
def uD (_ : FuncId) (_ : Nat) : Nat := 200
noncomputable abbrev cKD (l : List Ent) (il : List FuncId) {β : Type} : CallK β := callK Try.prog (spOf l) (inlOf il) extD attD uD 20
theorem specD {l : List Ent} {il : List FuncId} (hl : (mkCx Try.prog (spOf l) (inlOf il) extD).Ok InvD) {f : FuncId} {fn : Func} (hfn : Try.prog.funcs[f]? = some fn) {c : Code} (hb : fn.body = some c) (lp : Nat → LT)
    (hlp : ∀ p ∈ loops c, LoopOkT Try.prog (spOf l) (inlOf il) extD (cKD l il) lp fn.ntmps p.2 (lp p.1)) {s : List AV → Tr Res}
    (h : ∀ args r, (s args).run = some r → Nat.ble args.length fn.ntmps = true ∧ okRes r = true ∧ evFn Try.prog (spOf l) (inlOf il) extD (cKD l il) lp fn args [] (fun r _ => some r) = some r) :
    SpecHolds Try.prog InvD f fun a => (s a).run :=
  spec_of_ev Try.prog (spOf l) (inlOf il) extD (cKD l il) (fun {β} => callK_eq (β := β) Try.prog (spOf l) (inlOf il) extD attD uD 20) hl stableD mixedD (callN_sound attD_ok hl stableD mixedD 20) hfn hb lp hlp h
theorem cx_of {l : List Ent} (il : List FuncId) (hb : (l.map (fun p => keyN p.1) ++ il).all (bodyB Try.prog) = true) (hs : ∀ p ∈ l, EntHolds Try.prog InvD p) : (mkCx Try.prog (spOf l) (inlOf il) extD).Ok InvD :=
  cx_ok hb extD_ok hs
noncomputable def bodyOf (P : Program) (f i : Nat) : Code := (((loops (codeOf P f)).find? (fun p => Nat.beq p.1 i)).map (·.2)).getD .skip
theorem cx0 : (mkCx Try.prog (spOf []) (inlOf []) extD).Ok InvD := cx_ok (by kernel_rfl) extD_ok (fun p hp => by cases hp)
end Go.Proofs.Ytfgniheefiefjaa

/- awake, by its run. No condition. -/
namespace Go.Proofs.Ytfgniheefiefjaa
open Go.Evl Go.RowKit
def slT : List FuncId := [12,14,17,18,25,37,38,39,40,41,42,43,44,45,50,51,52,53,58,59,64,66,71]
def ilT : List FuncId := [19,33,36,54,55,56,57,67,68,69,70,72,73,74,78,79,80,88,89,91]
noncomputable def spT (n : Nat) : Sp := autoSpC Try.prog [] slT ilT extD attD uD n
theorem spT_ok (n : Nat) : (mkCx Try.prog (spT n) (inlOf ilT) extD).Ok InvD :=
  autoSpC_ok attD_ok (by kernel_rfl) extD_ok (fun p hp => by cases hp) stableD mixedD n
theorem awake_run : (callK Try.prog (spT 8) (inlOf ilT) extD attD uD 40 11 [] [] (castT .aut)).run = some (.ret (.bool true)) := by kernel_rfl
def iAw : Ent := ⟨11, fun
  | [] => .leaf (.ret (.bool true))
  | _ => .non⟩
theorem iAw_ok : SpecHolds Try.prog InvD 11 fun a => (iAw.2 a).run := by
  intro args r h
  simp only [iAw] at h
  split at h
  · simp only [Tr.run, Option.some.injEq] at h
    subst h
    exact auto_specC (u := uD) attD_ok (spT_ok 8) stableD mixedD 40 11 [] (.ret (.bool true)) awake_run
  · simp [Tr.run] at h
end Go.Proofs.Ytfgniheefiefjaa
