/- Contracts that are the run itself, to a depth: for calls with known arguments. math/bits' additions with a carry. Conditions: the base's contracts hold. -/
import Derived.Test.YtekkphoingjidaaDoorEvU
import Derived.Laws.Externs
namespace Go.Evl
open Go.RowKit

def autoSp (P : Program) (l0 : List Ent) (sl il : List FuncId) (ext : FuncId → Option (List AV → Option (Bool × AV))) (att : FuncId → Option Att) (u : FuncId → Nat → Nat) : Nat → Sp
  | 0 => spOf l0
  | n + 1 => fun f => match spOf l0 f with
    | some s => some s
    | none => bif inlOf sl f then some fun args => match callK P (autoSp P l0 sl il ext att u n) (inlOf il) ext att u 40 f args [] (fun r _ => some r) with
        | some r => bif okRes r then .leaf r else .non
        | none => .non
      else none

theorem auto_spec {P : Program} {Inv : World → Prop} {sp : Sp} {inl : FuncId → Bool} {ext : FuncId → Option (List AV → Option (Bool × AV))} {att : FuncId → Option Att} {u : FuncId → Nat → Nat} (hatt : ∀ f T, att f = some T → T.fa = f ∧ T.Ok P)
    (hΓ : (mkCx P sp inl ext).Ok Inv) (hI : Stable Inv) (hm : P.follows .mixedOrders = true) (n : Nat) (f : FuncId) : SpecHolds P Inv f fun args => (callK P sp inl ext att u n f args [] fun r _ => some r).filter okRes := by
  intro args r h ρ A w vs hA hi hv
  obtain ⟨h, hok⟩ := Option.filter_eq_some_iff.1 h
  rw [callK_eq] at h
  obtain ⟨⟨r', H'⟩, hrun, hk⟩ := Option.bind_eq_some_iff.1 h
  simp only [Option.some.injEq] at hk
  subst hk
  have hmem : Mem w ρ A w [] := ⟨⟨fun id o ho => by simp at ho, fun i j hi => by obtain ⟨o, ho, _⟩ := hi; simp at ho⟩, Below.refl _ _, hA⟩
  refine (callN_sound (Γ := mkCx P sp inl ext) hatt hΓ hI hm n f args [] r' H' hrun w ρ A w vs hi hmem (hv.mono (fun _ h => h.elim) (fun _ h => h.elim) (fun _ h => h) (fun _ _ => rfl))).mono ?_
  rintro e w' ⟨ρ', A', hm', hext, hres⟩
  refine ⟨hm'.bel, ?_⟩
  cases r' with
  | ret v =>
    obtain ⟨u, rfl, hu⟩ := hres
    refine ⟨u, rfl, (hu.bnd0 hok).mono (fun _ h => h) (fun _ h => h.elim) (fun b hb => ?_) (fun _ _ => rfl)⟩
    exact (hext.late b hb).imp id (fun hl => ⟨hl, hm'.lt b hb⟩)
  | pan => exact hres

theorem autoSp_ok {P : Program} {Inv : World → Prop} {l0 : List Ent} {sl il : List FuncId} {ext : FuncId → Option (List AV → Option (Bool × AV))} {att : FuncId → Option Att} {u : FuncId → Nat → Nat} (hatt : ∀ f T, att f = some T → T.fa = f ∧ T.Ok P)
    (hb : (l0.map (·.1) ++ (sl ++ il)).all (bodyB P) = true) (hext : ExtHolds P ext) (hs : ∀ p ∈ l0, SpecHolds P Inv p.1 fun a => (p.2 a).run) (hI : Stable Inv) (hm : P.follows .mixedOrders = true) :
    ∀ n, (mkCx P (autoSp P l0 sl il ext att u n) (inlOf il) ext).Ok Inv := by
  have hbody : ∀ f, f ∈ l0.map (·.1) ∨ inlOf sl f = true ∨ inlOf il f = true → ∃ fn, P.funcs[f]? = some fn ∧ (fn.name == "runtime.NumGoroutine") = false ∧ fn.body.isNone = false := by
    intro f hf
    have hmem : f ∈ l0.map (·.1) ++ (sl ++ il) := by
      rcases hf with hf | hf | hf
      · exact List.mem_append_left _ hf
      · simp only [inlOf, List.any_eq_true, Nat.beq_eq] at hf
        obtain ⟨g, hg, rfl⟩ := hf
        exact List.mem_append_right _ (List.mem_append_left _ hg)
      · simp only [inlOf, List.any_eq_true, Nat.beq_eq] at hf
        obtain ⟨g, hg, rfl⟩ := hf
        exact List.mem_append_right _ (List.mem_append_right _ hg)
    have := List.all_eq_true.1 hb f hmem
    unfold bodyB at this
    split at this
    · rename_i fn hfn
      simp only [Bool.and_eq_true, Bool.not_eq_true'] at this
      refine ⟨fn, hfn, this.1, ?_⟩
      cases hh : fn.body with
      | none => rw [hh] at this; simp at this
      | some c => rfl
    · simp at this
  intro n
  induction n with
  | zero =>
    refine ⟨fun f hf => hbody f ?_, hext, ?_⟩
    · rcases hf with hf | hf
      · simp only [mkCx, autoSp, Option.isSome_map] at hf
        obtain ⟨s, hs⟩ := Option.isSome_iff_exists.1 hf
        obtain ⟨p, hp, rfl, _⟩ := spOf_some hs
        exact .inl (List.mem_map.2 ⟨p, hp, rfl⟩)
      · exact .inr (.inr hf)
    · intro f s hf
      simp only [mkCx, autoSp, Option.map_eq_some_iff] at hf
      obtain ⟨t, ht, rfl⟩ := hf
      obtain ⟨p, hp, rfl, rfl⟩ := spOf_some ht
      exact hs p hp
  | succ n ih =>
    refine ⟨fun f hf => hbody f ?_, hext, ?_⟩
    · rcases hf with hf | hf
      · simp only [mkCx, autoSp, Option.isSome_map] at hf
        split at hf
        · rename_i s hs
          obtain ⟨p, hp, rfl, _⟩ := spOf_some hs
          exact .inl (List.mem_map.2 ⟨p, hp, rfl⟩)
        · cases hsl : inlOf sl f with
          | true => exact .inr (.inl rfl)
          | false => simp [hsl] at hf
      · exact .inr (.inr hf)
    · intro f s hf
      simp only [mkCx, autoSp, Option.map_eq_some_iff] at hf
      obtain ⟨t, ht, rfl⟩ := hf
      split at ht
      · rename_i s hs'
        simp only [Option.some.injEq] at ht
        subst ht
        obtain ⟨p, hp, rfl, rfl⟩ := spOf_some hs'
        exact hs p hp
      · cases hsl : inlOf sl f with
        | false => simp [hsl] at ht
        | true =>
          simp only [hsl, cond_true, Option.some.injEq] at ht
          subst ht
          intro args r hr ρ A w vs hA hi hv
          simp only at hr
          split at hr
          · rename_i r' hrun
            cases hok : okRes r' with
            | false => simp [hok, Tr.run] at hr
            | true =>
              simp only [hok, cond_true, Tr.run, Option.some.injEq] at hr
              subst hr
              exact auto_spec hatt ih hI hm 40 f args r' (Option.filter_eq_some_iff.2 ⟨hrun, hok⟩) ρ A w vs hA hi hv
          · simp [Tr.run] at hr
end Go.Evl
