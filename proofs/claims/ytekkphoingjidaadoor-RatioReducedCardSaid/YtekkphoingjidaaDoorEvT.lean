/- Calls in place, to a depth; a context out of lists. Conditions: the lists' contracts hold. -/
import Derived.Test.YtekkphoingjidaaDoorEvS
namespace Go.Evl
open Go.RowKit

def unrl (u : Nat → Nat) (i : Nat) : LT := .unroll (u i)

theorem loopsOk_unroll {Γ : Cx} {cf : CallF} {df : DrawF} (u : Nat → Nat) (nt : Nat) (c : Code) : LoopsOk Γ cf df (fun i => (unrl u i).lk) nt c := by
  intro p _ keep f h
  cases h

def callN (Γ : Cx) (att : FuncId → Option Att) (u : FuncId → Nat → Nat) : Nat → CallF
  | 0, _, _, _ => none
  | n + 1, f, args, H =>
    match att f with
    | some T => if Nat.ble args.length T.fna.ntmps then attRun Γ (callN Γ att u n) (drawF Γ) (fun i => (unrl (u f) i).lk) (fun i => (unrl (u f) i).lk) T args H else none
    | none => match Γ.P.funcs[f]? with
      | some fn => if Nat.ble args.length fn.ntmps then runFn Γ (callN Γ att u n) (drawF Γ) (fun i => (unrl (u f) i).lk) fn args H else none
      | none => none

theorem callN_sound {Γ : Cx} {Inv : World → Prop} {att : FuncId → Option Att} {u : FuncId → Nat → Nat} (hatt : ∀ f T, att f = some T → T.fa = f ∧ T.Ok Γ.P) (hΓ : Γ.Ok Inv) (hI : Stable Inv)
    (hm : Γ.P.follows .mixedOrders = true) : ∀ n, CallSound Γ.P Inv (callN Γ att u n) := by
  intro n
  induction n with
  | zero => intro f args H r H' h; simp [callN] at h
  | succ n ih =>
    intro f args H r H' h w0 ρ A w vs h0 hmem hv
    simp only [callN] at h
    split at h
    · rename_i T hT
      obtain ⟨rfl, hok⟩ := hatt f T hT
      split at h
      · rename_i hle
        exact attRun_sound hok hΓ hI h0 ih (drawF_sound hΓ hI hm) drawF_len (loopsOk_unroll _ _ _) (loopsOk_unroll _ _ _) (loopsOk_unroll _ _ _) (by simpa using hle) h hmem hv
      · simp at h
    · split at h
      · rename_i fn hfn
        split at h
        · rename_i hle
          cases hb : fn.body with
          | none => simp [runFn, hb] at h
          | some c => exact runFn_sound hΓ hI h0 ih (drawF_sound hΓ hI hm) drawF_len hfn hb (loopsOk_unroll _ _ _) (by simpa using hle) h hmem hv
        · simp at h
      · simp at h

section
variable {β : Type} (P : Program) (sp : Sp) (inl : FuncId → Bool) (ext : FuncId → Option (List AV → Option (Bool × AV))) (cK : CallK β) {cf : CallF}

def attEndK (T : Att) (k : Res → List Ob → Option β) (tm : List AV) (H : List Ob) : Option β :=
  match attEnd P T tm H with
  | some (r, H') => k r H'
  | none => none
def attK (lp lpg : Nat → LT) (T : Att) (args : List AV) (H : List Ob) (k : Res → List Ob → Option β) : Option β :=
  evC P sp inl ext cK lp T.A ⟨frame0 T.fna args, H⟩ fun e st0 => match e with
    | .normal => evStep P sp inl ext cK #[T.om, T.od] 0 st0 fun b st1 =>
      bif b then
        match getT st1.tm T.t with
        | .fn (.func g) cs =>
          bif Nat.beq g T.g && Nat.ble cs.length T.fng.ntmps then
            evC P sp inl ext cK lp T.C st1 fun e st2 => match e with
              | .ret => attEndK P T k st2.tm st2.hp
              | .normal => attEndK P T k st2.tm st2.hp
              | .pan => evC P sp inl ext cK lpg T.X ⟨((frame0 T.fng cs).set T.dr .junk).set T.db (.bool true), st2.hp⟩ fun e st3 => match e with
                | .normal => attEndK P T k st2.tm st3.hp
                | _ => none
              | _ => none
          else none
        | _ => none
      else none
    | _ => none
theorem attK_eq (hcf : CallEq cK cf) (lp lpg : Nat → LT) (T : Att) (args : List AV) (H : List Ob) (k : Res → List Ob → Option β) : attK P sp inl ext cK lp lpg T args H k =
    (attRun (mkCx P sp inl ext) cf (drawF (mkCx P sp inl ext)) (fun i => (lp i).lk) (fun i => (lpg i).lk) T args H).bind fun p => k p.1 p.2 := by
  have hend : ∀ tm H, attEndK P T k tm H = (attEnd P T tm H).bind fun p => k p.1 p.2 := by
    intro tm H
    unfold attEndK
    cases attEnd P T tm H <;> rfl
  unfold attK attRun
  rw [evC_eq P sp inl ext cK hcf lp _ T.A (Nat.le_refl _)]
  cases runC (mkCx P sp inl ext) cf (drawF (mkCx P sp inl ext)) (fun i => (lp i).lk) T.A ⟨frame0 T.fna args, H⟩ with
  | none => rfl
  | some p =>
    obtain ⟨e, st0⟩ := p
    cases e with
    | normal =>
      simp only [Option.bind_some]
      rw [evStep_eq P sp inl ext cK hcf]
      cases stepA (mkCx P sp inl ext) cf #[T.om, T.od] 0 st0 with
      | none => rfl
      | some p =>
        obtain ⟨b, st1⟩ := p
        cases b with
        | false => rfl
        | true =>
          simp only [Option.bind_some, cond_true]
          cases getT st1.tm T.t with
          | fn fv cs =>
            cases fv with
            | func g =>
              simp only
              cases (Nat.beq g T.g && Nat.ble cs.length T.fng.ntmps) with
              | false => rfl
              | true =>
                simp only [cond_true, if_true]
                rw [evC_eq P sp inl ext cK hcf lp _ T.C (Nat.le_refl _)]
                cases runC (mkCx P sp inl ext) cf (drawF (mkCx P sp inl ext)) (fun i => (lp i).lk) T.C st1 with
                | none => rfl
                | some p =>
                  obtain ⟨e, st2⟩ := p
                  cases e with
                  | normal => exact hend _ _
                  | ret => exact hend _ _
                  | exit i => rfl
                  | pan =>
                    simp only [Option.bind_some]
                    rw [evC_eq P sp inl ext cK hcf lpg _ T.X (Nat.le_refl _)]
                    cases runC (mkCx P sp inl ext) cf (drawF (mkCx P sp inl ext)) (fun i => (lpg i).lk) T.X ⟨((frame0 T.fng cs).set T.dr .junk).set T.db (.bool true), st2.hp⟩ with
                    | none => rfl
                    | some p =>
                      obtain ⟨e, st3⟩ := p
                      cases e with
                      | normal => exact hend _ _
                      | _ => rfl
            | _ => rfl
          | _ => rfl
    | _ => rfl
end

def callK {β : Type} (P : Program) (sp : Sp) (inl : FuncId → Bool) (ext : FuncId → Option (List AV → Option (Bool × AV))) (att : FuncId → Option Att) (u : FuncId → Nat → Nat) : Nat → CallK β
  | 0, _, _, _, _ => none
  | n + 1, f, args, H, k =>
    match att f with
    | some T => bif Nat.ble args.length T.fna.ntmps then attK P sp inl ext (callK P sp inl ext att u n) (unrl (u f)) (unrl (u f)) T args H k else none
    | none => match P.funcs[f]? with
      | some fn => bif Nat.ble args.length fn.ntmps then evFn P sp inl ext (callK P sp inl ext att u n) (unrl (u f)) fn args H k else none
      | none => none
theorem callK_eq {β : Type} (P : Program) (sp : Sp) (inl : FuncId → Bool) (ext : FuncId → Option (List AV → Option (Bool × AV))) (att : FuncId → Option Att) (u : FuncId → Nat → Nat) : ∀ n, CallEq (callK (β := β) P sp inl ext att u n) (callN (mkCx P sp inl ext) att u n) := by
  intro n
  induction n with
  | zero => intro f args H k; rfl
  | succ n ih =>
    intro f args H k
    simp only [callK, callN]
    cases att f with
    | some T =>
      simp only
      cases Nat.ble args.length T.fna.ntmps with
      | false => rfl
      | true => exact attK_eq P sp inl ext _ ih _ _ T args H k
    | none =>
      simp only
      show _ = Option.bind (match P.funcs[f]? with | some fn => _ | none => _) _
      cases P.funcs[f]? with
      | none => rfl
      | some fn =>
        simp only
        cases Nat.ble args.length fn.ntmps with
        | false => rfl
        | true => exact evFn_eq P sp inl ext _ ih _ fn args H k
end Go.Evl
