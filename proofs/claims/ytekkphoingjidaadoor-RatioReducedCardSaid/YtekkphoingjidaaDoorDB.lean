/- Contracts of the ratio package's small functions. Conditions: none beyond the context's. -/
import Derived.Test.YtekkphoingjidaaDoorDA
namespace Go.Proofs.YtekkphoingjidaaDoor
open Go.Evl Go.RowKit

noncomputable abbrev cKD (l : List Ent) (il : List FuncId) {β : Type} : CallK β := callK Tryd.prog (spOf l) (inlOf il) extD attD uD 20
theorem specD {l : List Ent} {il : List FuncId} (hl : (mkCx Tryd.prog (spOf l) (inlOf il) extD).Ok InvD) {f : FuncId} {fn : Func} (hfn : Tryd.prog.funcs[f]? = some fn) {c : Code} (hb : fn.body = some c) (lp : Nat → LT)
    (hlp : ∀ p ∈ loops c, LoopOkT Tryd.prog (spOf l) (inlOf il) extD (cKD l il) lp fn.ntmps p.2 (lp p.1)) {s : List AV → Tr Res}
    (h : ∀ args r, (s args).run = some r → Nat.ble args.length fn.ntmps = true ∧ okRes r = true ∧ evFn Tryd.prog (spOf l) (inlOf il) extD (cKD l il) lp fn args [] (fun r _ => some r) = some r) :
    SpecHolds Tryd.prog InvD f fun a => (s a).run :=
  spec_of_ev Tryd.prog (spOf l) (inlOf il) extD (cKD l il) (fun {β} => callK_eq (β := β) Tryd.prog (spOf l) (inlOf il) extD attD uD 20) hl stableD mixedD (callN_sound attD_ok hl stableD mixedD 20) hfn hb lp hlp h

theorem cx0 : (mkCx Tryd.prog (spOf []) (inlOf []) extD).Ok InvD := cx_ok (by kernel_rfl) extD_ok (fun p hp => by cases hp)
noncomputable def bodyOf (P : Program) (f i : Nat) : Code := (((loops (codeOf P f)).find? (fun p => Nat.beq p.1 i)).map (·.2)).getD .skip

theorem node_run {α : Type} {b : Bool} {x y : Tr α} {r : α} (h : (Tr.node b x y).run = some r) : (b = true ∧ x.run = some r) ∨ (b = false ∧ y.run = some r) := by
  cases b with
  | true => exact .inl ⟨rfl, h⟩
  | false => exact .inr ⟨rfl, h⟩

/-- the absolute value; written so that the kernel does not take it for a numeral -/
def absI (n : Int) : Int := if n < 0 then -n else n
/-- the greatest common divisor of two numbers that are not negative -/
def gcdI (a b : Int) : Int := if a < 0 then 0 else (Nat.gcd a.toNat b.toNat : Int)
theorem absI_eq (n : Int) : absI n = n.natAbs := by unfold absI; split <;> omega
theorem gcdI_eq (x y : Nat) : gcdI x y = (Nat.gcd x y : Int) := by
  have h : ¬ (x : Int) < 0 := by omega
  simp [gcdI, h]

/-! magnitude -/
def e36 : Ent := ⟨36, fun
  | [.int .i64 n] => .node (decide (-9223372036854775808 ≤ n) && decide (n < 9223372036854775808)) (.leaf (.ret (.int .u64 (absI n)))) .non
  | _ => .non⟩
theorem tree36 (n : Int) : evFn Tryd.prog (spOf []) (inlOf []) extD (cKD [] []) (fun _ => .unroll 0) Tryd.f36 [.int .i64 n] [] (fun r _ => some r) =
    bif decide (n < 0) then some (.ret (.int .u64 (IntKind.u64.wrap (0 - IntKind.u64.wrap n)))) else some (.ret (.int .u64 (IntKind.u64.wrap n))) := by kernel_rfl
theorem e36_ok : SpecHolds Tryd.prog InvD 36 fun a => (e36.2 a).run := by
  refine specD cx0 Tryd.func36 (c := codeOf Tryd.prog 36) (by kernel_rfl) (fun _ => .unroll 0) (fun _ _ => trivial) fun args r h => ?_
  simp only [e36] at h
  split at h
  · rename_i n
    rcases node_run h with ⟨hc, h⟩ | ⟨_, h⟩
    · simp only [Tr.run, Option.some.injEq] at h
      subst h
      simp only [Bool.and_eq_true, decide_eq_true_eq] at hc
      refine ⟨by kernel_rfl, rfl, ?_⟩
      rw [tree36, absI_eq]
      by_cases h0 : n < 0
      · simp only [h0, decide_true, cond_true, Option.some.injEq, Res.ret.injEq, AV.int.injEq, true_and, IntKind.wrap_u64]
        omega
      · simp only [h0, decide_false, cond_false, Option.some.injEq, Res.ret.injEq, AV.int.injEq, true_and, IntKind.wrap_u64]
        omega
    · simp [Tr.run] at h
  · simp [Tr.run] at h

/-! divisor -/
def f37 : List AV → List Ob → Tr (Ex × List AV × List Ob)
  | [.int .u64 a, .int .u64 b], [] => .node (decide (0 ≤ a) && decide (0 ≤ b)) (.leaf (.exit 0, [.int .u64 (gcdI a b), .int .u64 0], [])) .non
  | _, _ => .non
def e37 : Ent := ⟨37, fun
  | [.int .u64 a, .int .u64 b] => .node (decide (0 ≤ a) && decide (0 ≤ b)) (.leaf (.ret (.int .u64 (gcdI a b)))) .non
  | _ => .non⟩
theorem loop37 (a b : Int) : evC (β := Ex × List AV × List Ob) Tryd.prog (spOf []) (inlOf []) extD (cKD [] []) (fun _ => .sum [0, 1] f37) (bodyOf Tryd.prog 37 0) ⟨mkF Tryd.f37.ntmps [0, 1] [.int .u64 a, .int .u64 b], []⟩
      (fun e st => (cutBack [0, 1] ([] : List Ob).length st).map fun q => (e, q.1, q.2)) =
    bif b != 0 then bif !decide (b = 0) then some (.normal, [.int .u64 b, .int .u64 (a.tmod b)], []) else none else some (.exit 0, [.int .u64 a, .int .u64 b], []) := by kernel_rfl
theorem tree37 (a b : Int) : evFn Tryd.prog (spOf []) (inlOf []) extD (cKD [] []) (fun _ => .sum [0, 1] f37) Tryd.f37 [.int .u64 a, .int .u64 b] [] (fun r _ => some r) =
    bif decide (0 ≤ a) && decide (0 ≤ b) then some (.ret (.int .u64 (gcdI a b))) else none := by kernel_rfl
theorem gcd_step (x y : Nat) : Nat.gcd x y = Nat.gcd y (x % y) := by rw [Nat.gcd_comm x y, Nat.gcd_rec y x, Nat.gcd_comm]
theorem e37_ok : SpecHolds Tryd.prog InvD 37 fun a => (e37.2 a).run := by
  refine specD cx0 Tryd.func37 (c := codeOf Tryd.prog 37) (by kernel_rfl) (fun _ => .sum [0, 1] f37) (fun p hp => ?_) fun args r h => ?_
  · have hl : loops (codeOf Tryd.prog 37) = [(0, bodyOf Tryd.prog 37 0)] := by kernel_rfl
    rw [hl, List.mem_singleton] at hp
    subst hp
    dsimp only [LoopOkT]
    refine ⟨by decide, by decide, fun vs _ => match vs with | [_, .int _ b] => b.toNat | _ => 0, fun vs H R hv hR => ?_⟩
    unfold f37 at hR
    split at hR
    · rename_i a b
      rcases node_run hR with ⟨hc, hR⟩ | ⟨_, hR⟩
      · simp only [Tr.run, Option.some.injEq] at hR
        subst hR
        simp only [Bool.and_eq_true, decide_eq_true_eq] at hc
        obtain ⟨x, rfl⟩ := Int.eq_ofNat_of_zero_le hc.1
        obtain ⟨y, rfl⟩ := Int.eq_ofNat_of_zero_le hc.2
        by_cases hy : y = 0
        · subst hy
          have ht := loop37 (x : Int) ((0 : Nat) : Int)
          have h0 : (((0 : Nat) : Int) != 0) = false := rfl
          rw [h0] at ht
          simp only [cond_false] at ht
          refine ⟨_, _, _, ht, ?_⟩
          dsimp only
          rw [gcdI_eq x 0, Nat.gcd_zero_right]
          rfl
        · have h1 : ((y : Int) != 0) = true := by simp; omega
          have h2 : (!decide ((y : Int) = 0)) = true := by simp; omega
          have ht := loop37 (x : Int) (y : Int)
          rw [h1, h2] at ht
          simp only [cond_true] at ht
          refine ⟨_, _, _, ht, ?_, ?_⟩
          · have h3 : (x : Int).tmod (y : Int) = ((x % y : Nat) : Int) := rfl
            rw [h3]
            have hd : (decide (0 ≤ (y : Int)) && decide (0 ≤ ((x % y : Nat) : Int))) = true := by
              rw [Bool.and_eq_true]; exact ⟨decide_eq_true (Int.natCast_nonneg _), decide_eq_true (Int.natCast_nonneg _)⟩
            simp only [f37, Tr.run, hd, cond_true, gcdI_eq, gcd_step x y]
          · have h3 : (x : Int).tmod (y : Int) = ((x % y : Nat) : Int) := rfl
            rw [h3]
            simp only [Int.toNat_natCast]
            exact Nat.mod_lt _ (by omega)
      · simp [Tr.run] at hR
    · simp [Tr.run] at hR
  · simp only [e37] at h
    split at h
    · rename_i a b
      rcases node_run h with ⟨hc, h⟩ | ⟨_, h⟩
      · simp only [Tr.run, Option.some.injEq] at h
        subst h
        refine ⟨by kernel_rfl, rfl, ?_⟩
        rw [tree37, hc]; rfl
      · simp [Tr.run] at h
    · simp [Tr.run] at h
end Go.Proofs.YtekkphoingjidaaDoor
