/- The ratio package's contracts. Conditions: none beyond the context's. -/
import Derived.Test.YtekkphoingjidaaDoorDC0
namespace Go.Proofs.YtekkphoingjidaaDoor
open Go.Evl Go.RowKit

theorem tree40 (a b : Int) : evFn Tryd.prog (spOf []) (inlOf []) extD (cKD [] []) (fun _ => .sum [0, 1] f40) Tryd.f40 [.int .i64 a, .int .i64 b] [] (fun r _ => some r) =
    (bif decide (0 ≤ a) && decide (0 ≤ b) then some (Res.ret (AV.int IntKind.i64 (gcdI a b))) else none : Option Res) := by kernel_rfl
theorem tree41 (a : Int) : evFn Tryd.prog (spOf []) (inlOf []) extD (cKD [] []) (fun _ => .unroll 0) Tryd.f41 [.int .i64 a] [] (fun r _ => some r) =
    (bif decide (a < 0) then some (Res.ret (AV.int IntKind.i64 (IntKind.i64.wrap (0 - a))))
    else some (Res.ret (AV.int IntKind.i64 a)) : Option Res) := by kernel_rfl
theorem tree13 (a b : Int) : evFn Tryd.prog (spOf [e36, e37]) (inlOf []) extD (cKD [e36, e37] []) (fun _ => .unroll 0) Tryd.f13 [.agg [.int .i64 a, .int .i64 b]] [] (fun r _ => some r) =
    (bif decide (b < 1) then some (Res.ret (AV.int IntKind.i64 1))
    else
      bif decide (b > 1152921504606846976) then some (Res.ret (AV.int IntKind.i64 1))
      else
        bif decide (a < -1152921504606846976) then some (Res.ret (AV.int IntKind.i64 1))
        else
          bif decide (a > 1152921504606846976) then some (Res.ret (AV.int IntKind.i64 1))
          else
            bif decide (-9223372036854775808 ≤ a) && decide (a < 9223372036854775808) then
              bif decide (0 ≤ absI a) && decide (0 ≤ IntKind.u64.wrap b) then
                bif gcdI (absI a) (IntKind.u64.wrap b) != 1 then some (Res.ret (AV.int IntKind.i64 1))
                else some (Res.ret (AV.int IntKind.i64 0))
              else none
            else none : Option Res) := by kernel_rfl
theorem tree14 (a b : Int) : evFn Tryd.prog (spOf [e40, e41]) (inlOf []) extD (cKD [e40, e41] []) (fun _ => .unroll 0) Tryd.f14 [.agg [.int .i64 a, .int .i64 b]] [] (fun r _ => some r) =
    (bif decide (b < 1) then some (Res.ret (AV.int IntKind.i64 1))
    else
      bif decide (b > 1152921504606846976) then some (Res.ret (AV.int IntKind.i64 1))
      else
        bif decide (a < -1152921504606846976) then some (Res.ret (AV.int IntKind.i64 1))
        else
          bif decide (a > 1152921504606846976) then some (Res.ret (AV.int IntKind.i64 1))
          else
            bif decide (-9223372036854775808 < a) && decide (a < 9223372036854775808) then
              bif decide (0 ≤ absI a) && decide (0 ≤ b) then
                bif gcdI (absI a) b != 1 then some (Res.ret (AV.int IntKind.i64 1))
                else some (Res.ret (AV.int IntKind.i64 0))
              else none
            else none : Option Res) := by kernel_rfl
theorem tree15 (a b : Int) : evFn Tryd.prog (spOf [e13]) (inlOf []) extD (cKD [e13] []) (fun _ => .unroll 0) Tryd.f15 [.agg [.int .i64 a, .int .i64 b]] [] (fun r _ => some r) =
    (bif okB a b then
      bif decide (a ≥ 0) then
        bif !decide (b = 0) then some (Res.ret (AV.int IntKind.i64 (IntKind.i64.wrap (a.tdiv b)))) else none
      else
        bif !decide (b = 0) then
          some
            (Res.ret
              (AV.int IntKind.i64
                (IntKind.i64.wrap
                  (0 -
                    IntKind.i64.wrap ((IntKind.i64.wrap (IntKind.i64.wrap (IntKind.i64.wrap (0 - a) + b) - 1)).tdiv b)))))
        else none
    else some (Res.ret (AV.int IntKind.i64 0)) : Option Res) := by kernel_rfl
theorem tree44 (a b c d : Int) : evFn Tryd.prog (spOf [e13]) (inlOf []) extD (cKD [e13] []) (fun _ => .unroll 0) Tryd.f44 [.agg [.int .i64 a, .int .i64 b], .agg [.int .i64 c, .int .i64 d]] [] (fun r _ => some r) =
    (bif okB a b then bif okB c d then some (Res.ret (AV.bool true)) else some (Res.ret (AV.bool false))
    else some (Res.ret (AV.bool false)) : Option Res) := by kernel_rfl
theorem tree52 (a b : Int) : evFn Tryd.prog (spOf []) (inlOf [69]) extD (cKD [] [69]) (fun _ => .unroll 0) Tryd.f52 [.int .i64 a, .int .i64 b] [] (fun r _ => some r) =
    (bif a != a then bif b != b then some (Res.ret (AV.int IntKind.i64 0)) else some (Res.ret (AV.int IntKind.i64 (-1)))
    else
      bif b != b then some (Res.ret (AV.int IntKind.i64 1))
      else
        bif decide (a < b) then some (Res.ret (AV.int IntKind.i64 (-1)))
        else bif decide (a > b) then some (Res.ret (AV.int IntKind.i64 1)) else some (Res.ret (AV.int IntKind.i64 0)) : Option Res) := by kernel_rfl
theorem tree53 (a b : Int) : evFn Tryd.prog (spOf [e70]) (inlOf []) extD (cKD [e70] []) (fun _ => .unroll 0) Tryd.f53 [.int .u64 a, .int .u64 b] [] (fun r _ => some r) =
    (bif inU a && inU b then
      some
        (Res.ret
          (AV.agg [AV.int IntKind.u64 (a * b / 18446744073709551616), AV.int IntKind.u64 (a * b % 18446744073709551616)]))
    else none : Option Res) := by kernel_rfl
theorem tree54 (a b c d : Int) : evFn Tryd.prog (spOf []) (inlOf []) extD (cKD [] []) (fun _ => .unroll 0) Tryd.f54 [.agg [.int .u64 a, .int .u64 b], .agg [.int .u64 c, .int .u64 d]] [] (fun r _ => some r) =
    (bif decide (a < c) then some (Res.ret (AV.bool true))
    else
      bif a == c then bif decide (b < d) then some (Res.ret (AV.bool true)) else some (Res.ret (AV.bool false))
      else some (Res.ret (AV.bool false)) : Option Res) := by kernel_rfl
theorem tree26 (a b c d : Int) : evFn Tryd.prog (spOf [e36, e44, e52, e53, e54]) (inlOf []) extD (cKD [e36, e44, e52, e53, e54] []) (fun _ => .unroll 0) Tryd.f26 [.agg [.int .i64 a, .int .i64 b], .agg [.int .i64 c, .int .i64 d]] [] (fun r _ => some r) =
    (bif okB a b then
      bif okB c d then
        bif decide (a < 0) then
          bif decide (c < 0) then
            bif decide (-9223372036854775808 ≤ a) && decide (a < 9223372036854775808) then
              bif inU (absI a) && inU (IntKind.u64.wrap d) then
                bif decide (-9223372036854775808 ≤ c) && decide (c < 9223372036854775808) then
                  bif inU (absI c) && inU (IntKind.u64.wrap b) then
                    bif
                        absI a * IntKind.u64.wrap d / 18446744073709551616 ==
                            absI c * IntKind.u64.wrap b / 18446744073709551616 &&
                          (absI a * IntKind.u64.wrap d % 18446744073709551616 ==
                              absI c * IntKind.u64.wrap b % 18446744073709551616 &&
                            true) then
                      some (Res.ret (AV.int IntKind.i64 0))
                    else
                      bif
                          decide
                            (absI a * IntKind.u64.wrap d / 18446744073709551616 <
                              absI c * IntKind.u64.wrap b / 18446744073709551616) then
                        bif decide (a ≥ 0) then some (Res.ret (AV.int IntKind.i64 (-1)))
                        else some (Res.ret (AV.int IntKind.i64 1))
                      else
                        bif
                            absI a * IntKind.u64.wrap d / 18446744073709551616 ==
                              absI c * IntKind.u64.wrap b / 18446744073709551616 then
                          bif
                              decide
                                (absI a * IntKind.u64.wrap d % 18446744073709551616 <
                                  absI c * IntKind.u64.wrap b % 18446744073709551616) then
                            bif decide (a ≥ 0) then some (Res.ret (AV.int IntKind.i64 (-1)))
                            else some (Res.ret (AV.int IntKind.i64 1))
                          else
                            bif decide (a ≥ 0) then some (Res.ret (AV.int IntKind.i64 1))
                            else some (Res.ret (AV.int IntKind.i64 (-1)))
                        else
                          bif decide (a ≥ 0) then some (Res.ret (AV.int IntKind.i64 1))
                          else some (Res.ret (AV.int IntKind.i64 (-1)))
                  else none
                else none
              else none
            else none
          else
            bif decide (a < c) then some (Res.ret (AV.int IntKind.i64 (-1)))
            else bif decide (a > c) then some (Res.ret (AV.int IntKind.i64 1)) else some (Res.ret (AV.int IntKind.i64 0))
        else
          bif decide (c < 0) then
            bif decide (a < c) then some (Res.ret (AV.int IntKind.i64 (-1)))
            else bif decide (a > c) then some (Res.ret (AV.int IntKind.i64 1)) else some (Res.ret (AV.int IntKind.i64 0))
          else
            bif decide (-9223372036854775808 ≤ a) && decide (a < 9223372036854775808) then
              bif inU (absI a) && inU (IntKind.u64.wrap d) then
                bif decide (-9223372036854775808 ≤ c) && decide (c < 9223372036854775808) then
                  bif inU (absI c) && inU (IntKind.u64.wrap b) then
                    bif
                        absI a * IntKind.u64.wrap d / 18446744073709551616 ==
                            absI c * IntKind.u64.wrap b / 18446744073709551616 &&
                          (absI a * IntKind.u64.wrap d % 18446744073709551616 ==
                              absI c * IntKind.u64.wrap b % 18446744073709551616 &&
                            true) then
                      some (Res.ret (AV.int IntKind.i64 0))
                    else
                      bif
                          decide
                            (absI a * IntKind.u64.wrap d / 18446744073709551616 <
                              absI c * IntKind.u64.wrap b / 18446744073709551616) then
                        bif decide (a ≥ 0) then some (Res.ret (AV.int IntKind.i64 (-1)))
                        else some (Res.ret (AV.int IntKind.i64 1))
                      else
                        bif
                            absI a * IntKind.u64.wrap d / 18446744073709551616 ==
                              absI c * IntKind.u64.wrap b / 18446744073709551616 then
                          bif
                              decide
                                (absI a * IntKind.u64.wrap d % 18446744073709551616 <
                                  absI c * IntKind.u64.wrap b % 18446744073709551616) then
                            bif decide (a ≥ 0) then some (Res.ret (AV.int IntKind.i64 (-1)))
                            else some (Res.ret (AV.int IntKind.i64 1))
                          else
                            bif decide (a ≥ 0) then some (Res.ret (AV.int IntKind.i64 1))
                            else some (Res.ret (AV.int IntKind.i64 (-1)))
                        else
                          bif decide (a ≥ 0) then some (Res.ret (AV.int IntKind.i64 1))
                          else some (Res.ret (AV.int IntKind.i64 (-1)))
                  else none
                else none
              else none
            else none
      else some (Res.ret (AV.int IntKind.i64 0))
    else some (Res.ret (AV.int IntKind.i64 0)) : Option Res) := by kernel_rfl
theorem tree7 (a b : Int) : evFn Tryd.prog (spOf [e13, e14, e15, e26, e19]) (inlOf []) extD (cKD [e13, e14, e15, e26, e19] []) (fun _ => .unroll 0) Tryd.f7 [.agg [.int .i64 a, .int .i64 b]] [] (fun r _ => some r) =
    (bif okB a b then
      bif okB a b then
        bif decide (a / b < -1152921504606846976) then some (Res.ret (AV.bool false))
        else
          bif decide (a / b > 1152921504606846976) then some (Res.ret (AV.bool false))
          else
            bif okB a b && okB (a / b) 1 then
              bif decide (a * 1 < a / b * b) then some (Res.ret (AV.bool false))
              else
                bif decide (a * 1 = a / b * b) then
                  bif a / b == 1152921504606846976 then
                    bif decide (b > 1) then some (Res.ret (AV.bool true))
                    else bif a / b == a then some (Res.ret (AV.bool true)) else some (Res.ret (AV.bool false))
                  else
                    bif okB a b && okB (IntKind.i64.wrap (a / b + 1)) 1 then
                      bif decide (a * 1 < IntKind.i64.wrap (a / b + 1) * b) then
                        bif decide (b > 1) then some (Res.ret (AV.bool true))
                        else bif a / b == a then some (Res.ret (AV.bool true)) else some (Res.ret (AV.bool false))
                      else
                        bif decide (a * 1 = IntKind.i64.wrap (a / b + 1) * b) then some (Res.ret (AV.bool false))
                        else some (Res.ret (AV.bool false))
                    else some (Res.ret (AV.bool false))
                else
                  bif a / b == 1152921504606846976 then
                    bif decide (b > 1) then some (Res.ret (AV.bool true))
                    else bif a / b == a then some (Res.ret (AV.bool true)) else some (Res.ret (AV.bool false))
                  else
                    bif okB a b && okB (IntKind.i64.wrap (a / b + 1)) 1 then
                      bif decide (a * 1 < IntKind.i64.wrap (a / b + 1) * b) then
                        bif decide (b > 1) then some (Res.ret (AV.bool true))
                        else bif a / b == a then some (Res.ret (AV.bool true)) else some (Res.ret (AV.bool false))
                      else
                        bif decide (a * 1 = IntKind.i64.wrap (a / b + 1) * b) then some (Res.ret (AV.bool false))
                        else some (Res.ret (AV.bool false))
                    else some (Res.ret (AV.bool false))
            else
              bif a / b == 1152921504606846976 then
                bif decide (b > 1) then some (Res.ret (AV.bool true))
                else bif a / b == a then some (Res.ret (AV.bool true)) else some (Res.ret (AV.bool false))
              else
                bif okB a b && okB (IntKind.i64.wrap (a / b + 1)) 1 then
                  bif decide (a * 1 < IntKind.i64.wrap (a / b + 1) * b) then
                    bif decide (b > 1) then some (Res.ret (AV.bool true))
                    else bif a / b == a then some (Res.ret (AV.bool true)) else some (Res.ret (AV.bool false))
                  else
                    bif decide (a * 1 = IntKind.i64.wrap (a / b + 1) * b) then some (Res.ret (AV.bool false))
                    else some (Res.ret (AV.bool false))
                else some (Res.ret (AV.bool false))
      else
        bif okB a b && true then
          bif decide (a * 1 < 0 * b) then some (Res.ret (AV.bool false))
          else
            bif decide (a * 1 = 0 * b) then
              bif okB a b && true then
                bif decide (a * 1 < IntKind.i64.wrap (0 + 1) * b) then
                  bif decide (b > 1) then some (Res.ret (AV.bool true))
                  else bif 0 == a then some (Res.ret (AV.bool true)) else some (Res.ret (AV.bool false))
                else
                  bif decide (a * 1 = IntKind.i64.wrap (0 + 1) * b) then some (Res.ret (AV.bool false))
                  else some (Res.ret (AV.bool false))
              else some (Res.ret (AV.bool false))
            else
              bif okB a b && true then
                bif decide (a * 1 < IntKind.i64.wrap (0 + 1) * b) then
                  bif decide (b > 1) then some (Res.ret (AV.bool true))
                  else bif 0 == a then some (Res.ret (AV.bool true)) else some (Res.ret (AV.bool false))
                else
                  bif decide (a * 1 = IntKind.i64.wrap (0 + 1) * b) then some (Res.ret (AV.bool false))
                  else some (Res.ret (AV.bool false))
              else some (Res.ret (AV.bool false))
        else
          bif okB a b && true then
            bif decide (a * 1 < IntKind.i64.wrap (0 + 1) * b) then
              bif decide (b > 1) then some (Res.ret (AV.bool true))
              else bif 0 == a then some (Res.ret (AV.bool true)) else some (Res.ret (AV.bool false))
            else
              bif decide (a * 1 = IntKind.i64.wrap (0 + 1) * b) then some (Res.ret (AV.bool false))
              else some (Res.ret (AV.bool false))
          else some (Res.ret (AV.bool false))
    else some (Res.ret (AV.bool true)) : Option Res) := by kernel_rfl
/-! tools -/
theorem sp_elim {s : List AV → Tr Res} {args : List AV} {r : Res} (h : (s args).run = some r) : (s args).run = some r := h
theorem okB_iff {a b : Int} : okB a b = true ↔ 1 ≤ b ∧ b ≤ 1152921504606846976 ∧ -1152921504606846976 ≤ a ∧ a ≤ 1152921504606846976 ∧ Nat.gcd a.natAbs b.natAbs = 1 := by
  simp [okB]
theorem okB_not {a b : Int} (h : okB a b = false) : ¬ (1 ≤ b ∧ b ≤ 1152921504606846976 ∧ -1152921504606846976 ≤ a ∧ a ≤ 1152921504606846976 ∧ Nat.gcd a.natAbs b.natAbs = 1) := by
  simpa [okB] using h
theorem wrapU {x : Int} (h0 : 0 ≤ x) (h1 : x < 18446744073709551616) : IntKind.u64.wrap x = x := by rw [IntKind.wrap_u64]; omega
theorem wrapI {x : Int} (h0 : -9223372036854775808 ≤ x) (h1 : x < 9223372036854775808) : IntKind.i64.wrap x = x := by rw [IntKind.wrap_i64]; omega
theorem gcdI_of {a b : Int} (ha : 0 ≤ a) (hb : 0 ≤ b) : gcdI a b = (Nat.gcd a.natAbs b.natAbs : Int) := by
  obtain ⟨x, rfl⟩ := Int.eq_ofNat_of_zero_le ha
  obtain ⟨y, rfl⟩ := Int.eq_ofNat_of_zero_le hb
  rw [gcdI_eq]; rfl
theorem absI_natAbs (a : Int) : (absI a).natAbs = a.natAbs := by rw [absI_eq]; rfl
theorem absI_pos (a : Int) : 0 ≤ absI a := by rw [absI_eq]; omega
theorem cx_of {l : List Ent} (il : List FuncId) (hb : (l.map (·.1) ++ il).all (bodyB Tryd.prog) = true) (hs : ∀ p ∈ l, SpecHolds Tryd.prog InvD p.1 fun a => (p.2 a).run) : (mkCx Tryd.prog (spOf l) (inlOf il) extD).Ok InvD :=
  cx_ok hb extD_ok hs

/-! the reference's gcd and abs -/
theorem loop40 (a b : Int) : evC (β := Ex × List AV × List Ob) Tryd.prog (spOf []) (inlOf []) extD (cKD [] []) (fun _ => .sum [0, 1] f40) (bodyOf Tryd.prog 40 0) ⟨mkF Tryd.f40.ntmps [0, 1] [.int .i64 a, .int .i64 b], []⟩
      (fun e st => (cutBack [0, 1] ([] : List Ob).length st).map fun q => (e, q.1, q.2)) =
    bif decide (b > 0) then bif !decide (b = 0) then some (.normal, [.int .i64 b, .int .i64 (a.tmod b)], []) else none else some (.exit 0, [.int .i64 a, .int .i64 b], []) := by kernel_rfl
theorem e40_ok : SpecHolds Tryd.prog InvD 40 fun a => (e40.2 a).run := by
  refine specD cx0 Tryd.func40 (c := codeOf Tryd.prog 40) (by kernel_rfl) (fun _ => .sum [0, 1] f40) (fun p hp => ?_) fun args r h => ?_
  · have hl : loops (codeOf Tryd.prog 40) = [(0, bodyOf Tryd.prog 40 0)] := by kernel_rfl
    rw [hl, List.mem_singleton] at hp
    subst hp
    dsimp only [LoopOkT]
    refine ⟨by decide, by decide, fun vs _ => match vs with | [_, .int _ b] => b.toNat | _ => 0, fun vs H R hv hR => ?_⟩
    unfold f40 at hR
    split at hR
    · rename_i a b
      rcases node_run hR with ⟨hc, hR⟩ | ⟨_, hR⟩
      · simp only [Tr.run, Option.some.injEq] at hR
        subst hR
        simp only [Bool.and_eq_true, decide_eq_true_eq] at hc
        obtain ⟨x, rfl⟩ := Int.eq_ofNat_of_zero_le hc.1
        obtain ⟨y, rfl⟩ := Int.eq_ofNat_of_zero_le hc.2
        by_cases hy : y = 0
        · subst hy
          have ht := loop40 (x : Int) ((0 : Nat) : Int)
          have h0 : decide (((0 : Nat) : Int) > 0) = false := rfl
          rw [h0] at ht
          simp only [cond_false] at ht
          refine ⟨_, _, _, ht, ?_⟩
          dsimp only
          rw [gcdI_eq x 0, Nat.gcd_zero_right]
          rfl
        · have h1 : decide ((y : Int) > 0) = true := by simp; omega
          have h2 : (!decide ((y : Int) = 0)) = true := by simp; omega
          have ht := loop40 (x : Int) (y : Int)
          rw [h1, h2] at ht
          simp only [cond_true] at ht
          refine ⟨_, _, _, ht, ?_, ?_⟩
          · have h3 : (x : Int).tmod (y : Int) = ((x % y : Nat) : Int) := rfl
            rw [h3]
            have hd : (decide (0 ≤ (y : Int)) && decide (0 ≤ ((x % y : Nat) : Int))) = true := by
              rw [Bool.and_eq_true]; exact ⟨decide_eq_true (Int.natCast_nonneg _), decide_eq_true (Int.natCast_nonneg _)⟩
            simp only [f40, Tr.run, hd, cond_true, gcdI_eq, gcd_step x y]
          · have h3 : (x : Int).tmod (y : Int) = ((x % y : Nat) : Int) := rfl
            rw [h3]
            simp only [Int.toNat_natCast]
            exact Nat.mod_lt _ (by omega)
      · simp [Tr.run] at hR
    · simp [Tr.run] at hR
  · simp only [e40] at h
    split at h
    · rename_i a b
      rcases node_run h with ⟨hc, h⟩ | ⟨_, h⟩
      · simp only [Tr.run, Option.some.injEq] at h
        subst h
        refine ⟨by kernel_rfl, rfl, ?_⟩
        rw [tree40, hc]; rfl
      · simp [Tr.run] at h
    · simp [Tr.run] at h
theorem e41_ok : SpecHolds Tryd.prog InvD 41 fun a => (e41.2 a).run := by
  refine specD cx0 Tryd.func41 (c := codeOf Tryd.prog 41) (by kernel_rfl) (fun _ => .unroll 0) (fun _ _ => trivial) fun args r h => ?_
  simp only [e41] at h
  split at h
  · rename_i n
    rcases node_run h with ⟨hc, h⟩ | ⟨_, h⟩
    · simp only [Tr.run, Option.some.injEq] at h
      subst h
      simp only [Bool.and_eq_true, decide_eq_true_eq] at hc
      refine ⟨by kernel_rfl, rfl, ?_⟩
      rw [tree41, absI_eq]
      by_cases h0 : n < 0
      · simp only [h0, decide_true, cond_true, Option.some.injEq, Res.ret.injEq, AV.int.injEq, true_and, IntKind.wrap_i64]
        omega
      · simp only [h0, decide_false, cond_false, Option.some.injEq, Res.ret.injEq, AV.int.injEq, true_and]
        omega
    · simp [Tr.run] at h
  · simp [Tr.run] at h

/-! Check -/
theorem cx13 : (mkCx Tryd.prog (spOf [e36, e37]) (inlOf []) extD).Ok InvD := cx_of [] (by kernel_rfl) (by
  intro p hp
  simp only [List.mem_cons, List.not_mem_nil, or_false] at hp
  rcases hp with rfl | rfl
  · exact e36_ok
  · exact e37_ok)
theorem cx14 : (mkCx Tryd.prog (spOf [e40, e41]) (inlOf []) extD).Ok InvD := cx_of [] (by kernel_rfl) (by
  intro p hp
  simp only [List.mem_cons, List.not_mem_nil, or_false] at hp
  rcases hp with rfl | rfl
  · exact e40_ok
  · exact e41_ok)
theorem check_eq {a b : Int} {x y : Res} : (bif decide (b < 1) then some y else bif decide (b > 1152921504606846976) then some y else bif decide (a < -1152921504606846976) then some y else bif decide (a > 1152921504606846976) then some y else
    bif (Nat.gcd a.natAbs b.natAbs : Int) != 1 then some y else some x) = (bif okB a b then some x else some y) := by
  cases hok : okB a b with
  | true =>
    obtain ⟨h1, h2, h3, h4, h5⟩ := okB_iff.1 hok
    have e1 : decide (b < 1) = false := by simp; omega
    have e2 : decide (b > 1152921504606846976) = false := by simp; omega
    have e3 : decide (a < -1152921504606846976) = false := by simp; omega
    have e4 : decide (a > 1152921504606846976) = false := by simp; omega
    simp [e1, e2, e3, e4, h5]
  | false =>
    have := okB_not hok
    by_cases h1 : b < 1
    · simp [h1]
    by_cases h2 : b > 1152921504606846976
    · simp [h1, h2]
    by_cases h3 : a < -1152921504606846976
    · simp [h1, h2, h3]
    by_cases h4 : a > 1152921504606846976
    · simp [h1, h2, h3, h4]
    have h5 : Nat.gcd a.natAbs b.natAbs ≠ 1 := fun h => this ⟨by omega, by omega, by omega, by omega, h⟩
    have h6 : (((Nat.gcd a.natAbs b.natAbs : Nat) : Int) != 1) = true := by
      simp only [bne_iff_ne, ne_eq]; omega
    rw [h6]
    simp [h1, h2, h3, h4]
theorem check13 (a b : Int) : evFn Tryd.prog (spOf [e36, e37]) (inlOf []) extD (cKD [e36, e37] []) (fun _ => .unroll 0) Tryd.f13 [.agg [.int .i64 a, .int .i64 b]] [] (fun r _ => some r) =
    bif okB a b then some (.ret (.int .i64 0)) else some (.ret (.int .i64 1)) := by
  rw [tree13, ← check_eq]
  by_cases h1 : b < 1
  · simp [h1]
  by_cases h2 : b > 1152921504606846976
  · simp [h1, h2]
  by_cases h3 : a < -1152921504606846976
  · simp [h1, h2, h3]
  by_cases h4 : a > 1152921504606846976
  · simp [h1, h2, h3, h4]
  have e1 : (decide (-9223372036854775808 ≤ a) && decide (a < 9223372036854775808)) = true := by simp; omega
  have e2 : (decide (0 ≤ absI a) && decide (0 ≤ IntKind.u64.wrap b)) = true := by
    rw [wrapU (by omega) (by omega)]; simp [absI_pos]; omega
  rw [e1, e2, wrapU (by omega) (by omega), gcdI_of (absI_pos a) (by omega), absI_natAbs]
  rfl
theorem check14 (a b : Int) : evFn Tryd.prog (spOf [e40, e41]) (inlOf []) extD (cKD [e40, e41] []) (fun _ => .unroll 0) Tryd.f14 [.agg [.int .i64 a, .int .i64 b]] [] (fun r _ => some r) =
    bif okB a b then some (.ret (.int .i64 0)) else some (.ret (.int .i64 1)) := by
  rw [tree14, ← check_eq]
  by_cases h1 : b < 1
  · simp [h1]
  by_cases h2 : b > 1152921504606846976
  · simp [h1, h2]
  by_cases h3 : a < -1152921504606846976
  · simp [h1, h2, h3]
  by_cases h4 : a > 1152921504606846976
  · simp [h1, h2, h3, h4]
  have e1 : (decide (-9223372036854775808 < a) && decide (a < 9223372036854775808)) = true := by simp; omega
  have e2 : (decide (0 ≤ absI a) && decide (0 ≤ b)) = true := by
    simp [absI_pos]; omega
  rw [e1, e2, gcdI_of (absI_pos a) (by omega), absI_natAbs]
  rfl
theorem node2_run {b : Bool} {x y : Res} {r : Res} (h : (Tr.node b (.leaf x) (.leaf y)).run = some r) : (bif b then some x else some y) = some r := h
theorem e13_ok : SpecHolds Tryd.prog InvD 13 fun a => (e13.2 a).run := by
  refine specD cx13 Tryd.func13 (c := codeOf Tryd.prog 13) (by kernel_rfl) (fun _ => .unroll 0) (fun _ _ => trivial) fun args r h => ?_
  simp only [e13] at h
  split at h
  · rename_i a b
    have h' := node2_run h
    refine ⟨by kernel_rfl, ?_, by rw [check13]; exact h'⟩
    cases hb : okB a b <;> (rw [hb] at h'; simp at h'; subst h'; rfl)
  · simp [Tr.run] at h
theorem e14_ok : SpecHolds Tryd.prog InvD 14 fun a => (e14.2 a).run := by
  refine specD cx14 Tryd.func14 (c := codeOf Tryd.prog 14) (by kernel_rfl) (fun _ => .unroll 0) (fun _ _ => trivial) fun args r h => ?_
  simp only [e14] at h
  split at h
  · rename_i a b
    have h' := node2_run h
    refine ⟨by kernel_rfl, ?_, by rw [check14]; exact h'⟩
    cases hb : okB a b <;> (rw [hb] at h'; simp at h'; subst h'; rfl)
  · simp [Tr.run] at h
end Go.Proofs.YtekkphoingjidaaDoor
