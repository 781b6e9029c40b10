/- The contract of Make. Conditions: none beyond the context's. -/
import Derived.Test.YtekkphoingjidaaDoorDG0
namespace Go.Proofs.YtekkphoingjidaaDoor
open Go.Evl Go.RowKit

theorem tree63 (a b : Int) : evFn Tryd.prog (spOf []) (inlOf []) extD (cKD [] []) (fun _ => .unroll 0) Tryd.f63 [.agg [.int .u64 a, .int .u64 b]] [] (fun r _ => some r) =
    (bif a != 0 then some Res.pan
    else
      bif decide (b > 1152921504606846976) then some Res.pan else some (Res.ret (AV.int IntKind.i64 (IntKind.i64.wrap b))) : Option Res) := by kernel_rfl
theorem tree38t (a b c d : Int) : evFn Tryd.prog (spOf [e63]) (inlOf []) extD (cKD [e63] []) (fun _ => .unroll 0) Tryd.f38 [.bool true, .agg [.int .u64 a, .int .u64 b], .agg [.int .u64 c, .int .u64 d]] [] (fun r _ => some r) =
    (bif inU b then
      bif fitB a b then
        bif inU d then
          bif fitB c d then some (Res.ret (AV.agg [AV.int IntKind.i64 (IntKind.i64.wrap (0 - b)), AV.int IntKind.i64 d]))
          else some Res.pan
        else none
      else some Res.pan
    else none : Option Res) := by kernel_rfl
theorem tree38f (a b c d : Int) : evFn Tryd.prog (spOf [e63]) (inlOf []) extD (cKD [e63] []) (fun _ => .unroll 0) Tryd.f38 [.bool false, .agg [.int .u64 a, .int .u64 b], .agg [.int .u64 c, .int .u64 d]] [] (fun r _ => some r) =
    (bif inU b then
      bif fitB a b then
        bif inU d then
          bif fitB c d then some (Res.ret (AV.agg [AV.int IntKind.i64 b, AV.int IntKind.i64 d])) else some Res.pan
        else none
      else some Res.pan
    else none : Option Res) := by kernel_rfl
theorem tree11 (a b : Int) : evFn Tryd.prog (spOf [e36, e37, e38]) (inlOf [34, 35]) extD (cKD [e36, e37, e38] [34, 35]) (fun _ => .unroll 0) Tryd.f11 [.int .i64 a, .int .i64 b] [] (fun r _ => some r) =
    (bif b == 0 then some (Res.ret (AV.tup [AV.agg [AV.int IntKind.i64 0, AV.int IntKind.i64 0], AV.int IntKind.i64 26]))
    else
      bif decide (-9223372036854775808 ≤ a) && decide (a < 9223372036854775808) then
        bif decide (-9223372036854775808 ≤ b) && decide (b < 9223372036854775808) then
          bif decide (0 ≤ absI a) && decide (0 ≤ absI b) then
            bif decide (a < 0) then
              bif decide (b < 0) then
                bif !decide (gcdI (absI a) (absI b) = 0) then
                  bif !decide (gcdI (absI a) (absI b) = 0) then
                    bif
                        inU (IntKind.u64.wrap ((absI a).tdiv (gcdI (absI a) (absI b)))) &&
                          inU (IntKind.u64.wrap ((absI b).tdiv (gcdI (absI a) (absI b)))) then
                      bif fitB 0 (IntKind.u64.wrap ((absI a).tdiv (gcdI (absI a) (absI b)))) then
                        bif fitB 0 (IntKind.u64.wrap ((absI b).tdiv (gcdI (absI a) (absI b)))) then
                          some
                            (Res.ret
                              (AV.tup
                                [AV.agg
                                    [AV.int IntKind.i64
                                        (bif false then -IntKind.u64.wrap ((absI a).tdiv (gcdI (absI a) (absI b)))
                                        else IntKind.u64.wrap ((absI a).tdiv (gcdI (absI a) (absI b)))),
                                      AV.int IntKind.i64 (IntKind.u64.wrap ((absI b).tdiv (gcdI (absI a) (absI b))))],
                                  AV.int IntKind.i64 0]))
                        else
                          some
                            (Res.ret (AV.tup [AV.agg [AV.int IntKind.i64 0, AV.int IntKind.i64 0], AV.int IntKind.i64 14]))
                      else
                        some (Res.ret (AV.tup [AV.agg [AV.int IntKind.i64 0, AV.int IntKind.i64 0], AV.int IntKind.i64 14]))
                    else none
                  else none
                else none
              else
                bif !decide (gcdI (absI a) (absI b) = 0) then
                  bif !decide (gcdI (absI a) (absI b) = 0) then
                    bif
                        inU (IntKind.u64.wrap ((absI a).tdiv (gcdI (absI a) (absI b)))) &&
                          inU (IntKind.u64.wrap ((absI b).tdiv (gcdI (absI a) (absI b)))) then
                      bif fitB 0 (IntKind.u64.wrap ((absI a).tdiv (gcdI (absI a) (absI b)))) then
                        bif fitB 0 (IntKind.u64.wrap ((absI b).tdiv (gcdI (absI a) (absI b)))) then
                          some
                            (Res.ret
                              (AV.tup
                                [AV.agg
                                    [AV.int IntKind.i64
                                        (bif true then -IntKind.u64.wrap ((absI a).tdiv (gcdI (absI a) (absI b)))
                                        else IntKind.u64.wrap ((absI a).tdiv (gcdI (absI a) (absI b)))),
                                      AV.int IntKind.i64 (IntKind.u64.wrap ((absI b).tdiv (gcdI (absI a) (absI b))))],
                                  AV.int IntKind.i64 0]))
                        else
                          some
                            (Res.ret (AV.tup [AV.agg [AV.int IntKind.i64 0, AV.int IntKind.i64 0], AV.int IntKind.i64 14]))
                      else
                        some (Res.ret (AV.tup [AV.agg [AV.int IntKind.i64 0, AV.int IntKind.i64 0], AV.int IntKind.i64 14]))
                    else none
                  else none
                else none
            else
              bif decide (b < 0) then
                bif !decide (gcdI (absI a) (absI b) = 0) then
                  bif !decide (gcdI (absI a) (absI b) = 0) then
                    bif
                        inU (IntKind.u64.wrap ((absI a).tdiv (gcdI (absI a) (absI b)))) &&
                          inU (IntKind.u64.wrap ((absI b).tdiv (gcdI (absI a) (absI b)))) then
                      bif fitB 0 (IntKind.u64.wrap ((absI a).tdiv (gcdI (absI a) (absI b)))) then
                        bif fitB 0 (IntKind.u64.wrap ((absI b).tdiv (gcdI (absI a) (absI b)))) then
                          some
                            (Res.ret
                              (AV.tup
                                [AV.agg
                                    [AV.int IntKind.i64
                                        (bif true then -IntKind.u64.wrap ((absI a).tdiv (gcdI (absI a) (absI b)))
                                        else IntKind.u64.wrap ((absI a).tdiv (gcdI (absI a) (absI b)))),
                                      AV.int IntKind.i64 (IntKind.u64.wrap ((absI b).tdiv (gcdI (absI a) (absI b))))],
                                  AV.int IntKind.i64 0]))
                        else
                          some
                            (Res.ret (AV.tup [AV.agg [AV.int IntKind.i64 0, AV.int IntKind.i64 0], AV.int IntKind.i64 14]))
                      else
                        some (Res.ret (AV.tup [AV.agg [AV.int IntKind.i64 0, AV.int IntKind.i64 0], AV.int IntKind.i64 14]))
                    else none
                  else none
                else none
              else
                bif !decide (gcdI (absI a) (absI b) = 0) then
                  bif !decide (gcdI (absI a) (absI b) = 0) then
                    bif
                        inU (IntKind.u64.wrap ((absI a).tdiv (gcdI (absI a) (absI b)))) &&
                          inU (IntKind.u64.wrap ((absI b).tdiv (gcdI (absI a) (absI b)))) then
                      bif fitB 0 (IntKind.u64.wrap ((absI a).tdiv (gcdI (absI a) (absI b)))) then
                        bif fitB 0 (IntKind.u64.wrap ((absI b).tdiv (gcdI (absI a) (absI b)))) then
                          some
                            (Res.ret
                              (AV.tup
                                [AV.agg
                                    [AV.int IntKind.i64
                                        (bif false then -IntKind.u64.wrap ((absI a).tdiv (gcdI (absI a) (absI b)))
                                        else IntKind.u64.wrap ((absI a).tdiv (gcdI (absI a) (absI b)))),
                                      AV.int IntKind.i64 (IntKind.u64.wrap ((absI b).tdiv (gcdI (absI a) (absI b))))],
                                  AV.int IntKind.i64 0]))
                        else
                          some
                            (Res.ret (AV.tup [AV.agg [AV.int IntKind.i64 0, AV.int IntKind.i64 0], AV.int IntKind.i64 14]))
                      else
                        some (Res.ret (AV.tup [AV.agg [AV.int IntKind.i64 0, AV.int IntKind.i64 0], AV.int IntKind.i64 14]))
                    else none
                  else none
                else none
          else none
        else none
      else none : Option Res) := by kernel_rfl
theorem inI_iff {x : Int} : inI x = true ↔ -9223372036854775808 ≤ x ∧ x < 9223372036854775808 := by simp [inI]
theorem fitB_iff {a b : Int} : fitB a b = true ↔ a = 0 ∧ b ≤ 1152921504606846976 := by simp [fitB]
theorem e63_ok : SpecHolds Tryd.prog InvD 63 fun a => (e63.2 a).run := by
  refine specD cx0 Tryd.func63 (c := codeOf Tryd.prog 63) (by kernel_rfl) (fun _ => .unroll 0) (fun _ _ => trivial) fun args r h => ?_
  simp only [e63] at h
  split at h
  · rename_i a b
    refine ⟨by kernel_rfl, tr_ok (by rfl) h, ?_⟩
    rw [tree63]
    rcases node_run h with ⟨hc, h⟩ | ⟨_, h⟩
    · rw [inU_iff] at hc
      rw [← h]
      simp only [Tr.run]
      cases hf : fitB a b with
      | true =>
        obtain ⟨rfl, hb⟩ := fitB_iff.1 hf
        have h1 : decide (b > 1152921504606846976) = false := by simp; omega
        have h0 : ((0 : Int) != 0) = false := rfl
        rw [h0, h1, wrapI (by omega) (by omega)]; rfl
      | false =>
        have hn : ¬ (a = 0 ∧ b ≤ 1152921504606846976) := fun hx => by rw [fitB_iff.2 hx] at hf; cases hf
        by_cases ha : a = 0
        · subst ha
          have h1 : decide (b > 1152921504606846976) = true := by simp; omega
          rw [h1]; rfl
        · have h0 : (a != 0) = true := by simp [ha]
          rw [h0]; rfl
    · simp [Tr.run] at h
  · simp [Tr.run] at h
theorem cx38 : (mkCx Tryd.prog (spOf [e63]) (inlOf []) extD).Ok InvD := cx_of [] (by kernel_rfl) (by
  intro p hp
  simp only [List.mem_cons, List.not_mem_nil, or_false] at hp
  subst hp
  exact e63_ok)
theorem e38_ok : SpecHolds Tryd.prog InvD 38 fun a => (e38.2 a).run := by
  refine specD cx38 Tryd.func38 (c := codeOf Tryd.prog 38) (by kernel_rfl) (fun _ => .unroll 0) (fun _ _ => trivial) fun args r h => ?_
  simp only [e38] at h
  split at h
  · rename_i n a b c d
    refine ⟨by kernel_rfl, tr_ok (by rfl) h, ?_⟩
    rcases node_run h with ⟨hc, h⟩ | ⟨_, h⟩
    · simp only [Bool.and_eq_true] at hc
      rw [← h]
      simp only [Tr.run]
      have hb := inU_iff.1 hc.1
      cases n with
      | true =>
        rw [tree38t, hc.1, hc.2]
        cases hf : fitB a b with
        | false => rfl
        | true =>
          obtain ⟨_, hb2⟩ := fitB_iff.1 hf
          rw [wrapI (x := 0 - b) (by omega) (by omega), Int.zero_sub]
          cases fitB c d <;> rfl
      | false =>
        rw [tree38f, hc.1, hc.2]
        cases fitB a b <;> cases fitB c d <;> rfl
    · simp [Tr.run] at h
  · simp [Tr.run] at h
theorem cx11 : (mkCx Tryd.prog (spOf [e36, e37, e38]) (inlOf [34, 35]) extD).Ok InvD := cx_of [34, 35] (by kernel_rfl) (by
  intro p hp
  simp only [List.mem_cons, List.not_mem_nil, or_false] at hp
  rcases hp with rfl | rfl | rfl
  · exact e36_ok
  · exact e37_ok
  · exact e38_ok)
theorem mkG_pos {a b : Int} (hb : b ≠ 0) : 1 ≤ mkG a b := by
  unfold mkG
  rw [gcdI_of (absI_pos a) (absI_pos b), absI_natAbs, absI_natAbs]
  have : 0 < Nat.gcd a.natAbs b.natAbs := Nat.gcd_pos_of_pos_right _ (by omega)
  omega
theorem mkA_range {a b : Int} (hb : b ≠ 0) : 0 ≤ mkA a b ∧ mkA a b ≤ absI a := by
  have hg := mkG_pos (a := a) hb
  exact ⟨Int.ediv_nonneg (absI_pos a) (by omega), Int.ediv_le_self _ (absI_pos a)⟩
theorem mkD_range {a b : Int} (hb : b ≠ 0) : 0 ≤ mkD a b ∧ mkD a b ≤ absI b := by
  have hg := mkG_pos (a := a) hb
  exact ⟨Int.ediv_nonneg (absI_pos b) (by omega), Int.ediv_le_self _ (absI_pos b)⟩
theorem make11 (a b : Int) (ha : -9223372036854775808 ≤ a ∧ a < 9223372036854775808) (hb : -9223372036854775808 ≤ b ∧ b < 9223372036854775808) :
    evFn Tryd.prog (spOf [e36, e37, e38]) (inlOf [34, 35]) extD (cKD [e36, e37, e38] [34, 35]) (fun _ => .unroll 0) Tryd.f11 [.int .i64 a, .int .i64 b] [] (fun r _ => some r) =
    bif decide (b = 0) then some (.ret (.tup [.agg [.int .i64 0, .int .i64 0], .int .i64 26]))
    else bif mkFits a b then some (.ret (.tup [.agg [.int .i64 (mkN a b), .int .i64 (mkD a b)], .int .i64 0])) else some (.ret (.tup [.agg [.int .i64 0, .int .i64 0], .int .i64 14])) := by
  rw [tree11]
  by_cases h0 : b = 0
  · subst h0; rfl
  have hb0 : (b == 0) = false := beq_false_of_ne h0
  have e1 : (decide (-9223372036854775808 ≤ a) && decide (a < 9223372036854775808)) = true := by simp; omega
  have e2 : (decide (-9223372036854775808 ≤ b) && decide (b < 9223372036854775808)) = true := by simp; omega
  have e3 : (decide (0 ≤ absI a) && decide (0 ≤ absI b)) = true := by simp [absI_pos]
  have hg := mkG_pos (a := a) h0
  obtain ⟨a0, a1⟩ := mkA_range (a := a) h0
  obtain ⟨d0, d1⟩ := mkD_range (a := a) h0
  have hA : absI a ≤ 9223372036854775808 := by rw [absI_eq]; omega
  have hB : absI b ≤ 9223372036854775808 := by rw [absI_eq]; omega
  have e4 : (!decide (gcdI (absI a) (absI b) = 0)) = true := by
    have : gcdI (absI a) (absI b) = mkG a b := rfl
    rw [this]; simp; omega
  have t1 : IntKind.u64.wrap ((absI a).tdiv (gcdI (absI a) (absI b))) = mkA a b := by
    rw [Int.tdiv_eq_ediv_of_nonneg (absI_pos a)]
    show IntKind.u64.wrap (mkA a b) = _
    exact wrapU a0 (by omega)
  have t2 : IntKind.u64.wrap ((absI b).tdiv (gcdI (absI a) (absI b))) = mkD a b := by
    rw [Int.tdiv_eq_ediv_of_nonneg (absI_pos b)]
    show IntKind.u64.wrap (mkD a b) = _
    exact wrapU d0 (by omega)
  rw [t1, t2]
  have e5 : (inU (mkA a b) && inU (mkD a b)) = true := by
    rw [Bool.and_eq_true, inU_iff, inU_iff]; omega
  have f1 : fitB 0 (mkA a b) = decide (mkA a b ≤ 1152921504606846976) := by simp [fitB]
  have f2 : fitB 0 (mkD a b) = decide (mkD a b ≤ 1152921504606846976) := by simp [fitB]
  simp only [hb0, h0, e1, e2, e3, e4, e5, f1, f2, cond_true, cond_false, decide_false]
  unfold mkFits mkN
  cases decide (a < 0) <;> cases decide (b < 0) <;> cases decide (mkA a b ≤ 1152921504606846976) <;> cases decide (mkD a b ≤ 1152921504606846976) <;> rfl
theorem e11_ok : SpecHolds Tryd.prog InvD 11 fun a => (e11.2 a).run := by
  refine specD cx11 Tryd.func11 (c := codeOf Tryd.prog 11) (by kernel_rfl) (fun _ => .unroll 0) (fun _ _ => trivial) fun args r h => ?_
  simp only [e11] at h
  split at h
  · rename_i a b
    refine ⟨by kernel_rfl, tr_ok (by rfl) h, ?_⟩
    rcases node_run h with ⟨hc, h⟩ | ⟨_, h⟩
    · simp only [Bool.and_eq_true, inI_iff] at hc
      rw [make11 a b hc.1 hc.2]
      exact h
    · simp [Tr.run] at h
  · simp [Tr.run] at h
end Go.Proofs.YtekkphoingjidaaDoor
