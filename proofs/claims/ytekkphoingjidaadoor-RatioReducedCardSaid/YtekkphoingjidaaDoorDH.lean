/- RatioReduced's call returns true. Conditions: none beyond the context's. -/
import Derived.Test.YtekkphoingjidaaDoorDG
namespace Go.Proofs.YtekkphoingjidaaDoor
open Go.Evl Go.RowKit

theorem tree4 (a b k : Int) : evFn Tryd.prog (spOf [e11, e13, e19]) (inlOf []) extD (cKD [e11, e13, e19] []) (fun _ => .unroll 0) Tryd.f4 [.int .i64 a, .int .i64 b, .int .i64 k] [] (fun r _ => some r) =
    (bif decide (a < -1048576) then some (Res.ret (AV.bool true))
    else
      bif decide (a > 1048576) then some (Res.ret (AV.bool true))
      else
        bif decide (b < -1048576) then some (Res.ret (AV.bool true))
        else
          bif decide (b > 1048576) then some (Res.ret (AV.bool true))
          else
            bif decide (k < -1048576) then some (Res.ret (AV.bool true))
            else
              bif decide (k > 1048576) then some (Res.ret (AV.bool true))
              else
                bif inI a && inI b then
                  bif decide (b = 0) then
                    bif b == 0 then some (Res.ret (AV.bool true))
                    else
                      bif inI (IntKind.i64.wrap (k * a)) && inI (IntKind.i64.wrap (k * b)) then
                        bif decide (IntKind.i64.wrap (k * b) = 0) then
                          bif k == 0 then bif k != 0 then some (Res.ret (AV.bool false)) else some (Res.ret (AV.bool false))
                          else bif k != 0 then some (Res.ret (AV.bool false)) else some (Res.ret (AV.bool false))
                        else
                          bif mkFits (IntKind.i64.wrap (k * a)) (IntKind.i64.wrap (k * b)) then
                            bif k == 0 then some (Res.ret (AV.bool false))
                            else
                              bif k != 0 then
                                bif
                                    !(0 == mkN (IntKind.i64.wrap (k * a)) (IntKind.i64.wrap (k * b)) &&
                                        (0 == mkD (IntKind.i64.wrap (k * a)) (IntKind.i64.wrap (k * b)) && true)) then
                                  some (Res.ret (AV.bool false))
                                else some (Res.ret (AV.bool false))
                              else some (Res.ret (AV.bool false))
                          else
                            bif k == 0 then some (Res.ret (AV.bool false))
                            else bif k != 0 then some (Res.ret (AV.bool false)) else some (Res.ret (AV.bool false))
                      else none
                  else
                    bif mkFits a b then
                      bif b == 0 then some (Res.ret (AV.bool false))
                      else
                        bif inI (IntKind.i64.wrap (k * a)) && inI (IntKind.i64.wrap (k * b)) then
                          bif decide (IntKind.i64.wrap (k * b) = 0) then
                            bif k == 0 then
                              bif k != 0 then some (Res.ret (AV.bool false))
                              else
                                bif okB (mkN a b) (mkD a b) then
                                  bif decide (mkD a b > 0) then
                                    bif decide (mkD a b ≤ 1048576) then
                                      bif decide (mkN a b ≥ -1048576) then
                                        bif decide (mkN a b ≤ 1048576) then
                                          bif IntKind.i64.wrap (mkN a b * b) == IntKind.i64.wrap (a * mkD a b) then
                                            some (Res.ret (AV.bool true))
                                          else some (Res.ret (AV.bool false))
                                        else some (Res.ret (AV.bool false))
                                      else some (Res.ret (AV.bool false))
                                    else some (Res.ret (AV.bool false))
                                  else some (Res.ret (AV.bool false))
                                else some (Res.ret (AV.bool false))
                            else
                              bif k != 0 then some (Res.ret (AV.bool false))
                              else
                                bif okB (mkN a b) (mkD a b) then
                                  bif decide (mkD a b > 0) then
                                    bif decide (mkD a b ≤ 1048576) then
                                      bif decide (mkN a b ≥ -1048576) then
                                        bif decide (mkN a b ≤ 1048576) then
                                          bif IntKind.i64.wrap (mkN a b * b) == IntKind.i64.wrap (a * mkD a b) then
                                            some (Res.ret (AV.bool true))
                                          else some (Res.ret (AV.bool false))
                                        else some (Res.ret (AV.bool false))
                                      else some (Res.ret (AV.bool false))
                                    else some (Res.ret (AV.bool false))
                                  else some (Res.ret (AV.bool false))
                                else some (Res.ret (AV.bool false))
                          else
                            bif mkFits (IntKind.i64.wrap (k * a)) (IntKind.i64.wrap (k * b)) then
                              bif k == 0 then some (Res.ret (AV.bool false))
                              else
                                bif k != 0 then
                                  bif
                                      !(mkN a b == mkN (IntKind.i64.wrap (k * a)) (IntKind.i64.wrap (k * b)) &&
                                          (mkD a b == mkD (IntKind.i64.wrap (k * a)) (IntKind.i64.wrap (k * b)) &&
                                            true)) then
                                    some (Res.ret (AV.bool false))
                                  else
                                    bif okB (mkN a b) (mkD a b) then
                                      bif decide (mkD a b > 0) then
                                        bif decide (mkD a b ≤ 1048576) then
                                          bif decide (mkN a b ≥ -1048576) then
                                            bif decide (mkN a b ≤ 1048576) then
                                              bif IntKind.i64.wrap (mkN a b * b) == IntKind.i64.wrap (a * mkD a b) then
                                                some (Res.ret (AV.bool true))
                                              else some (Res.ret (AV.bool false))
                                            else some (Res.ret (AV.bool false))
                                          else some (Res.ret (AV.bool false))
                                        else some (Res.ret (AV.bool false))
                                      else some (Res.ret (AV.bool false))
                                    else some (Res.ret (AV.bool false))
                                else
                                  bif okB (mkN a b) (mkD a b) then
                                    bif decide (mkD a b > 0) then
                                      bif decide (mkD a b ≤ 1048576) then
                                        bif decide (mkN a b ≥ -1048576) then
                                          bif decide (mkN a b ≤ 1048576) then
                                            bif IntKind.i64.wrap (mkN a b * b) == IntKind.i64.wrap (a * mkD a b) then
                                              some (Res.ret (AV.bool true))
                                            else some (Res.ret (AV.bool false))
                                          else some (Res.ret (AV.bool false))
                                        else some (Res.ret (AV.bool false))
                                      else some (Res.ret (AV.bool false))
                                    else some (Res.ret (AV.bool false))
                                  else some (Res.ret (AV.bool false))
                            else
                              bif k == 0 then some (Res.ret (AV.bool false))
                              else
                                bif k != 0 then some (Res.ret (AV.bool false))
                                else
                                  bif okB (mkN a b) (mkD a b) then
                                    bif decide (mkD a b > 0) then
                                      bif decide (mkD a b ≤ 1048576) then
                                        bif decide (mkN a b ≥ -1048576) then
                                          bif decide (mkN a b ≤ 1048576) then
                                            bif IntKind.i64.wrap (mkN a b * b) == IntKind.i64.wrap (a * mkD a b) then
                                              some (Res.ret (AV.bool true))
                                            else some (Res.ret (AV.bool false))
                                          else some (Res.ret (AV.bool false))
                                        else some (Res.ret (AV.bool false))
                                      else some (Res.ret (AV.bool false))
                                    else some (Res.ret (AV.bool false))
                                  else some (Res.ret (AV.bool false))
                        else none
                    else
                      bif b == 0 then some (Res.ret (AV.bool false))
                      else
                        bif inI (IntKind.i64.wrap (k * a)) && inI (IntKind.i64.wrap (k * b)) then
                          bif decide (IntKind.i64.wrap (k * b) = 0) then
                            bif k == 0 then
                              bif k != 0 then some (Res.ret (AV.bool false)) else some (Res.ret (AV.bool false))
                            else bif k != 0 then some (Res.ret (AV.bool false)) else some (Res.ret (AV.bool false))
                          else
                            bif mkFits (IntKind.i64.wrap (k * a)) (IntKind.i64.wrap (k * b)) then
                              bif k == 0 then some (Res.ret (AV.bool false))
                              else
                                bif k != 0 then
                                  bif
                                      !(0 == mkN (IntKind.i64.wrap (k * a)) (IntKind.i64.wrap (k * b)) &&
                                          (0 == mkD (IntKind.i64.wrap (k * a)) (IntKind.i64.wrap (k * b)) && true)) then
                                    some (Res.ret (AV.bool false))
                                  else some (Res.ret (AV.bool false))
                                else some (Res.ret (AV.bool false))
                            else
                              bif k == 0 then some (Res.ret (AV.bool false))
                              else bif k != 0 then some (Res.ret (AV.bool false)) else some (Res.ret (AV.bool false))
                        else none
                else none : Option Res) := by kernel_rfl
theorem mkA_nat (a b : Int) : mkA a b = ((a.natAbs / Nat.gcd a.natAbs b.natAbs : Nat) : Int) := by
  unfold mkA mkG
  rw [gcdI_of (absI_pos a) (absI_pos b), absI_natAbs, absI_natAbs, absI_eq]
  rfl
theorem mkD_nat (a b : Int) : mkD a b = ((b.natAbs / Nat.gcd a.natAbs b.natAbs : Nat) : Int) := by
  unfold mkD mkG
  rw [gcdI_of (absI_pos a) (absI_pos b), absI_natAbs, absI_natAbs, absI_eq]
  rfl
theorem mkN_abs (a b : Int) : (mkN a b).natAbs = (mkA a b).natAbs := by
  unfold mkN
  cases (decide (a < 0) != decide (b < 0)) <;> simp
theorem mk_coprime {a b : Int} (hb : b ≠ 0) : Nat.gcd (mkN a b).natAbs (mkD a b).natAbs = 1 := by
  rw [mkN_abs, mkA_nat, mkD_nat]
  simp only [Int.natAbs_natCast]
  rw [Nat.gcd_div (Nat.gcd_dvd_left _ _) (Nat.gcd_dvd_right _ _)]
  exact Nat.div_self (Nat.gcd_pos_of_pos_right _ (by omega))
theorem mkD_pos {a b : Int} (hb : b ≠ 0) : 1 ≤ mkD a b := by
  rw [mkD_nat]
  have h : 0 < Nat.gcd a.natAbs b.natAbs := Nat.gcd_pos_of_pos_right _ (by omega)
  have : 0 < b.natAbs / Nat.gcd a.natAbs b.natAbs := Nat.div_pos (Nat.le_of_dvd (by omega) (Nat.gcd_dvd_right _ _)) h
  omega
theorem mk_scale {k a b : Int} (hk : k ≠ 0) : mkA (k * a) (k * b) = mkA a b ∧ mkD (k * a) (k * b) = mkD a b := by
  have hK : 0 < k.natAbs := by omega
  constructor
  · rw [mkA_nat, mkA_nat, Int.natAbs_mul, Int.natAbs_mul, Nat.gcd_mul_left, Nat.mul_div_mul_left _ _ hK]
  · rw [mkD_nat, mkD_nat, Int.natAbs_mul, Int.natAbs_mul, Nat.gcd_mul_left, Nat.mul_div_mul_left _ _ hK]
theorem mul_small {x y : Int} (hx0 : -1048576 ≤ x) (hx1 : x ≤ 1048576) (hy0 : -1048576 ≤ y) (hy1 : y ≤ 1048576) : -1099511627776 ≤ x * y ∧ x * y ≤ 1099511627776 := by
  have h : (x * y).natAbs ≤ 1048576 * 1048576 := by
    rw [Int.natAbs_mul]
    exact Nat.mul_le_mul (by omega) (by omega)
  omega
theorem mkN_scale {k a b : Int} (hk : k ≠ 0) (hb : b ≠ 0) : mkN (k * a) (k * b) = mkN a b := by
  unfold mkN
  rw [(mk_scale (a := a) (b := b) hk).1]
  by_cases ha : a = 0
  · have : mkA a b = 0 := by rw [mkA_nat, ha]; simp
    rw [this]
    simp
  · rcases Int.lt_or_gt_of_ne hk with h | h
    · have e1 : decide (k * a < 0) = !decide (a < 0) := by
        by_cases h2 : a < 0
        · have := Int.mul_pos_of_neg_of_neg h h2
          simp [h2]; omega
        · have := Int.mul_neg_of_neg_of_pos h (show 0 < a by omega)
          simp [h2]; omega
      have e2 : decide (k * b < 0) = !decide (b < 0) := by
        by_cases h2 : b < 0
        · have := Int.mul_pos_of_neg_of_neg h h2
          simp [h2]; omega
        · have := Int.mul_neg_of_neg_of_pos h (show 0 < b by omega)
          simp [h2]; omega
      rw [e1, e2]
      cases decide (a < 0) <;> cases decide (b < 0) <;> rfl
    · have e1 : decide (k * a < 0) = decide (a < 0) := by
        by_cases h2 : a < 0
        · have := Int.mul_neg_of_pos_of_neg h h2
          simp [h2]; omega
        · have := Int.mul_pos h (show 0 < a by omega)
          simp [h2]; omega
      have e2 : decide (k * b < 0) = decide (b < 0) := by
        by_cases h2 : b < 0
        · have := Int.mul_neg_of_pos_of_neg h h2
          simp [h2]; omega
        · have := Int.mul_pos h (show 0 < b by omega)
          simp [h2]; omega
      rw [e1, e2]
theorem mk_value {a b : Int} : mkN a b * b = a * mkD a b := by
  have hA : absI a = mkA a b * mkG a b := by
    rw [mkA_nat]
    unfold mkG
    rw [gcdI_of (absI_pos a) (absI_pos b), absI_natAbs, absI_natAbs, absI_eq, ← Int.natCast_mul, Nat.div_mul_cancel (Nat.gcd_dvd_left _ _)]
  have hB : absI b = mkD a b * mkG a b := by
    rw [mkD_nat]
    unfold mkG
    rw [gcdI_of (absI_pos a) (absI_pos b), absI_natAbs, absI_natAbs, absI_eq, ← Int.natCast_mul, Nat.div_mul_cancel (Nat.gcd_dvd_right _ _)]
  unfold mkN
  generalize mkA a b = x at *
  generalize mkD a b = y at *
  generalize mkG a b = g at *
  by_cases ha : a < 0 <;> by_cases hb : b < 0
  · have ea : a = -(x * g) := by rw [← hA, absI_eq]; omega
    have eb : b = -(y * g) := by rw [← hB, absI_eq]; omega
    simp only [ha, hb, decide_true, bne_self_eq_false, cond_false]
    rw [ea, eb, Int.mul_neg, Int.neg_mul]
    congr 1
    ac_rfl
  · have ea : a = -(x * g) := by rw [← hA, absI_eq]; omega
    have eb : b = y * g := by rw [← hB, absI_eq]; omega
    have hs : (decide (a < 0) != decide (b < 0)) = true := by simp [ha, hb]
    rw [hs, cond_true, ea, eb, Int.neg_mul, Int.neg_mul]
    congr 1
    ac_rfl
  · have ea : a = x * g := by rw [← hA, absI_eq]; omega
    have eb : b = -(y * g) := by rw [← hB, absI_eq]; omega
    have hs : (decide (a < 0) != decide (b < 0)) = true := by simp [ha, hb]
    rw [hs, cond_true, ea, eb, Int.neg_mul, Int.mul_neg, Int.neg_neg]
    ac_rfl
  · have ea : a = x * g := by rw [← hA, absI_eq]; omega
    have eb : b = y * g := by rw [← hB, absI_eq]; omega
    simp only [ha, hb, decide_false, bne_self_eq_false, cond_false]
    rw [ea, eb]
    ac_rfl
theorem cx4 : (mkCx Tryd.prog (spOf [e11, e13, e19]) (inlOf []) extD).Ok InvD := cx_of [] (by kernel_rfl) (by
  intro p hp
  simp only [List.mem_cons, List.not_mem_nil, or_false] at hp
  rcases hp with rfl | rfl | rfl
  · exact e11_ok
  · exact e13_ok
  · exact e19_ok)
theorem law4 (a b k : Int) : evFn Tryd.prog (spOf [e11, e13, e19]) (inlOf []) extD (cKD [e11, e13, e19] []) (fun _ => .unroll 0) Tryd.f4 [.int .i64 a, .int .i64 b, .int .i64 k] [] (fun r _ => some r) = some (.ret (.bool true)) := by
  rw [tree4]
  by_cases h1 : a < -1048576
  · simp [h1]
  by_cases h2 : a > 1048576
  · simp [h1, h2]
  by_cases h3 : b < -1048576
  · simp [h1, h2, h3]
  by_cases h4 : b > 1048576
  · simp [h1, h2, h3, h4]
  by_cases h5 : k < -1048576
  · simp [h1, h2, h3, h4, h5]
  by_cases h6 : k > 1048576
  · simp [h1, h2, h3, h4, h5, h6]
  have hin : (inI a && inI b) = true := by rw [Bool.and_eq_true, inI_iff, inI_iff]; omega
  simp only [h1, h2, h3, h4, h5, h6, hin, decide_false, cond_false, cond_true]
  by_cases hb : b = 0
  · subst hb; rfl
  have hb1 : (b == 0) = false := beq_false_of_ne hb
  obtain ⟨a0, a1⟩ := mkA_range (a := a) hb
  obtain ⟨d0, d1⟩ := mkD_range (a := a) hb
  have hA : absI a ≤ 1048576 := by rw [absI_eq]; omega
  have hB : absI b ≤ 1048576 := by rw [absI_eq]; omega
  have hD := mkD_pos (a := a) hb
  have hN : -1048576 ≤ mkN a b ∧ mkN a b ≤ 1048576 := by
    have := mkN_abs a b
    omega
  have hf : mkFits a b = true := by unfold mkFits; rw [Bool.and_eq_true, decide_eq_true_eq, decide_eq_true_eq]; omega
  have hok : okB (mkN a b) (mkD a b) = true := okB_iff.2 ⟨by omega, by omega, by omega, by omega, mk_coprime hb⟩
  obtain ⟨p0, p1⟩ := mul_small (x := k) (y := a) (by omega) (by omega) (by omega) (by omega)
  obtain ⟨q0, q1⟩ := mul_small (x := k) (y := b) (by omega) (by omega) (by omega) (by omega)
  obtain ⟨r0, r1⟩ := mul_small (x := mkN a b) (y := b) (by omega) (by omega) (by omega) (by omega)
  rw [wrapI (x := k * a) (by omega) (by omega), wrapI (x := k * b) (by omega) (by omega), wrapI (x := mkN a b * b) (by omega) (by omega), ← mk_value (a := a) (b := b), wrapI (x := mkN a b * b) (by omega) (by omega)]
  have hin2 : (inI (k * a) && inI (k * b)) = true := by rw [Bool.and_eq_true, inI_iff, inI_iff]; omega
  have c1 : decide (mkD a b > 0) = true := by rw [decide_eq_true_eq]; omega
  have c2 : decide (mkD a b ≤ 1048576) = true := by rw [decide_eq_true_eq]; omega
  have c3 : decide (mkN a b ≥ -1048576) = true := by rw [decide_eq_true_eq]; omega
  have c4 : decide (mkN a b ≤ 1048576) = true := by rw [decide_eq_true_eq]; omega
  have c5 : (mkN a b * b == mkN a b * b) = true := by simp
  simp only [hb, hb1, hf, hok, hin2, c1, c2, c3, c4, c5, decide_false, cond_false, cond_true]
  by_cases hk : k = 0
  · subst hk
    simp
  · have hkb : k * b ≠ 0 := Int.mul_ne_zero hk hb
    have k1 : (k == 0) = false := beq_false_of_ne hk
    have k2 : (k != 0) = true := by simp [hk]
    obtain ⟨s1, s2⟩ := mk_scale (a := a) (b := b) hk
    have hf2 : mkFits (k * a) (k * b) = true := by unfold mkFits; rw [s1, s2]; exact hf
    rw [mkN_scale hk hb, s2, k1, k2, hf2]
    simp [hkb]
def e4 : Ent := ⟨4, fun
  | [.int .i64 _, .int .i64 _, .int .i64 _] => .leaf (.ret (.bool true))
  | _ => .non⟩
theorem e4_ok : SpecHolds Tryd.prog InvD 4 fun a => (e4.2 a).run := by
  refine specD cx4 Tryd.func4 (c := codeOf Tryd.prog 4) (by kernel_rfl) (fun _ => .unroll 0) (fun _ _ => trivial) fun args r h => ?_
  simp only [e4] at h
  split at h
  · rename_i a b k
    exact ⟨by kernel_rfl, tr_ok (by rfl) h, by rw [law4]; exact h⟩
  · simp [Tr.run] at h
end Go.Proofs.YtekkphoingjidaaDoor
