/- The ratio package's contracts: Floor, Compare. Conditions: none beyond the context's. -/
import Derived.Test.YtekkphoingjidaaDoorDC
namespace Go.Proofs.YtekkphoingjidaaDoor
open Go.Evl Go.RowKit

def allOk : Tr Res → Bool
  | .non => true
  | .leaf r => okRes r
  | .node _ x y => allOk x && allOk y
theorem tr_ok {t : Tr Res} {r : Res} (ht : allOk t = true) (h : t.run = some r) : okRes r = true := by
  induction t with
  | non => simp [Tr.run] at h
  | leaf a => simp only [Tr.run, Option.some.injEq] at h; subst h; exact ht
  | node b x y hx hy =>
    simp only [allOk, Bool.and_eq_true] at ht
    cases b with
    | true => exact hx ht.1 h
    | false => exact hy ht.2 h
theorem ediv_range {a b : Int} (hb : 1 ≤ b) (h0 : -1152921504606846976 ≤ a) (h1 : a ≤ 1152921504606846976) : -1152921504606846976 ≤ a / b ∧ a / b ≤ 1152921504606846976 := by
  constructor
  · rw [Int.le_ediv_iff_mul_le (by omega)]
    omega
  · have h2 : a / b < 1152921504606846976 + 1 := by
      rw [Int.ediv_lt_iff_lt_mul (by omega)]
      omega
    omega
theorem neg_floor {a b : Int} (hb : 0 < b) : -((-a + b - 1) / b) = a / b := by
  have h1 := Int.emod_nonneg (-a + b - 1) (show b ≠ 0 by omega)
  have h2 := Int.emod_lt_of_pos (-a + b - 1) hb
  have h3 := Int.emod_add_mul_ediv (-a + b - 1) b
  have := (Int.ediv_emod_unique (a := a) (b := b) (r := b - 1 - (-a + b - 1) % b) (q := -((-a + b - 1) / b)) hb).2 ⟨by rw [Int.mul_neg]; omega, by omega, by omega⟩
  exact this.1.symm
theorem cx15 : (mkCx Tryd.prog (spOf [e13]) (inlOf []) extD).Ok InvD := cx_of [] (by kernel_rfl) (by
  intro p hp
  simp only [List.mem_cons, List.not_mem_nil, or_false] at hp
  subst hp
  exact e13_ok)
theorem floor15 (a b : Int) : evFn Tryd.prog (spOf [e13]) (inlOf []) extD (cKD [e13] []) (fun _ => .unroll 0) Tryd.f15 [.agg [.int .i64 a, .int .i64 b]] [] (fun r _ => some r) =
    bif okB a b then some (.ret (.int .i64 (a / b))) else some (.ret (.int .i64 0)) := by
  rw [tree15]
  cases hok : okB a b with
  | false => rfl
  | true =>
    obtain ⟨h1, h2, h3, h4, h5⟩ := okB_iff.1 hok
    obtain ⟨r1, r2⟩ := ediv_range h1 h3 h4
    have hb0 : (!decide (b = 0)) = true := by simp; omega
    simp only [cond_true, hb0]
    by_cases h0 : a ≥ 0
    · simp only [h0, decide_true, cond_true]
      rw [Int.tdiv_eq_ediv_of_nonneg h0, wrapI (by omega) (by omega)]
    · simp only [h0, decide_false, cond_false]
      rw [wrapI (x := 0 - a) (by omega) (by omega), wrapI (x := 0 - a + b) (by omega) (by omega), wrapI (x := 0 - a + b - 1) (by omega) (by omega), Int.tdiv_eq_ediv_of_nonneg (by omega)]
      have e : (0 - a + b - 1) / b = -(a / b) := by
        have := neg_floor (a := a) (b := b) (by omega)
        rw [show 0 - a + b - 1 = -a + b - 1 by omega, ← this]; omega
      rw [e, wrapI (x := -(a / b)) (by omega) (by omega), wrapI (by omega) (by omega)]
      simp
theorem e15_ok : SpecHolds Tryd.prog InvD 15 fun a => (e15.2 a).run := by
  refine specD cx15 Tryd.func15 (c := codeOf Tryd.prog 15) (by kernel_rfl) (fun _ => .unroll 0) (fun _ _ => trivial) fun args r h => ?_
  simp only [e15] at h
  split at h
  · rename_i a b
    have h' := node2_run h
    refine ⟨by kernel_rfl, ?_, by rw [floor15]; exact h'⟩
    cases hb : okB a b <;> (rw [hb] at h'; simp at h'; subst h'; rfl)
  · simp [Tr.run] at h
theorem e44_ok : SpecHolds Tryd.prog InvD 44 fun a => (e44.2 a).run := by
  refine specD cx15 Tryd.func44 (c := codeOf Tryd.prog 44) (by kernel_rfl) (fun _ => .unroll 0) (fun _ _ => trivial) fun args r h => ?_
  simp only [e44] at h
  split at h
  · rename_i a b c d
    exact ⟨by kernel_rfl, tr_ok (by rfl) h, by rw [tree44]; exact h⟩
  · simp [Tr.run] at h
theorem cx52 : (mkCx Tryd.prog (spOf []) (inlOf [69]) extD).Ok InvD := cx_of [69] (by kernel_rfl) (fun p hp => by cases hp)
theorem e52_ok : SpecHolds Tryd.prog InvD 52 fun a => (e52.2 a).run := by
  refine specD cx52 Tryd.func52 (c := codeOf Tryd.prog 52) (by kernel_rfl) (fun _ => .unroll 0) (fun _ _ => trivial) fun args r h => ?_
  simp only [e52] at h
  split at h
  · rename_i a b
    have ha : (a != a) = false := by simp
    have hb : (b != b) = false := by simp
    exact ⟨by kernel_rfl, tr_ok (by rfl) h, by rw [tree52, ha, hb]; exact h⟩
  · simp [Tr.run] at h
theorem inU_iff {x : Int} : inU x = true ↔ 0 ≤ x ∧ x < 18446744073709551616 := by simp [inU]
theorem e70_ok : SpecHolds Tryd.prog InvD 70 fun a => (e70.2 a).run := by
  intro args r h ρ A w vs hA hi hv
  simp only [e70] at h
  split at h
  · rename_i x y
    rcases node_run h with ⟨hc, h⟩ | ⟨_, h⟩
    · simp only [Tr.run, Option.some.injEq] at h
      subst h
      simp only [Bool.and_eq_true, inU_iff] at hc
      obtain ⟨⟨hx0, hx1⟩, hy0, hy1⟩ := hc
      obtain ⟨X, rfl⟩ := Int.eq_ofNat_of_zero_le hx0
      obtain ⟨Y, rfl⟩ := Int.eq_ofNat_of_zero_le hy0
      rw [rvs_int2 hv]
      refine (Tryd.bits_Mul64 X Y (by omega) (by omega) w).mono ?_
      rintro e w' ⟨rfl, rfl⟩
      refine ⟨Below.refl _ _, _, rfl, ?_⟩
      have e1 : (X : Int) * Y / 18446744073709551616 = ((X * Y / 18446744073709551616 : Nat) : Int) := by omega
      have e2 : (X : Int) * Y % 18446744073709551616 = ((X * Y % 18446744073709551616 : Nat) : Int) := by omega
      rw [e1, e2]
      exact rv_tup2
    · simp [Tr.run] at h
  · simp [Tr.run] at h
theorem cx53 : (mkCx Tryd.prog (spOf [e70]) (inlOf []) extD).Ok InvD := cx_of [] (by kernel_rfl) (by
  intro p hp
  simp only [List.mem_cons, List.not_mem_nil, or_false] at hp
  subst hp
  exact e70_ok)
theorem e53_ok : SpecHolds Tryd.prog InvD 53 fun a => (e53.2 a).run := by
  refine specD cx53 Tryd.func53 (c := codeOf Tryd.prog 53) (by kernel_rfl) (fun _ => .unroll 0) (fun _ _ => trivial) fun args r h => ?_
  simp only [e53] at h
  split at h
  · rename_i a b
    exact ⟨by kernel_rfl, tr_ok (by rfl) h, by rw [tree53]; exact h⟩
  · simp [Tr.run] at h
theorem e54_ok : SpecHolds Tryd.prog InvD 54 fun a => (e54.2 a).run := by
  refine specD cx0 Tryd.func54 (c := codeOf Tryd.prog 54) (by kernel_rfl) (fun _ => .unroll 0) (fun _ _ => trivial) fun args r h => ?_
  simp only [e54] at h
  split at h
  · rename_i a b c d
    exact ⟨by kernel_rfl, tr_ok (by rfl) h, by rw [tree54]; exact h⟩
  · simp [Tr.run] at h

/-! Compare -/
theorem cx26 : (mkCx Tryd.prog (spOf [e36, e44, e52, e53, e54]) (inlOf []) extD).Ok InvD := cx_of [] (by kernel_rfl) (by
  intro p hp
  simp only [List.mem_cons, List.not_mem_nil, or_false] at hp
  rcases hp with rfl | rfl | rfl | rfl | rfl
  · exact e36_ok
  · exact e44_ok
  · exact e52_ok
  · exact e53_ok
  · exact e54_ok)
theorem mul_bound {x y : Int} (hx : 0 ≤ x) (hy : 0 ≤ y) : 0 ≤ x * y := Int.mul_nonneg hx hy
theorem cmp26 (a b c d : Int) : evFn Tryd.prog (spOf [e36, e44, e52, e53, e54]) (inlOf []) extD (cKD [e36, e44, e52, e53, e54] []) (fun _ => .unroll 0) Tryd.f26 [.agg [.int .i64 a, .int .i64 b], .agg [.int .i64 c, .int .i64 d]] [] (fun r _ => some r) =
    bif okB a b && okB c d then (bif decide (a * d < c * b) then some (.ret (.int .i64 (-1))) else bif decide (a * d = c * b) then some (.ret (.int .i64 0)) else some (.ret (.int .i64 1))) else some (.ret (.int .i64 0)) := by
  rw [tree26]
  cases hok : okB a b with
  | false => rfl
  | true =>
  cases hok2 : okB c d with
  | false => rfl
  | true =>
    obtain ⟨h1, h2, h3, h4, h5⟩ := okB_iff.1 hok
    obtain ⟨k1, k2, k3, k4, k5⟩ := okB_iff.1 hok2
    have e1 : (decide (-9223372036854775808 ≤ a) && decide (a < 9223372036854775808)) = true := by simp; omega
    have e2 : (decide (-9223372036854775808 ≤ c) && decide (c < 9223372036854775808)) = true := by simp; omega
    have hA : 0 ≤ absI a ∧ absI a < 18446744073709551616 := by rw [absI_eq]; omega
    have hC : 0 ≤ absI c ∧ absI c < 18446744073709551616 := by rw [absI_eq]; omega
    rw [wrapU (x := d) (by omega) (by omega), wrapU (x := b) (by omega) (by omega)]
    have e3 : (inU (absI a) && inU d) = true := by simp only [Bool.and_eq_true, inU_iff]; omega
    have e4 : (inU (absI c) && inU b) = true := by simp only [Bool.and_eq_true, inU_iff]; omega
    have hX0 := mul_bound hA.1 (show 0 ≤ d by omega)
    have hY0 := mul_bound hC.1 (show 0 ≤ b by omega)
    simp only [e1, e2, e3, e4, cond_true, Bool.and_self, Bool.and_true]
    by_cases ha : a < 0 <;> by_cases hc : c < 0
    · have hx : absI a * d = -(a * d) := by rw [absI_eq, show ((a.natAbs : Nat) : Int) = -a by omega, Int.neg_mul]
      have hy : absI c * b = -(c * b) := by rw [absI_eq, show ((c.natAbs : Nat) : Int) = -c by omega, Int.neg_mul]
      rw [hx] at hX0 ⊢
      rw [hy] at hY0 ⊢
      generalize a * d = p at *
      generalize c * b = q at *
      have h0 : ¬ a ≥ 0 := by omega
      simp only [ha, hc, h0, decide_true, decide_false, cond_true, cond_false]
      by_cases hpq : p = q
      · subst hpq; simp
      · have hne : (-p / 18446744073709551616 == -q / 18446744073709551616 && -p % 18446744073709551616 == -q % 18446744073709551616) = false := by
          rw [Bool.and_eq_false_iff]; simp only [beq_eq_false_iff_ne, ne_eq]; omega
        simp only [hne, cond_false, hpq, decide_false]
        by_cases hl : p < q
        · have l1 : ¬ (-p / 18446744073709551616 < -q / 18446744073709551616) := by omega
          simp only [l1, hl, decide_true, decide_false, cond_true, cond_false]
          by_cases l2 : -p / 18446744073709551616 = -q / 18446744073709551616
          · have l3 : ¬ (-p % 18446744073709551616 < -q % 18446744073709551616) := by omega
            simp [l2, l3]
          · rw [show (-p / 18446744073709551616 == -q / 18446744073709551616) = false from beq_false_of_ne l2]; rfl
        · simp only [hl, decide_false, cond_false]
          by_cases l1 : -p / 18446744073709551616 < -q / 18446744073709551616
          · simp [l1]
          · have l2 : -p / 18446744073709551616 = -q / 18446744073709551616 := by omega
            have l3 : -p % 18446744073709551616 < -q % 18446744073709551616 := by omega
            simp [l2, l3]
    · have hlt : a * d < c * b := by
        have h6 : a * d < 0 := Int.mul_neg_of_neg_of_pos ha (by omega)
        have h7 : 0 ≤ c * b := Int.mul_nonneg (by omega) (by omega)
        omega
      have hac : a < c := by omega
      simp [ha, hc, hlt, hac]
    · have h6 : 0 ≤ a * d := Int.mul_nonneg (by omega) (by omega)
      have h7 : c * b < 0 := Int.mul_neg_of_neg_of_pos hc (by omega)
      have h8 : ¬ a * d < c * b := by omega
      have h9 : ¬ a * d = c * b := by omega
      have hac : ¬ a < c := by omega
      have hac2 : a > c := by omega
      simp [ha, hc, h8, h9, hac, hac2]
    · have hx : absI a * d = a * d := by rw [absI_eq, show ((a.natAbs : Nat) : Int) = a by omega]
      have hy : absI c * b = c * b := by rw [absI_eq, show ((c.natAbs : Nat) : Int) = c by omega]
      rw [hx] at hX0 ⊢
      rw [hy] at hY0 ⊢
      generalize a * d = p at *
      generalize c * b = q at *
      have h0 : a ≥ 0 := by omega
      simp only [ha, hc, h0, decide_true, decide_false, cond_true, cond_false]
      by_cases hpq : p = q
      · subst hpq; simp
      · have hne : (p / 18446744073709551616 == q / 18446744073709551616 && p % 18446744073709551616 == q % 18446744073709551616) = false := by
          rw [Bool.and_eq_false_iff]; simp only [beq_eq_false_iff_ne, ne_eq]; omega
        simp only [hne, cond_false, hpq, decide_false]
        by_cases hl : p < q
        · simp only [hl, decide_true, cond_true]
          by_cases l1 : p / 18446744073709551616 < q / 18446744073709551616
          · simp [l1]
          · have l2 : p / 18446744073709551616 = q / 18446744073709551616 := by omega
            have l3 : p % 18446744073709551616 < q % 18446744073709551616 := by omega
            simp [l2, l3]
        · have l1 : ¬ (p / 18446744073709551616 < q / 18446744073709551616) := by omega
          simp only [l1, hl, decide_false, cond_false]
          by_cases l2 : p / 18446744073709551616 = q / 18446744073709551616
          · have l3 : ¬ (p % 18446744073709551616 < q % 18446744073709551616) := by omega
            simp [l2, l3]
          · rw [show (p / 18446744073709551616 == q / 18446744073709551616) = false from beq_false_of_ne l2]; rfl
theorem e26_ok : SpecHolds Tryd.prog InvD 26 fun a => (e26.2 a).run := by
  refine specD cx26 Tryd.func26 (c := codeOf Tryd.prog 26) (by kernel_rfl) (fun _ => .unroll 0) (fun _ _ => trivial) fun args r h => ?_
  simp only [e26] at h
  split at h
  · rename_i a b c d
    exact ⟨by kernel_rfl, tr_ok (by rfl) h, by rw [cmp26]; exact h⟩
  · simp [Tr.run] at h
end Go.Proofs.YtekkphoingjidaaDoor
