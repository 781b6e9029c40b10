/- RatioFloor's call returns true. Conditions: none beyond the context's. -/
import Derived.Test.YtekkphoingjidaaDoorDD
namespace Go.Proofs.YtekkphoingjidaaDoor
open Go.Evl Go.RowKit

theorem cx7 : (mkCx Tryd.prog (spOf [e13, e14, e15, e26, e19]) (inlOf []) extD).Ok InvD := cx_of [] (by kernel_rfl) (by
  intro p hp
  simp only [List.mem_cons, List.not_mem_nil, or_false] at hp
  rcases hp with rfl | rfl | rfl | rfl | rfl
  · exact e13_ok
  · exact e14_ok
  · exact e15_ok
  · exact e26_ok
  · exact e19_ok)
theorem okB_one {n : Int} (h0 : -1152921504606846976 ≤ n) (h1 : n ≤ 1152921504606846976) : okB n 1 = true := by
  rw [okB_iff]; exact ⟨by omega, by omega, h0, h1, Nat.gcd_one_right _⟩
theorem law7 (a b : Int) : evFn Tryd.prog (spOf [e13, e14, e15, e26, e19]) (inlOf []) extD (cKD [e13, e14, e15, e26, e19] []) (fun _ => .unroll 0) Tryd.f7 [.agg [.int .i64 a, .int .i64 b]] [] (fun r _ => some r) = some (.ret (.bool true)) := by
  rw [tree7]
  cases hok : okB a b with
  | false => rfl
  | true =>
    obtain ⟨h1, h2, h3, h4, h5⟩ := okB_iff.1 hok
    obtain ⟨r1, r2⟩ := ediv_range h1 h3 h4
    have m1 : a / b * b ≤ a := Int.ediv_mul_le a (by omega)
    have m2 : a < (a / b + 1) * b := Int.lt_ediv_add_one_mul_self a (by omega)
    have hb1 : ¬ b > 1 → a / b = a := fun h => by
      have : b = 1 := by omega
      rw [this]; exact Int.ediv_one a
    generalize a / b = n at *
    have e1 : decide (n < -1152921504606846976) = false := by simp; omega
    have e2 : decide (n > 1152921504606846976) = false := by simp; omega
    have e3 : okB n 1 = true := okB_one r1 r2
    have e4 : decide (a * 1 < n * b) = false := by simp; omega
    have e7 : (bif decide (b > 1) then some (Res.ret (AV.bool true)) else bif n == a then some (Res.ret (AV.bool true)) else some (Res.ret (AV.bool false))) = some (Res.ret (AV.bool true)) := by
      by_cases hb : b > 1
      · simp [hb]
      · simp [hb1 hb, hb]
    rw [wrapI (x := n + 1) (by omega) (by omega)]
    have e8 : (bif n == 1152921504606846976 then some (Res.ret (AV.bool true)) else bif okB a b && okB (n + 1) 1 then
        bif decide (a * 1 < (n + 1) * b) then some (Res.ret (AV.bool true)) else bif decide (a * 1 = (n + 1) * b) then some (Res.ret (AV.bool false)) else some (Res.ret (AV.bool false))
      else some (Res.ret (AV.bool false))) = some (Res.ret (AV.bool true)) := by
      by_cases hn : n = 1152921504606846976
      · simp [hn]
      · have hn' : (n == 1152921504606846976) = false := beq_false_of_ne hn
        have e5 : okB (n + 1) 1 = true := okB_one (by omega) (by omega)
        have e6 : decide (a * 1 < (n + 1) * b) = true := by rw [decide_eq_true_eq]; omega
        rw [hn', hok, e5, e6]; rfl
    rw [hok] at e8
    simp only [cond_true, e1, e2, e3, e4, e7, cond_false, Bool.and_self]
    cases decide (a * 1 = n * b) <;> exact e8
def e7 : Ent := ⟨7, fun
  | [.agg [.int .i64 _, .int .i64 _]] => .leaf (.ret (.bool true))
  | _ => .non⟩
theorem e7_ok : SpecHolds Tryd.prog InvD 7 fun a => (e7.2 a).run := by
  refine specD cx7 Tryd.func7 (c := codeOf Tryd.prog 7) (by kernel_rfl) (fun _ => .unroll 0) (fun _ _ => trivial) fun args r h => ?_
  simp only [e7] at h
  split at h
  · rename_i a b
    exact ⟨by kernel_rfl, tr_ok (by rfl) h, by rw [law7]; exact h⟩
  · simp [Tr.run] at h
end Go.Proofs.YtekkphoingjidaaDoor
