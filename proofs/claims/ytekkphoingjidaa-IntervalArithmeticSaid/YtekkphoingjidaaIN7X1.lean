/- IntervalArithmetic returns true for every input, and its arguments read as they did. No condition. -/
import Derived.Test.YtekkphoingjidaaCore5
/- IntervalArithmetic's walk. Conditions: none beyond the context's. -/
namespace Go.Proofs.Ytekkphoingjidaa
open Go.Evl Go.RowKit
abbrev RB7 (b : Bool) : Option Res := some (.ret (.bool b))
def l7 : Ent := ⟨7, fun
  | [.agg [.int .i64 _, .int .i64 _, .int .i64 _, .int .i64 _], .agg [.int .i64 _, .int .i64 _, .int .i64 _, .int .i64 _]] => .leaf (.ret (.bool true))
  | _ => .non⟩
theorem lx7 : (mkCx Try.prog (spOf [i51, i52, i53, i54, i38, i40, i55, i56, iAw]) (inlOf [30, 31]) extD).Ok InvD := cx_of [30, 31] (by kernel_rfl) (by
  intro p hp
  simp only [List.mem_cons, List.not_mem_nil, or_false] at hp
  rcases hp with rfl | rfl | rfl | rfl | rfl | rfl | rfl | rfl | rfl
  · exact i51_ok
  · exact i52_ok
  · exact i53_ok
  · exact i54_ok
  · exact i38_ok
  · exact i40_ok
  · exact i55_ok
  · exact i56_ok
  · exact iAw_ok)
theorem lt7 (a b c d e f g h : Int) : evFn Try.prog (spOf [i51, i52, i53, i54, i38, i40, i55, i56, iAw]) (inlOf [30, 31]) extD (cKD [i51, i52, i53, i54, i38, i40, i55, i56, iAw] [30, 31]) (fun _ => .unroll 5) Try.f7 [I4 a b c d, I4 e f g h] [] (fun r _ => some r) =
  (bif
    !((zF (adE a b c d e f g h) (adP a b c d e f g h)).1 == (zF (adE a b c d e f g h) (adP a b c d e f g h)).1 &&
          ((zF (adE a b c d e f g h) (adP a b c d e f g h)).2 == (zF (adE a b c d e f g h) (adP a b c d e f g h)).2 &&
            true) &&
        ((zF (adE a b c d e f g h) (adQ a b c d e f g h)).1 == (zF (adE a b c d e f g h) (adQ a b c d e f g h)).1 &&
            ((zF (adE a b c d e f g h) (adQ a b c d e f g h)).2 == (zF (adE a b c d e f g h) (adQ a b c d e f g h)).2 &&
              true) &&
          true)) then
  RB7 false
else
  bif adE a b c d e f g h != adE a b c d e f g h then RB7 false
  else
    bif
        !((zF (sbE a b c d e f g h) (sbP a b c d e f g h)).1 == (zF (sbE a b c d e f g h) (sbP a b c d e f g h)).1 &&
              ((zF (sbE a b c d e f g h) (sbP a b c d e f g h)).2 ==
                  (zF (sbE a b c d e f g h) (sbP a b c d e f g h)).2 &&
                true) &&
            ((zF (sbE a b c d e f g h) (sbQ a b c d e f g h)).1 == (zF (sbE a b c d e f g h) (sbQ a b c d e f g h)).1 &&
                ((zF (sbE a b c d e f g h) (sbQ a b c d e f g h)).2 ==
                    (zF (sbE a b c d e f g h) (sbQ a b c d e f g h)).2 &&
                  true) &&
              true)) then
      RB7 false
    else
      bif sbE a b c d e f g h != sbE a b c d e f g h then RB7 false
      else
        bif
            !((zF (mlE a b c d e f g h) (mlP a b c d e f g h)).1 ==
                    (zF (mlE a b c d e f g h) (mlP a b c d e f g h)).1 &&
                  ((zF (mlE a b c d e f g h) (mlP a b c d e f g h)).2 ==
                      (zF (mlE a b c d e f g h) (mlP a b c d e f g h)).2 &&
                    true) &&
                ((zF (mlE a b c d e f g h) (mlQ a b c d e f g h)).1 ==
                      (zF (mlE a b c d e f g h) (mlQ a b c d e f g h)).1 &&
                    ((zF (mlE a b c d e f g h) (mlQ a b c d e f g h)).2 ==
                        (zF (mlE a b c d e f g h) (mlQ a b c d e f g h)).2 &&
                      true) &&
                  true)) then
          RB7 false
        else
          bif mlE a b c d e f g h != mlE a b c d e f g h then RB7 false
          else
            bif
                !((zF (qoE a b c d e f g h) (qoP a b c d e f g h)).1 ==
                        (zF (qoE a b c d e f g h) (qoP a b c d e f g h)).1 &&
                      ((zF (qoE a b c d e f g h) (qoP a b c d e f g h)).2 ==
                          (zF (qoE a b c d e f g h) (qoP a b c d e f g h)).2 &&
                        true) &&
                    ((zF (qoE a b c d e f g h) (qoQ a b c d e f g h)).1 ==
                          (zF (qoE a b c d e f g h) (qoQ a b c d e f g h)).1 &&
                        ((zF (qoE a b c d e f g h) (qoQ a b c d e f g h)).2 ==
                            (zF (qoE a b c d e f g h) (qoQ a b c d e f g h)).2 &&
                          true) &&
                      true)) then
              RB7 false
            else
              bif qoE a b c d e f g h != qoE a b c d e f g h then RB7 false
              else RB7 true : Option Res) := by kernel_rfl
theorem l7_ok : SpecHolds Try.prog InvD 7 fun a => (l7.2 a).run := by
  refine specD lx7 Try.func7 (c := codeOf Try.prog 7) (by kernel_rfl) (fun _ => .unroll 5) (fun _ _ => trivial) fun args r hh => ?_
  simp only [l7] at hh
  split at hh
  · rename_i a b c d e f g h
    refine ⟨by kernel_rfl, tr_ok (by rfl) hh, ?_⟩
    refine (lt7 a b c d e f g h).trans (Eq.trans ?_ hh)
    simp only [beq_self_eq_true, bne_self_eq_false, Bool.and_self, Bool.not_true, cond_true, cond_false]
    rfl
  · simp [Tr.run] at hh
end Go.Proofs.Ytekkphoingjidaa

/- IntervalArithmetic returns true for every input, and its arguments read as they did. No condition. -/
namespace Go.Proofs.Ytekkphoingjidaa
open Go.ChangeShapes Go.WideShapes Go.ChangeAt Go.RowKit Go.Joins Go.Evl

set_option maxRecDepth 100000 in
theorem intervalArithmetic_lifted (os : Os) (started : os.Started) (H : Type) (enc : TypeId × Value → H) :
    ReturnsInHanded {} Try.checked os 7 .any (Rows.intervalArithmeticSpec.pre6 enc Try.prog Try.f7 Rows.intervalArithmeticRow.domain false) (Rows.intervalArithmeticSpec.post enc Try.prog Try.f7 false true false false) := by
  refine returnsInHanded_of_change (C := Try.checked) own started (by kernel_rfl) Try.func7
    (ChangeSpec.witness6 (enc := enc) (C := Try.checked) false ⟨#[], #[.agg #[.int .i64 0, .int .i64 1, .int .i64 0, .int .i64 1], .agg #[.int .i64 0, .int .i64 1, .int .i64 0, .int .i64 1]], []⟩ 8 (by kernel_rfl) (by kernel_rfl) (by kernel_rfl) (by kernel_rfl)) ?_
  intro W base args ds gs before hval0 hW _ _
  have hval : ∀ (j : Nat) t v, Try.f7.params[j]? = some t → args[j]? = some v → Value.okWide Try.prog W .any base t v := hval0
  have hW' := hW
  obtain ⟨p, q, hA0, hV, rfl, hfz, hnd⟩ := hW
  have hA : DataW.TrodAll enc Try.prog W 0 (fun _ => true) true Try.f7.params.toList args.toList ds p := hA0
  rw [Try.params7] at hA hval
  obtain ⟨v0, v1, d0, d1, p0, p1, rfl, rfl, rfl, h0, h1⟩ := trodAll_two hA
  obtain ⟨rfl, rfl⟩ := trodVars_none hV
  have hlt0 : ∀ x ∈ p0, x.block < W.heap.size := fun x hx => by simpa using hW'.lt x (by simp [hx])
  have hlt1 : ∀ x ∈ p1, x.block < W.heap.size := fun x hx => by simpa using hW'.lt x (by simp [hx])
  obtain ⟨a0, b0, c0, e0, rfl⟩ := iv_form (hval 0 25 v0 rfl rfl) h0
  obtain ⟨a1, b1, c1, e1, rfl⟩ := iv_form (hval 1 25 v1 rfl rfl) h1
  clear hA0 hval0
  have hrv : Rvs (fun i => i) (fun _ => False) W None_ [.agg [.int .i64 a0, .int .i64 b0, .int .i64 c0, .int .i64 e0], .agg [.int .i64 a1, .int .i64 b1, .int .i64 c1, .int .i64 e1]] [.agg #[.int .i64 a0, .int .i64 b0, .int .i64 c0, .int .i64 e0], .agg #[.int .i64 a1, .int .i64 b1, .int .i64 c1, .int .i64 e1]] := (.cons (rvV a0 b0 c0 e0) (.cons (rvV a1 b1 c1 e1) .nil))
  refine (l7_ok [.agg [.int .i64 a0, .int .i64 b0, .int .i64 c0, .int .i64 e0], .agg [.int .i64 a1, .int .i64 b1, .int .i64 c1, .int .i64 e1]] (.ret (.bool true)) rfl (fun i => i) (fun _ => False) W [.agg #[.int .i64 a0, .int .i64 b0, .int .i64 c0, .int .i64 e0], .agg #[.int .i64 a1, .int .i64 b1, .int .i64 c1, .int .i64 e1]] (fun _ h => h.elim) trivial hrv).mono fun e W' ⟨hbel, u, he, hu⟩ => ?_
  subst he
  rw [hu.of_bool]
  refine ⟨_, rfl, _, _, _, [], p0 ++ (p1), [], hW', ?_, ?_, rfl, hbel.frame _, fun h => by cases h⟩
  · exact trodAll_mk1 (shut_bool Try.underlying4 true)
  · exact trodAll_mk2 (below_trod (by kernel_rfl) (of_decide_eq_true (by kernel_rfl)) h0 hbel hlt0) (below_trod (by kernel_rfl) (of_decide_eq_true (by kernel_rfl)) h1 hbel hlt1)
theorem intervalArithmetic_holds : Rows.IntervalArithmeticSaid :=
  OpenClaim.holds_of_wide 7 Try.f7 rfl rfl rfl rfl rfl rfl rfl ⟨rfl, rfl, rfl, rfl, rfl⟩ rfl rfl rfl rfl rfl (by kernel_rfl) Try.func7 (by kernel_rfl)
    (of_decide_eq_true (by kernel_rfl)) (by unfold Func.isWrapper; first | (rw [if_pos (by decide +kernel)]; kernel_rfl) | (rw [if_neg (by decide +kernel)]; exact ⟨rfl, rfl⟩))
    (fun os started H enc _ => intervalArithmetic_lifted os started H enc)
#print axioms intervalArithmetic_holds
end Go.Proofs.Ytekkphoingjidaa
