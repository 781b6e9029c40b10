/- IntervalCheck returns true for every input, and its arguments read as they did. No condition. -/
import Derived.Test.YtekkphoingjidaaCore4
/- IntervalCheck's walk. Conditions: none beyond the context's. -/
namespace Go.Proofs.Ytekkphoingjidaa
open Go.Evl Go.RowKit
abbrev RB6 (b : Bool) : Option Res := some (.ret (.bool b))
def l6 : Ent := ⟨6, fun
  | [.agg [.int .i64 _, .int .i64 _, .int .i64 _, .int .i64 _], .agg [.int .i64 _, .int .i64 _, .int .i64 _, .int .i64 _]] => .leaf (.ret (.bool true))
  | _ => .non⟩
theorem lx6 : (mkCx Try.prog (spOf [i24, i25, i11, i26, i27, i28, i23, i29, iAw]) (inlOf []) extD).Ok InvD := cx_of [] (by kernel_rfl) (by
  intro p hp
  simp only [List.mem_cons, List.not_mem_nil, or_false] at hp
  rcases hp with rfl | rfl | rfl | rfl | rfl | rfl | rfl | rfl | rfl
  · exact i24_ok
  · exact i25_ok
  · exact i11_ok
  · exact i26_ok
  · exact i27_ok
  · exact i28_ok
  · exact i23_ok
  · exact i29_ok
  · exact iAw_ok)
theorem lt6 (a b c d e f g h : Int) : evFn Try.prog (spOf [i24, i25, i11, i26, i27, i28, i23, i29, iAw]) (inlOf []) extD (cKD [i24, i25, i11, i26, i27, i28, i23, i29, iAw] []) (fun _ => .unroll 0) Try.f6 [I4 a b c d, I4 e f g h] [] (fun r _ => some r) =
  (bif ivI a b c d == ivI a b c d then
  bif a == a && (b == b && true) && (a == a && (b == b && true) && true) then
    bif cnB a b c d e f g h then
      bif cnB a b c d e f g h then
        bif
            selI (ivB a b c d) (opN (okB c d && okB a b) (c * b - a * d) (d * b)) ==
                selI (ivB a b c d) (opN (okB c d && okB a b) (c * b - a * d) (d * b)) &&
              (selI (ivB a b c d) (opD (okB c d && okB a b) (c * b - a * d) (d * b)) ==
                  selI (ivB a b c d) (opD (okB c d && okB a b) (c * b - a * d) (d * b)) &&
                true) then
          bif wdE a b c d == wdE a b c d then RB6 true else RB6 false
        else RB6 false
      else RB6 false
    else
      bif cnB a b c d e f g h then RB6 false
      else
        bif
            selI (ivB a b c d) (opN (okB c d && okB a b) (c * b - a * d) (d * b)) ==
                selI (ivB a b c d) (opN (okB c d && okB a b) (c * b - a * d) (d * b)) &&
              (selI (ivB a b c d) (opD (okB c d && okB a b) (c * b - a * d) (d * b)) ==
                  selI (ivB a b c d) (opD (okB c d && okB a b) (c * b - a * d) (d * b)) &&
                true) then
          bif wdE a b c d == wdE a b c d then RB6 true else RB6 false
        else RB6 false
  else RB6 false
else RB6 false : Option Res) := by kernel_rfl
theorem l6_ok : SpecHolds Try.prog InvD 6 fun a => (l6.2 a).run := by
  refine specD lx6 Try.func6 (c := codeOf Try.prog 6) (by kernel_rfl) (fun _ => .unroll 0) (fun _ _ => trivial) fun args r hh => ?_
  simp only [l6] at hh
  split at hh
  · rename_i a b c d e f g h
    refine ⟨by kernel_rfl, tr_ok (by rfl) hh, ?_⟩
    refine (lt6 a b c d e f g h).trans (Eq.trans ?_ hh)
    simp only [beq_self_eq_true, Bool.and_self, cond_true]
    cases cnB a b c d e f g h <;> rfl
  · simp [Tr.run] at hh
end Go.Proofs.Ytekkphoingjidaa

/- IntervalCheck returns true for every input, and its arguments read as they did. No condition. -/
namespace Go.Proofs.Ytekkphoingjidaa
open Go.ChangeShapes Go.WideShapes Go.ChangeAt Go.RowKit Go.Joins Go.Evl

set_option maxRecDepth 100000 in
theorem intervalCheck_lifted (os : Os) (started : os.Started) (H : Type) (enc : TypeId × Value → H) :
    ReturnsInHanded {} Try.checked os 6 .any (Rows.intervalCheckSpec.pre6 enc Try.prog Try.f6 Rows.intervalCheckRow.domain false) (Rows.intervalCheckSpec.post enc Try.prog Try.f6 false true false false) := by
  refine returnsInHanded_of_change (C := Try.checked) own started (by kernel_rfl) Try.func6
    (ChangeSpec.witness6 (enc := enc) (C := Try.checked) false ⟨#[], #[.agg #[.int .i64 0, .int .i64 1, .int .i64 0, .int .i64 1], .agg #[.int .i64 0, .int .i64 1, .int .i64 0, .int .i64 1]], []⟩ 8 (by kernel_rfl) (by kernel_rfl) (by kernel_rfl) (by kernel_rfl)) ?_
  intro W base args ds gs before hval0 hW _ _
  have hval : ∀ (j : Nat) t v, Try.f6.params[j]? = some t → args[j]? = some v → Value.okWide Try.prog W .any base t v := hval0
  have hW' := hW
  obtain ⟨p, q, hA0, hV, rfl, hfz, hnd⟩ := hW
  have hA : DataW.TrodAll enc Try.prog W 0 (fun _ => true) true Try.f6.params.toList args.toList ds p := hA0
  rw [Try.params6] at hA hval
  obtain ⟨v0, v1, d0, d1, p0, p1, rfl, rfl, rfl, h0, h1⟩ := trodAll_two hA
  obtain ⟨rfl, rfl⟩ := trodVars_none hV
  have hlt0 : ∀ x ∈ p0, x.block < W.heap.size := fun x hx => by simpa using hW'.lt x (by simp [hx])
  have hlt1 : ∀ x ∈ p1, x.block < W.heap.size := fun x hx => by simpa using hW'.lt x (by simp [hx])
  obtain ⟨a0, b0, c0, e0, rfl⟩ := iv_form (hval 0 25 v0 rfl rfl) h0
  obtain ⟨a1, b1, c1, e1, rfl⟩ := iv_form (hval 1 25 v1 rfl rfl) h1
  clear hA0 hval0
  have hrv : Rvs (fun i => i) (fun _ => False) W None_ [.agg [.int .i64 a0, .int .i64 b0, .int .i64 c0, .int .i64 e0], .agg [.int .i64 a1, .int .i64 b1, .int .i64 c1, .int .i64 e1]] [.agg #[.int .i64 a0, .int .i64 b0, .int .i64 c0, .int .i64 e0], .agg #[.int .i64 a1, .int .i64 b1, .int .i64 c1, .int .i64 e1]] := (.cons (rvV a0 b0 c0 e0) (.cons (rvV a1 b1 c1 e1) .nil))
  refine (l6_ok [.agg [.int .i64 a0, .int .i64 b0, .int .i64 c0, .int .i64 e0], .agg [.int .i64 a1, .int .i64 b1, .int .i64 c1, .int .i64 e1]] (.ret (.bool true)) rfl (fun i => i) (fun _ => False) W [.agg #[.int .i64 a0, .int .i64 b0, .int .i64 c0, .int .i64 e0], .agg #[.int .i64 a1, .int .i64 b1, .int .i64 c1, .int .i64 e1]] (fun _ h => h.elim) trivial hrv).mono fun e W' ⟨hbel, u, he, hu⟩ => ?_
  subst he
  rw [hu.of_bool]
  refine ⟨_, rfl, _, _, _, [], p0 ++ (p1), [], hW', ?_, ?_, rfl, hbel.frame _, fun h => by cases h⟩
  · exact trodAll_mk1 (shut_bool Try.underlying4 true)
  · exact trodAll_mk2 (below_trod (by kernel_rfl) (of_decide_eq_true (by kernel_rfl)) h0 hbel hlt0) (below_trod (by kernel_rfl) (of_decide_eq_true (by kernel_rfl)) h1 hbel hlt1)
theorem intervalCheck_holds : Rows.IntervalCheckSaid :=
  OpenClaim.holds_of_wide 6 Try.f6 rfl rfl rfl rfl rfl rfl rfl ⟨rfl, rfl, rfl, rfl, rfl⟩ rfl rfl rfl rfl rfl (by kernel_rfl) Try.func6 (by kernel_rfl)
    (of_decide_eq_true (by kernel_rfl)) (by unfold Func.isWrapper; first | (rw [if_pos (by decide +kernel)]; kernel_rfl) | (rw [if_neg (by decide +kernel)]; exact ⟨rfl, rfl⟩))
    (fun os started H enc _ => intervalCheck_lifted os started H enc)
#print axioms intervalCheck_holds
end Go.Proofs.Ytekkphoingjidaa
