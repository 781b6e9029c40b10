/- IntervalMonotone returns true for every input, and its arguments read as they did. No condition. -/
import Derived.Test.YtekkphoingjidaaCore6
/- IntervalMonotone's walk. Conditions: none beyond the context's. -/
namespace Go.Proofs.Ytekkphoingjidaa
open Go.Evl Go.RowKit
def l10 : Ent := ⟨10, fun
  | [.agg [.int .i64 _, .int .i64 _, .int .i64 _, .int .i64 _], .agg [.int .i64 _, .int .i64 _, .int .i64 _, .int .i64 _], .agg [.int .i64 _, .int .i64 _, .int .i64 _, .int .i64 _], .agg [.int .i64 _, .int .i64 _, .int .i64 _, .int .i64 _]] => .leaf (.ret (.bool true))
  | _ => .non⟩
def fin10 (X Y U W : V4) : Option Res := bif cnV (miV X Y) (miV U W) then bif cnV (maV X Y) (maV U W) then bif cnV (huV X Y) (huV U W) then RJ true else RJ false else RJ false else RJ false
theorem lt10 (a b c d e f g h k l m n p q r s : Int) : evFn Try.prog (spOf sp10) (inlOf [30]) extD (cKD sp10 [30]) lp10 Try.f10 [I4 a b c d, I4 e f g h, I4 k l m n, I4 p q r s] [] (fun r _ => some r) =
    (bif cnV (a, b, c, d) (k, l, m, n) then bif cnV (e, f, g, h) (p, q, r, s) then bif gd10 (a, b, c, d) (e, f, g, h) (k, l, m, n) (p, q, r, s) && true then fin10 (a, b, c, d) (e, f, g, h) (k, l, m, n) (p, q, r, s) else none else RJ true else RJ true) := by kernel_rfl
theorem rmin_mono {a b c d : Rat} (h1 : a ≤ c) (h2 : b ≤ d) : rmin a b ≤ rmin c d := le_rmin (Rat.le_trans (rmin_le _ _).1 h1) (Rat.le_trans (rmin_le _ _).2 h2)
theorem rmax_mono {a b c d : Rat} (h1 : a ≤ c) (h2 : b ≤ d) : rmax a b ≤ rmax c d := rmax_le (Rat.le_trans h1 (rmax_ge _ _).1) (Rat.le_trans h2 (rmax_ge _ _).2)
theorem fin10_eq {X Y U W : V4} (h1 : cnV X U = true) (h2 : cnV Y W = true) : fin10 X Y U W = RJ true := by
  obtain ⟨k1, k2, k3, k4⟩ := cnV_iff.1 h1
  obtain ⟨k5, k6, k7, k8⟩ := cnV_iff.1 h2
  unfold fin10
  rw [cn_is (mi_is k1.is k5.is) (mi_is k2.is k6.is) (rmin_mono k3 k7) (rmin_mono k4 k8), cn_is (ma_is k1.is k5.is) (ma_is k2.is k6.is) (rmax_mono k3 k7) (rmax_mono k4 k8), cn_is (hu_is k1.is k5.is) (hu_is k2.is k6.is) (rmin_mono k3 k7) (rmax_mono k4 k8)]
  rfl
set_option maxRecDepth 100000 in
theorem l10_ok : SpecHolds Try.prog InvD 10 fun a => (l10.2 a).run := by
  refine specD jx10 Try.func10 (c := codeOf Try.prog 10) (by kernel_rfl) lp10 (fun p hp => ?_) fun args r hh => ?_
  · have hl : loops (codeOf Try.prog 10) = [(0, bodyOf Try.prog 10 0)] := by kernel_rfl
    rw [hl, List.mem_singleton] at hp
    subst hp
    exact sum10
  simp only [l10] at hh
  split at hh
  · rename_i a b c d e f g h k l m n p q r s
    refine ⟨by kernel_rfl, tr_ok (by rfl) hh, ?_⟩
    refine (lt10 a b c d e f g h k l m n p q r s).trans (Eq.trans ?_ hh)
    cases h1 : cnV (a, b, c, d) (k, l, m, n) with
    | false => rfl
    | true =>
      cases h2 : cnV (e, f, g, h) (p, q, r, s) with
      | false => rfl
      | true =>
        have hg : gd10 (a, b, c, d) (e, f, g, h) (k, l, m, n) (p, q, r, s) = true := by unfold gd10; rw [h1, h2]; rfl
        rw [hg]
        exact fin10_eq h1 h2
  · simp [Tr.run] at hh
end Go.Proofs.Ytekkphoingjidaa

/- IntervalMonotone returns true for every input, and its arguments read as they did. No condition. -/
namespace Go.Proofs.Ytekkphoingjidaa
open Go.ChangeShapes Go.WideShapes Go.ChangeAt Go.RowKit Go.Joins Go.Evl

set_option maxRecDepth 100000 in
theorem intervalMonotone_lifted (os : Os) (started : os.Started) (H : Type) (enc : TypeId × Value → H) :
    ReturnsInHanded {} Try.checked os 10 .any (Rows.intervalMonotoneSpec.pre6 enc Try.prog Try.f10 Rows.intervalMonotoneRow.domain false) (Rows.intervalMonotoneSpec.post enc Try.prog Try.f10 false true false false) := by
  refine returnsInHanded_of_change (C := Try.checked) own started (by kernel_rfl) Try.func10
    (ChangeSpec.witness6 (enc := enc) (C := Try.checked) false ⟨#[], #[.agg #[.int .i64 0, .int .i64 1, .int .i64 0, .int .i64 1], .agg #[.int .i64 0, .int .i64 1, .int .i64 0, .int .i64 1], .agg #[.int .i64 0, .int .i64 1, .int .i64 0, .int .i64 1], .agg #[.int .i64 0, .int .i64 1, .int .i64 0, .int .i64 1]], []⟩ 8 (by kernel_rfl) (by kernel_rfl) (by kernel_rfl) (by kernel_rfl)) ?_
  intro W base args ds gs before hval0 hW _ _
  have hval : ∀ (j : Nat) t v, Try.f10.params[j]? = some t → args[j]? = some v → Value.okWide Try.prog W .any base t v := hval0
  have hW' := hW
  obtain ⟨p, q, hA0, hV, rfl, hfz, hnd⟩ := hW
  have hA : DataW.TrodAll enc Try.prog W 0 (fun _ => true) true Try.f10.params.toList args.toList ds p := hA0
  rw [Try.params10] at hA hval
  obtain ⟨v0, v1, v2, v3, d0, d1, d2, d3, p0, p1, p2, p3, rfl, rfl, rfl, h0, h1, h2, h3⟩ := trodAll_four hA
  obtain ⟨rfl, rfl⟩ := trodVars_none hV
  have hlt0 : ∀ x ∈ p0, x.block < W.heap.size := fun x hx => by simpa using hW'.lt x (by simp [hx])
  have hlt1 : ∀ x ∈ p1, x.block < W.heap.size := fun x hx => by simpa using hW'.lt x (by simp [hx])
  have hlt2 : ∀ x ∈ p2, x.block < W.heap.size := fun x hx => by simpa using hW'.lt x (by simp [hx])
  have hlt3 : ∀ x ∈ p3, x.block < W.heap.size := fun x hx => by simpa using hW'.lt x (by simp [hx])
  obtain ⟨a0, b0, c0, e0, rfl⟩ := iv_form (hval 0 25 v0 rfl rfl) h0
  obtain ⟨a1, b1, c1, e1, rfl⟩ := iv_form (hval 1 25 v1 rfl rfl) h1
  obtain ⟨a2, b2, c2, e2, rfl⟩ := iv_form (hval 2 25 v2 rfl rfl) h2
  obtain ⟨a3, b3, c3, e3, rfl⟩ := iv_form (hval 3 25 v3 rfl rfl) h3
  clear hA0 hval0
  have hrv : Rvs (fun i => i) (fun _ => False) W None_ [.agg [.int .i64 a0, .int .i64 b0, .int .i64 c0, .int .i64 e0], .agg [.int .i64 a1, .int .i64 b1, .int .i64 c1, .int .i64 e1], .agg [.int .i64 a2, .int .i64 b2, .int .i64 c2, .int .i64 e2], .agg [.int .i64 a3, .int .i64 b3, .int .i64 c3, .int .i64 e3]] [.agg #[.int .i64 a0, .int .i64 b0, .int .i64 c0, .int .i64 e0], .agg #[.int .i64 a1, .int .i64 b1, .int .i64 c1, .int .i64 e1], .agg #[.int .i64 a2, .int .i64 b2, .int .i64 c2, .int .i64 e2], .agg #[.int .i64 a3, .int .i64 b3, .int .i64 c3, .int .i64 e3]] := (.cons (rvV a0 b0 c0 e0) (.cons (rvV a1 b1 c1 e1) (.cons (rvV a2 b2 c2 e2) (.cons (rvV a3 b3 c3 e3) .nil))))
  refine (l10_ok [.agg [.int .i64 a0, .int .i64 b0, .int .i64 c0, .int .i64 e0], .agg [.int .i64 a1, .int .i64 b1, .int .i64 c1, .int .i64 e1], .agg [.int .i64 a2, .int .i64 b2, .int .i64 c2, .int .i64 e2], .agg [.int .i64 a3, .int .i64 b3, .int .i64 c3, .int .i64 e3]] (.ret (.bool true)) rfl (fun i => i) (fun _ => False) W [.agg #[.int .i64 a0, .int .i64 b0, .int .i64 c0, .int .i64 e0], .agg #[.int .i64 a1, .int .i64 b1, .int .i64 c1, .int .i64 e1], .agg #[.int .i64 a2, .int .i64 b2, .int .i64 c2, .int .i64 e2], .agg #[.int .i64 a3, .int .i64 b3, .int .i64 c3, .int .i64 e3]] (fun _ h => h.elim) trivial hrv).mono fun e W' ⟨hbel, u, he, hu⟩ => ?_
  subst he
  rw [hu.of_bool]
  refine ⟨_, rfl, _, _, _, [], p0 ++ (p1 ++ (p2 ++ (p3))), [], hW', ?_, ?_, rfl, hbel.frame _, fun h => by cases h⟩
  · exact trodAll_mk1 (shut_bool Try.underlying4 true)
  · exact trodAll_mk4 (below_trod (by kernel_rfl) (of_decide_eq_true (by kernel_rfl)) h0 hbel hlt0) (below_trod (by kernel_rfl) (of_decide_eq_true (by kernel_rfl)) h1 hbel hlt1) (below_trod (by kernel_rfl) (of_decide_eq_true (by kernel_rfl)) h2 hbel hlt2) (below_trod (by kernel_rfl) (of_decide_eq_true (by kernel_rfl)) h3 hbel hlt3)
theorem intervalMonotone_holds : Rows.IntervalMonotoneSaid :=
  OpenClaim.holds_of_wide 10 Try.f10 rfl rfl rfl rfl rfl rfl rfl ⟨rfl, rfl, rfl, rfl, rfl⟩ rfl rfl rfl rfl rfl (by kernel_rfl) Try.func10 (by kernel_rfl)
    (of_decide_eq_true (by kernel_rfl)) (by unfold Func.isWrapper; first | (rw [if_pos (by decide +kernel)]; kernel_rfl) | (rw [if_neg (by decide +kernel)]; exact ⟨rfl, rfl⟩))
    (fun os started H enc _ => intervalMonotone_lifted os started H enc)
#print axioms intervalMonotone_holds
end Go.Proofs.Ytekkphoingjidaa
