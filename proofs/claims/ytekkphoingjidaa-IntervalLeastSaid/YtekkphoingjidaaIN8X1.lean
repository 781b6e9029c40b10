/- IntervalLeast returns true for every input, and its arguments read as they did. No condition. -/
import Derived.Test.YtekkphoingjidaaCore6
/- IntervalLeast: its loop over the operations. Conditions: none beyond the context's. -/
namespace Go.Proofs.Ytekkphoingjidaa
open Go.Evl Go.RowKit

abbrev keep8 : List Nat := [3, 4, 5, 17]
abbrev vs8 (i : Int) : List AV := [.ptr 0 0, .ptr 1 0, .ptr 2 0, .int .i64 i]
abbrev hp8 (X Y Z : V4) : List Ob := [ob4 X, ob4 Y, ob4 Z]
abbrev inF (p : F2) (X : V4) : Bool := inB p.1 p.2 X.1 X.2.1 X.2.2.1 X.2.2.2
def f8s : List AV → List Ob → Tr (Ex × List AV × List Ob)
  | [.ptr 0 0, .ptr 1 0, .ptr 2 0, .int .i64 i], [.cells [.int .i64 a, .int .i64 b, .int .i64 c, .int .i64 d] 25, .cells [.int .i64 e, .int .i64 f, .int .i64 g, .int .i64 h] 25, .cells [.int .i64 p, .int .i64 q, .int .i64 r, .int .i64 s] 25] =>
    .chk (decide (0 ≤ i) && decide (i ≤ 4)) (.leaf (.exit 0, vs8 4, hp8 (a, b, c, d) (e, f, g, h) (p, q, r, s)))
  | _, _ => .non
abbrev sp8 : List Ent := [i51, i52, i38, i40, e27m, e28m, e29m, e30m, i14, i16, i23, iAw]
abbrev lp8 (i : Nat) : LT := bif Nat.beq i 0 then .sum keep8 f8s else .unroll 3
theorem jx8 : (mkCx Try.prog (spOf sp8) (inlOf [30, 32]) extD).Ok InvD := cx_of [30, 32] (by kernel_rfl) (by
  intro p hp
  simp only [sp8, List.mem_cons, List.not_mem_nil, or_false] at hp
  rcases hp with rfl | rfl | rfl | rfl | rfl | rfl | rfl | rfl | rfl | rfl | rfl | rfl
  · exact i51_ok
  · exact i52_ok
  · exact i38_ok
  · exact i40_ok
  · exact e27m_ok
  · exact e28m_ok
  · exact e29m_ok
  · exact e30m_ok
  · exact i14_ok
  · exact i16_ok
  · exact i23_ok
  · exact iAw_ok)
noncomputable def rd8 (i : Int) (X Y Z : V4) : Option (Ex × List AV × List Ob) :=
  evC (β := Ex × List AV × List Ob) Try.prog (spOf sp8) (inlOf [30, 32]) extD (cKD sp8 [30, 32]) lp8 (bodyOf Try.prog 8 0) ⟨mkF Try.f8.ntmps keep8 (vs8 i), hp8 X Y Z⟩ (fun e st => (cutBack keep8 3 st).map fun q => (e, q.1, q.2))
abbrev N8 (i : Int) (X Y Z : V4) : Option (Ex × List AV × List Ob) := some (.normal, vs8 (i + 1), hp8 X Y Z)
abbrev X8 (i : Int) (X Y Z : V4) : Option (Ex × List AV × List Ob) := some (.ret, vs8 i, hp8 X Y Z)
def pr8 {α : Type} (f : Int) (c : F2) (z : V4) (y n : α) : α := bif f == 0 then bif inF c z then y else n else n
def ro8 {α : Type} (e f1 f2 f3 f4 : Int) (c1 c2 c3 c4 : F2) (z r : V4) (n x : α) : α :=
  bif e == 0 then pr8 f1 c1 z (pr8 f2 c2 z (pr8 f3 c3 z (pr8 f4 c4 z (bif cnV z r then n else x) n) n) n) n else n
section
variable (a b c d e f g h p q r s : Int)
theorem rd8_0 : rd8 0 (a, b, c, d) (e, f, g, h) (p, q, r, s) = ro8 (adEV (a, b, c, d) (e, f, g, h)) (opE (okB a b && okB e f) (a * f + e * b) (b * f)) (opE (okB a b && okB g h) (a * h + g * b) (b * h)) (opE (okB c d && okB e f) (c * f + e * d) (d * f)) (opE (okB c d && okB g h) (c * h + g * d) (d * h)) (opF (okB a b && okB e f) (a * f + e * b) (b * f)) (opF (okB a b && okB g h) (a * h + g * b) (b * h)) (opF (okB c d && okB e f) (c * f + e * d) (d * f)) (opF (okB c d && okB g h) (c * h + g * d) (d * h)) (p, q, r, s) (adV (a, b, c, d) (e, f, g, h)) (N8 0 (a, b, c, d) (e, f, g, h) (p, q, r, s)) (X8 0 (a, b, c, d) (e, f, g, h) (p, q, r, s)) := by kernel_rfl
theorem rd8_1 : rd8 1 (a, b, c, d) (e, f, g, h) (p, q, r, s) = ro8 (sbEV (a, b, c, d) (e, f, g, h)) (opE (okB a b && okB e f) (a * f - e * b) (b * f)) (opE (okB a b && okB g h) (a * h - g * b) (b * h)) (opE (okB c d && okB e f) (c * f - e * d) (d * f)) (opE (okB c d && okB g h) (c * h - g * d) (d * h)) (opF (okB a b && okB e f) (a * f - e * b) (b * f)) (opF (okB a b && okB g h) (a * h - g * b) (b * h)) (opF (okB c d && okB e f) (c * f - e * d) (d * f)) (opF (okB c d && okB g h) (c * h - g * d) (d * h)) (p, q, r, s) (sbV (a, b, c, d) (e, f, g, h)) (N8 1 (a, b, c, d) (e, f, g, h) (p, q, r, s)) (X8 1 (a, b, c, d) (e, f, g, h) (p, q, r, s)) := by kernel_rfl
theorem rd8_2 : rd8 2 (a, b, c, d) (e, f, g, h) (p, q, r, s) = ro8 (mlEV (a, b, c, d) (e, f, g, h)) (opE (okB a b && okB e f) (a * e) (b * f)) (opE (okB a b && okB g h) (a * g) (b * h)) (opE (okB c d && okB e f) (c * e) (d * f)) (opE (okB c d && okB g h) (c * g) (d * h)) (opF (okB a b && okB e f) (a * e) (b * f)) (opF (okB a b && okB g h) (a * g) (b * h)) (opF (okB c d && okB e f) (c * e) (d * f)) (opF (okB c d && okB g h) (c * g) (d * h)) (p, q, r, s) (mlV (a, b, c, d) (e, f, g, h)) (N8 2 (a, b, c, d) (e, f, g, h) (p, q, r, s)) (X8 2 (a, b, c, d) (e, f, g, h) (p, q, r, s)) := by kernel_rfl
theorem rd8_3 : rd8 3 (a, b, c, d) (e, f, g, h) (p, q, r, s) = ro8 (qoEV (a, b, c, d) (e, f, g, h)) (dvE (okB a b && okB e f) a b e f) (dvE (okB a b && okB g h) a b g h) (dvE (okB c d && okB e f) c d e f) (dvE (okB c d && okB g h) c d g h) (dvF (okB a b && okB e f) a b e f) (dvF (okB a b && okB g h) a b g h) (dvF (okB c d && okB e f) c d e f) (dvF (okB c d && okB g h) c d g h) (p, q, r, s) (qoV (a, b, c, d) (e, f, g, h)) (N8 3 (a, b, c, d) (e, f, g, h) (p, q, r, s)) (X8 3 (a, b, c, d) (e, f, g, h) (p, q, r, s)) := by kernel_rfl
theorem rd8_4 : rd8 4 (a, b, c, d) (e, f, g, h) (p, q, r, s) = some (.exit 0, vs8 4, hp8 (a, b, c, d) (e, f, g, h) (p, q, r, s)) := by kernel_rfl
end
theorem pr8_eq {α : Type} {f : Int} {c : F2} {z : V4} {y n : α} (h : f = 0 → inF c z = true → y = n) : pr8 f c z y n = n := by
  unfold pr8
  by_cases h1 : f = 0
  · cases h2 : inF c z with
    | true => rw [h h1 h2]; cases f == 0 <;> rfl
    | false => cases f == 0 <;> rfl
  · rw [show (f == 0) = false from beq_false_of_ne h1]; rfl
theorem ro8_eq {α : Type} {e f1 f2 f3 f4 : Int} {c1 c2 c3 c4 : F2} {z r : V4} {n x : α} (h : e = 0 → f1 = 0 → f2 = 0 → f3 = 0 → f4 = 0 → inF c1 z = true → inF c2 z = true → inF c3 z = true → inF c4 z = true → cnV z r = true) : ro8 e f1 f2 f3 f4 c1 c2 c3 c4 z r n x = n := by
  unfold ro8
  by_cases he : e = 0
  · have : pr8 f1 c1 z (pr8 f2 c2 z (pr8 f3 c3 z (pr8 f4 c4 z (bif cnV z r then n else x) n) n) n) n = n :=
      pr8_eq fun a1 b1 => pr8_eq fun a2 b2 => pr8_eq fun a3 b3 => pr8_eq fun a4 b4 => by rw [h he a1 a2 a3 a4 b1 b2 b3 b4]; rfl
    rw [this]; cases e == 0 <;> rfl
  · rw [show (e == 0) = false from beq_false_of_ne he]; rfl
theorem in_fr {c : F2} {x : Rat} {z : V4} (h : inF c z = true) (hc : Fr c x) : IV z ∧ loK z ≤ x ∧ x ≤ hiK z := by
  obtain ⟨_, k2, k3, k4⟩ := inB_iff.1 h
  rw [hc.k] at k3 k4
  exact ⟨k2, k3, k4⟩
theorem st8_0 (a b c d e f g h p q r s : Int) : rd8 0 (a, b, c, d) (e, f, g, h) (p, q, r, s) = N8 0 (a, b, c, d) (e, f, g, h) (p, q, r, s) := by
  rw [rd8_0]
  refine ro8_eq fun h0 f1 f2 f3 f4 i1 i2 i3 i4 => ?_
  obtain ⟨hX, hY, hz⟩ := ad_is h0
  obtain ⟨hZ, l1, u1⟩ := in_fr i1 (add_fr hX.l hY.l f1)
  obtain ⟨_, l2, u2⟩ := in_fr i2 (add_fr hX.l hY.h f2)
  obtain ⟨_, l3, u3⟩ := in_fr i3 (add_fr hX.h hY.l f3)
  obtain ⟨_, l4, u4⟩ := in_fr i4 (add_fr hX.h hY.h f4)
  exact cn_is hZ.is hz l1 u4
theorem st8_1 (a b c d e f g h p q r s : Int) : rd8 1 (a, b, c, d) (e, f, g, h) (p, q, r, s) = N8 1 (a, b, c, d) (e, f, g, h) (p, q, r, s) := by
  rw [rd8_1]
  refine ro8_eq fun h0 f1 f2 f3 f4 i1 i2 i3 i4 => ?_
  obtain ⟨hX, hY, hz⟩ := sb_is h0
  obtain ⟨hZ, l1, u1⟩ := in_fr i1 (sub_fr hX.l hY.l f1)
  obtain ⟨_, l2, u2⟩ := in_fr i2 (sub_fr hX.l hY.h f2)
  obtain ⟨_, l3, u3⟩ := in_fr i3 (sub_fr hX.h hY.l f3)
  obtain ⟨_, l4, u4⟩ := in_fr i4 (sub_fr hX.h hY.h f4)
  exact cn_is hZ.is hz l2 u3
theorem st8_2 (a b c d e f g h p q r s : Int) : rd8 2 (a, b, c, d) (e, f, g, h) (p, q, r, s) = N8 2 (a, b, c, d) (e, f, g, h) (p, q, r, s) := by
  rw [rd8_2]
  refine ro8_eq fun h0 f1 f2 f3 f4 i1 i2 i3 i4 => ?_
  obtain ⟨hX, hY, hz⟩ := ml_is h0
  obtain ⟨hZ, l1, u1⟩ := in_fr i1 (mul_fr hX.l hY.l f1)
  obtain ⟨_, l2, u2⟩ := in_fr i2 (mul_fr hX.l hY.h f2)
  obtain ⟨_, l3, u3⟩ := in_fr i3 (mul_fr hX.h hY.l f3)
  obtain ⟨_, l4, u4⟩ := in_fr i4 (mul_fr hX.h hY.h f4)
  exact cn_is hZ.is hz (le_r4 l1 l2 l3 l4) (R4_le u1 u2 u3 u4)
theorem st8_3 (a b c d e f g h p q r s : Int) : rd8 3 (a, b, c, d) (e, f, g, h) (p, q, r, s) = N8 3 (a, b, c, d) (e, f, g, h) (p, q, r, s) := by
  rw [rd8_3]
  refine ro8_eq fun h0 f1 f2 f3 f4 i1 i2 i3 i4 => ?_
  obtain ⟨hX, hY, _, hz⟩ := qo_is h0
  obtain ⟨hZ, l1, u1⟩ := in_fr i1 (div_fr hX.l hY.l f1)
  obtain ⟨_, l2, u2⟩ := in_fr i2 (div_fr hX.l hY.h f2)
  obtain ⟨_, l3, u3⟩ := in_fr i3 (div_fr hX.h hY.l f3)
  obtain ⟨_, l4, u4⟩ := in_fr i4 (div_fr hX.h hY.h f4)
  exact cn_is hZ.is hz (le_r4 l1 l2 l3 l4) (R4_le u1 u2 u3 u4)
theorem sum8 : LoopOkT Try.prog (spOf sp8) (inlOf [30, 32]) extD (cKD sp8 [30, 32]) lp8 Try.f8.ntmps (bodyOf Try.prog 8 0) (.sum keep8 f8s) := by
  dsimp only [LoopOkT]
  refine ⟨by decide, by decide, fun vs _ => match vs with | [_, _, _, .int _ i] => (4 - i).toNat | _ => 0, fun vs H R hv hR => ?_⟩
  unfold f8s at hR
  split at hR
  · rename_i i a b c d e f g h p q r s
    cases hc : (decide (0 ≤ i) && decide (i ≤ 4)) with
    | false => rw [hc] at hR; simp [Tr.run] at hR
    | true =>
      rw [hc] at hR
      simp only [Tr.run, cond_true, Option.some.injEq] at hR
      subst hR
      rw [Bool.and_eq_true, decide_eq_true_eq, decide_eq_true_eq] at hc
      obtain ⟨h0, h4⟩ := hc
      have stp : ∀ j : Int, 0 ≤ j → j < 4 → rd8 j (a, b, c, d) (e, f, g, h) (p, q, r, s) = N8 j (a, b, c, d) (e, f, g, h) (p, q, r, s) → ∃ e1 vs1 H1, rd8 j (a, b, c, d) (e, f, g, h) (p, q, r, s) = some (e1, vs1, H1) ∧ match e1 with
          | .normal => (f8s vs1 H1).run = some (.exit 0, vs8 4, hp8 (a, b, c, d) (e, f, g, h) (p, q, r, s)) ∧ (match vs1 with | [_, _, _, .int _ i] => (4 - i).toNat | _ => 0) < (4 - j).toNat
          | ex => (Ex.exit 0, vs8 4, hp8 (a, b, c, d) (e, f, g, h) (p, q, r, s)) = (ex, vs1, H1) := by
        intro j j0 j4 hs
        refine ⟨_, _, _, hs, ?_, ?_⟩
        · simp only [f8s]
          rw [decide_eq_true (show 0 ≤ j + 1 by omega), decide_eq_true (show j + 1 ≤ 4 by omega)]
          rfl
        · show (4 - (j + 1)).toNat < (4 - j).toNat
          omega
      have cs : i = 0 ∨ i = 1 ∨ i = 2 ∨ i = 3 ∨ i = 4 := by omega
      rcases cs with rfl | rfl | rfl | rfl | rfl
      · exact stp 0 (by omega) (by omega) (st8_0 a b c d e f g h p q r s)
      · exact stp 1 (by omega) (by omega) (st8_1 a b c d e f g h p q r s)
      · exact stp 2 (by omega) (by omega) (st8_2 a b c d e f g h p q r s)
      · exact stp 3 (by omega) (by omega) (st8_3 a b c d e f g h p q r s)
      · exact ⟨_, _, _, rd8_4 a b c d e f g h p q r s, rfl⟩
  · simp [Tr.run] at hR

def l8 : Ent := ⟨8, fun
  | [.agg [.int .i64 _, .int .i64 _, .int .i64 _, .int .i64 _], .agg [.int .i64 _, .int .i64 _, .int .i64 _, .int .i64 _], .agg [.int .i64 _, .int .i64 _, .int .i64 _, .int .i64 _]] => .leaf (.ret (.bool true))
  | _ => .non⟩
def fin8 (X Y Z : V4) : Option Res := bif cnV Z X then bif cnV Z Y then bif cnV Z (huV X Y) then RJ true else RJ false else RJ true else RJ true
theorem lt8 (a b c d e f g h p q r s : Int) : evFn Try.prog (spOf sp8) (inlOf [30, 32]) extD (cKD sp8 [30, 32]) lp8 Try.f8 [I4 a b c d, I4 e f g h, I4 p q r s] [] (fun r _ => some r) = fin8 (a, b, c, d) (e, f, g, h) (p, q, r, s) := by kernel_rfl
theorem fin8_eq (X Y Z : V4) : fin8 X Y Z = RJ true := by
  unfold fin8
  cases h1 : cnV Z X with
  | false => rfl
  | true =>
    cases h2 : cnV Z Y with
    | false => rfl
    | true =>
      obtain ⟨k1, k2, k3, k4⟩ := cnV_iff.1 h1
      obtain ⟨_, k6, k7, k8⟩ := cnV_iff.1 h2
      rw [cn_is k1.is (hu_is k2.is k6.is) (le_rmin k3 k7) (rmax_le k4 k8)]
      rfl
set_option maxRecDepth 100000 in
theorem l8_ok : SpecHolds Try.prog InvD 8 fun a => (l8.2 a).run := by
  refine specD jx8 Try.func8 (c := codeOf Try.prog 8) (by kernel_rfl) lp8 (fun p hp => ?_) fun args r hh => ?_
  · have hl : loops (codeOf Try.prog 8) = [(0, bodyOf Try.prog 8 0), (2, bodyOf Try.prog 8 2), (4, bodyOf Try.prog 8 4)] := by kernel_rfl
    rw [hl] at hp
    simp only [List.mem_cons, List.not_mem_nil, or_false] at hp
    rcases hp with rfl | rfl | rfl
    · exact sum8
    · trivial
    · trivial
  simp only [l8] at hh
  split at hh
  · rename_i a b c d e f g h p q r s
    refine ⟨by kernel_rfl, tr_ok (by rfl) hh, ?_⟩
    exact (lt8 a b c d e f g h p q r s).trans ((fin8_eq _ _ _).trans hh)
  · simp [Tr.run] at hh
end Go.Proofs.Ytekkphoingjidaa

/- IntervalLeast returns true for every input, and its arguments read as they did. No condition. -/
namespace Go.Proofs.Ytekkphoingjidaa
open Go.ChangeShapes Go.WideShapes Go.ChangeAt Go.RowKit Go.Joins Go.Evl

set_option maxRecDepth 100000 in
theorem intervalLeast_lifted (os : Os) (started : os.Started) (H : Type) (enc : TypeId × Value → H) :
    ReturnsInHanded {} Try.checked os 8 .any (Rows.intervalLeastSpec.pre6 enc Try.prog Try.f8 Rows.intervalLeastRow.domain false) (Rows.intervalLeastSpec.post enc Try.prog Try.f8 false true false false) := by
  refine returnsInHanded_of_change (C := Try.checked) own started (by kernel_rfl) Try.func8
    (ChangeSpec.witness6 (enc := enc) (C := Try.checked) false ⟨#[], #[.agg #[.int .i64 0, .int .i64 1, .int .i64 0, .int .i64 1], .agg #[.int .i64 0, .int .i64 1, .int .i64 0, .int .i64 1], .agg #[.int .i64 0, .int .i64 1, .int .i64 0, .int .i64 1]], []⟩ 8 (by kernel_rfl) (by kernel_rfl) (by kernel_rfl) (by kernel_rfl)) ?_
  intro W base args ds gs before hval0 hW _ _
  have hval : ∀ (j : Nat) t v, Try.f8.params[j]? = some t → args[j]? = some v → Value.okWide Try.prog W .any base t v := hval0
  have hW' := hW
  obtain ⟨p, q, hA0, hV, rfl, hfz, hnd⟩ := hW
  have hA : DataW.TrodAll enc Try.prog W 0 (fun _ => true) true Try.f8.params.toList args.toList ds p := hA0
  rw [Try.params8] at hA hval
  obtain ⟨v0, v1, v2, d0, d1, d2, p0, p1, p2, rfl, rfl, rfl, h0, h1, h2⟩ := trodAll_three hA
  obtain ⟨rfl, rfl⟩ := trodVars_none hV
  have hlt0 : ∀ x ∈ p0, x.block < W.heap.size := fun x hx => by simpa using hW'.lt x (by simp [hx])
  have hlt1 : ∀ x ∈ p1, x.block < W.heap.size := fun x hx => by simpa using hW'.lt x (by simp [hx])
  have hlt2 : ∀ x ∈ p2, x.block < W.heap.size := fun x hx => by simpa using hW'.lt x (by simp [hx])
  obtain ⟨a0, b0, c0, e0, rfl⟩ := iv_form (hval 0 25 v0 rfl rfl) h0
  obtain ⟨a1, b1, c1, e1, rfl⟩ := iv_form (hval 1 25 v1 rfl rfl) h1
  obtain ⟨a2, b2, c2, e2, rfl⟩ := iv_form (hval 2 25 v2 rfl rfl) h2
  clear hA0 hval0
  have hrv : Rvs (fun i => i) (fun _ => False) W None_ [.agg [.int .i64 a0, .int .i64 b0, .int .i64 c0, .int .i64 e0], .agg [.int .i64 a1, .int .i64 b1, .int .i64 c1, .int .i64 e1], .agg [.int .i64 a2, .int .i64 b2, .int .i64 c2, .int .i64 e2]] [.agg #[.int .i64 a0, .int .i64 b0, .int .i64 c0, .int .i64 e0], .agg #[.int .i64 a1, .int .i64 b1, .int .i64 c1, .int .i64 e1], .agg #[.int .i64 a2, .int .i64 b2, .int .i64 c2, .int .i64 e2]] := (.cons (rvV a0 b0 c0 e0) (.cons (rvV a1 b1 c1 e1) (.cons (rvV a2 b2 c2 e2) .nil)))
  refine (l8_ok [.agg [.int .i64 a0, .int .i64 b0, .int .i64 c0, .int .i64 e0], .agg [.int .i64 a1, .int .i64 b1, .int .i64 c1, .int .i64 e1], .agg [.int .i64 a2, .int .i64 b2, .int .i64 c2, .int .i64 e2]] (.ret (.bool true)) rfl (fun i => i) (fun _ => False) W [.agg #[.int .i64 a0, .int .i64 b0, .int .i64 c0, .int .i64 e0], .agg #[.int .i64 a1, .int .i64 b1, .int .i64 c1, .int .i64 e1], .agg #[.int .i64 a2, .int .i64 b2, .int .i64 c2, .int .i64 e2]] (fun _ h => h.elim) trivial hrv).mono fun e W' ⟨hbel, u, he, hu⟩ => ?_
  subst he
  rw [hu.of_bool]
  refine ⟨_, rfl, _, _, _, [], p0 ++ (p1 ++ (p2)), [], hW', ?_, ?_, rfl, hbel.frame _, fun h => by cases h⟩
  · exact trodAll_mk1 (shut_bool Try.underlying4 true)
  · exact trodAll_mk3 (below_trod (by kernel_rfl) (of_decide_eq_true (by kernel_rfl)) h0 hbel hlt0) (below_trod (by kernel_rfl) (of_decide_eq_true (by kernel_rfl)) h1 hbel hlt1) (below_trod (by kernel_rfl) (of_decide_eq_true (by kernel_rfl)) h2 hbel hlt2)
theorem intervalLeast_holds : Rows.IntervalLeastSaid :=
  OpenClaim.holds_of_wide 8 Try.f8 rfl rfl rfl rfl rfl rfl rfl ⟨rfl, rfl, rfl, rfl, rfl⟩ rfl rfl rfl rfl rfl (by kernel_rfl) Try.func8 (by kernel_rfl)
    (of_decide_eq_true (by kernel_rfl)) (by unfold Func.isWrapper; first | (rw [if_pos (by decide +kernel)]; kernel_rfl) | (rw [if_neg (by decide +kernel)]; exact ⟨rfl, rfl⟩))
    (fun os started H enc _ => intervalLeast_lifted os started H enc)
#print axioms intervalLeast_holds
end Go.Proofs.Ytekkphoingjidaa
