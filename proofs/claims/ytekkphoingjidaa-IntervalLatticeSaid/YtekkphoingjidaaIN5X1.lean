/- IntervalLattice returns true for every input, and its arguments read as they did. No condition. -/
import Derived.Test.YtekkphoingjidaaCore5
/- IntervalLattice's walk. Conditions: none beyond the context's. -/
namespace Go.Proofs.Ytekkphoingjidaa
open Go.Evl Go.RowKit
abbrev RL (b : Bool) : Option Res := some (.ret (.bool b))
def l5 : Ent := ⟨5, fun
  | [.agg [.int .i64 _, .int .i64 _, .int .i64 _, .int .i64 _], .agg [.int .i64 _, .int .i64 _, .int .i64 _, .int .i64 _], .agg [.int .i64 _, .int .i64 _, .int .i64 _, .int .i64 _]] => .leaf (.ret (.bool true))
  | _ => .non⟩
theorem lx5 : (mkCx Try.prog (spOf [i11, i16, i18, i20, i23, iAw]) (inlOf []) extD).Ok InvD := cx_of [] (by kernel_rfl) (by
  intro p hp
  simp only [List.mem_cons, List.not_mem_nil, or_false] at hp
  rcases hp with rfl | rfl | rfl | rfl | rfl | rfl
  · exact i11_ok
  · exact i16_ok
  · exact i18_ok
  · exact i20_ok
  · exact i23_ok
  · exact iAw_ok)
def ltF (F : V4 → V4 → V4) (X Y Z : V4) (r : Option Res) : Option Res := bif !eqV (F X Y) (F Y X) then RL false else bif !eqV (F (F X Y) Z) (F X (F Y Z)) then RL false else bif !eqV (F X X) X then RL false else bif ivV (F X Y) != 0 then RL false else r
def ltE (X Y : V4) : Option Res := bif eqV (miV X (maV X Y)) X then RL true else RL false
def ltT (X Y Z : V4) : Option Res :=
  bif ivV X != 0 then RL true else bif ivV Y != 0 then RL true else bif ivV Z != 0 then RL true else
  ltF huV X Y Z (ltF miV X Y Z (ltF maV X Y Z (
    bif cnV (huV X Y) X then bif cnV (huV X Y) Y then
      bif cnV Z (huV X Y) then bif cnV Z X then bif cnV Z Y then ltE X Y else RL false else RL false
      else bif cnV Z X then bif cnV Z Y then RL false else ltE X Y else ltE X Y
    else RL false else RL false)))
theorem lt5 (a b c d e f g h k l m n : Int) : evFn Try.prog (spOf [i11, i16, i18, i20, i23, iAw]) (inlOf []) extD (cKD [i11, i16, i18, i20, i23, iAw] []) (fun _ => .unroll 5) Try.f5 [I4 a b c d, I4 e f g h, I4 k l m n] [] (fun r _ => some r) = ltT (a, b, c, d) (e, f, g, h) (k, l, m, n) := by kernel_rfl
theorem ltF_eq {F : V4 → V4 → V4} {p q : Rat → Rat → Rat} (hF : ∀ {X Y : V4} {a b c d : Rat}, Is X a b → Is Y c d → Is (F X Y) (p a c) (q b d))
    (pc : ∀ a b, p a b = p b a) (qc : ∀ a b, q a b = q b a) (pa : ∀ a b c, p (p a b) c = p a (p b c)) (qa : ∀ a b c, q (q a b) c = q a (q b c)) (ps : ∀ a, p a a = a) (qs : ∀ a, q a a = a)
    {X Y Z : V4} (hX : IV X) (hY : IV Y) (hZ : IV Z) (r : Option Res) : ltF F X Y Z r = r := by
  unfold ltF
  rw [(hF hX.is hY.is).eq (hF hY.is hX.is) (pc _ _) (qc _ _), (hF (hF hX.is hY.is) hZ.is).eq (hF hX.is (hF hY.is hZ.is)) (pa _ _ _) (qa _ _ _), (hF hX.is hX.is).eq hX.is (ps _) (qs _), ivV_zero.2 (hF hX.is hY.is).v]
  rfl
theorem ltE_eq {X Y : V4} (hX : IV X) (hY : IV Y) : ltE X Y = RL true := by
  unfold ltE
  rw [(mi_is hX.is (ma_is hX.is hY.is)).eq hX.is (rmin_absorb _ _) (rmin_absorb _ _)]
  rfl
theorem ltT_eq (X Y Z : V4) : ltT X Y Z = RL true := by
  unfold ltT
  cases h1 : ivV X != 0 with
  | true => rfl
  | false =>
  cases h2 : ivV Y != 0 with
  | true => rfl
  | false =>
  cases h3 : ivV Z != 0 with
  | true => rfl
  | false =>
  have hX := ivV_zero.1 h1
  have hY := ivV_zero.1 h2
  have hZ := ivV_zero.1 h3
  simp only [cond_false]
  rw [ltF_eq hu_is rmin_comm rmax_comm rmin_assoc rmax_assoc rmin_self rmax_self hX hY hZ, ltF_eq mi_is rmin_comm rmin_comm rmin_assoc rmin_assoc rmin_self rmin_self hX hY hZ, ltF_eq ma_is rmax_comm rmax_comm rmax_assoc rmax_assoc rmax_self rmax_self hX hY hZ, ltE_eq hX hY]
  have hh := hu_is hX.is hY.is
  have c1 : cnV (huV X Y) X = true := cnV_iff.2 ⟨hh.v, hX, by rw [hh.l]; exact (rmin_le _ _).1, by rw [hh.h]; exact (rmax_ge _ _).1⟩
  have c2 : cnV (huV X Y) Y = true := cnV_iff.2 ⟨hh.v, hY, by rw [hh.l]; exact (rmin_le _ _).2, by rw [hh.h]; exact (rmax_ge _ _).2⟩
  have c3 : cnV Z (huV X Y) = (cnV Z X && cnV Z Y) := by
    rw [Bool.eq_iff_iff, Bool.and_eq_true, cnV_iff, cnV_iff, cnV_iff, hh.l, hh.h]
    constructor
    · rintro ⟨_, _, k1, k2⟩
      have := rmin_le (loK X) (loK Y)
      have := rmax_ge (hiK X) (hiK Y)
      exact ⟨⟨hZ, hX, by grind, by grind⟩, hZ, hY, by grind, by grind⟩
    · rintro ⟨⟨_, _, k1, k2⟩, _, _, k3, k4⟩
      refine ⟨hZ, hh.v, ?_, ?_⟩
      · unfold rmin; split <;> assumption
      · unfold rmax; split <;> assumption
  rw [c1, c2, c3]
  cases cnV Z X <;> cases cnV Z Y <;> rfl
theorem l5_ok : SpecHolds Try.prog InvD 5 fun a => (l5.2 a).run := by
  refine specD lx5 Try.func5 (c := codeOf Try.prog 5) (by kernel_rfl) (fun _ => .unroll 5) (fun _ _ => trivial) fun args r hh => ?_
  simp only [l5] at hh
  split at hh
  · rename_i a b c d e f g h k l m n
    refine ⟨by kernel_rfl, tr_ok (by rfl) hh, ?_⟩
    exact (lt5 a b c d e f g h k l m n).trans ((ltT_eq _ _ _).trans hh)
  · simp [Tr.run] at hh
end Go.Proofs.Ytekkphoingjidaa

/- IntervalLattice returns true for every input, and its arguments read as they did. No condition. -/
namespace Go.Proofs.Ytekkphoingjidaa
open Go.ChangeShapes Go.WideShapes Go.ChangeAt Go.RowKit Go.Joins Go.Evl

set_option maxRecDepth 100000 in
theorem intervalLattice_lifted (os : Os) (started : os.Started) (H : Type) (enc : TypeId × Value → H) :
    ReturnsInHanded {} Try.checked os 5 .any (Rows.intervalLatticeSpec.pre6 enc Try.prog Try.f5 Rows.intervalLatticeRow.domain false) (Rows.intervalLatticeSpec.post enc Try.prog Try.f5 false true false false) := by
  refine returnsInHanded_of_change (C := Try.checked) own started (by kernel_rfl) Try.func5
    (ChangeSpec.witness6 (enc := enc) (C := Try.checked) false ⟨#[], #[.agg #[.int .i64 0, .int .i64 1, .int .i64 0, .int .i64 1], .agg #[.int .i64 0, .int .i64 1, .int .i64 0, .int .i64 1], .agg #[.int .i64 0, .int .i64 1, .int .i64 0, .int .i64 1]], []⟩ 8 (by kernel_rfl) (by kernel_rfl) (by kernel_rfl) (by kernel_rfl)) ?_
  intro W base args ds gs before hval0 hW _ _
  have hval : ∀ (j : Nat) t v, Try.f5.params[j]? = some t → args[j]? = some v → Value.okWide Try.prog W .any base t v := hval0
  have hW' := hW
  obtain ⟨p, q, hA0, hV, rfl, hfz, hnd⟩ := hW
  have hA : DataW.TrodAll enc Try.prog W 0 (fun _ => true) true Try.f5.params.toList args.toList ds p := hA0
  rw [Try.params5] at hA hval
  obtain ⟨v0, v1, v2, d0, d1, d2, p0, p1, p2, rfl, rfl, rfl, h0, h1, h2⟩ := trodAll_three hA
  obtain ⟨rfl, rfl⟩ := trodVars_none hV
  have hlt0 : ∀ x ∈ p0, x.block < W.heap.size := fun x hx => by simpa using hW'.lt x (by simp [hx])
  have hlt1 : ∀ x ∈ p1, x.block < W.heap.size := fun x hx => by simpa using hW'.lt x (by simp [hx])
  have hlt2 : ∀ x ∈ p2, x.block < W.heap.size := fun x hx => by simpa using hW'.lt x (by simp [hx])
  obtain ⟨a0, b0, c0, e0, rfl⟩ := iv_form (hval 0 25 v0 rfl rfl) h0
  obtain ⟨a1, b1, c1, e1, rfl⟩ := iv_form (hval 1 25 v1 rfl rfl) h1
  obtain ⟨a2, b2, c2, e2, rfl⟩ := iv_form (hval 2 25 v2 rfl rfl) h2
  clear hA0 hval0
  have hrv : Rvs (fun i => i) (fun _ => False) W None_ [.agg [.int .i64 a0, .int .i64 b0, .int .i64 c0, .int .i64 e0], .agg [.int .i64 a1, .int .i64 b1, .int .i64 c1, .int .i64 e1], .agg [.int .i64 a2, .int .i64 b2, .int .i64 c2, .int .i64 e2]] [.agg #[.int .i64 a0, .int .i64 b0, .int .i64 c0, .int .i64 e0], .agg #[.int .i64 a1, .int .i64 b1, .int .i64 c1, .int .i64 e1], .agg #[.int .i64 a2, .int .i64 b2, .int .i64 c2, .int .i64 e2]] := (.cons (rvV a0 b0 c0 e0) (.cons (rvV a1 b1 c1 e1) (.cons (rvV a2 b2 c2 e2) .nil)))
  refine (l5_ok [.agg [.int .i64 a0, .int .i64 b0, .int .i64 c0, .int .i64 e0], .agg [.int .i64 a1, .int .i64 b1, .int .i64 c1, .int .i64 e1], .agg [.int .i64 a2, .int .i64 b2, .int .i64 c2, .int .i64 e2]] (.ret (.bool true)) rfl (fun i => i) (fun _ => False) W [.agg #[.int .i64 a0, .int .i64 b0, .int .i64 c0, .int .i64 e0], .agg #[.int .i64 a1, .int .i64 b1, .int .i64 c1, .int .i64 e1], .agg #[.int .i64 a2, .int .i64 b2, .int .i64 c2, .int .i64 e2]] (fun _ h => h.elim) trivial hrv).mono fun e W' ⟨hbel, u, he, hu⟩ => ?_
  subst he
  rw [hu.of_bool]
  refine ⟨_, rfl, _, _, _, [], p0 ++ (p1 ++ (p2)), [], hW', ?_, ?_, rfl, hbel.frame _, fun h => by cases h⟩
  · exact trodAll_mk1 (shut_bool Try.underlying4 true)
  · exact trodAll_mk3 (below_trod (by kernel_rfl) (of_decide_eq_true (by kernel_rfl)) h0 hbel hlt0) (below_trod (by kernel_rfl) (of_decide_eq_true (by kernel_rfl)) h1 hbel hlt1) (below_trod (by kernel_rfl) (of_decide_eq_true (by kernel_rfl)) h2 hbel hlt2)
theorem intervalLattice_holds : Rows.IntervalLatticeSaid :=
  OpenClaim.holds_of_wide 5 Try.f5 rfl rfl rfl rfl rfl rfl rfl ⟨rfl, rfl, rfl, rfl, rfl⟩ rfl rfl rfl rfl rfl (by kernel_rfl) Try.func5 (by kernel_rfl)
    (of_decide_eq_true (by kernel_rfl)) (by unfold Func.isWrapper; first | (rw [if_pos (by decide +kernel)]; kernel_rfl) | (rw [if_neg (by decide +kernel)]; exact ⟨rfl, rfl⟩))
    (fun os started H enc _ => intervalLattice_lifted os started H enc)
#print axioms intervalLattice_holds
end Go.Proofs.Ytekkphoingjidaa
