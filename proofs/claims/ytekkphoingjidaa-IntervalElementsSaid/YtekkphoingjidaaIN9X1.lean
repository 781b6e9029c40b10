/- IntervalElements returns true for every input, and its arguments read as they did. No condition. -/
import Derived.Test.YtekkphoingjidaaCore6
/- IntervalElements' walk. Conditions: none beyond the context's. -/
namespace Go.Proofs.Ytekkphoingjidaa
open Go.Evl Go.RowKit
def l9 : Ent := ⟨9, fun
  | [.agg [.int .i64 _, .int .i64 _, .int .i64 _, .int .i64 _], .agg [.int .i64 _, .int .i64 _, .int .i64 _, .int .i64 _], .agg [.int .i64 _, .int .i64 _], .agg [.int .i64 _, .int .i64 _]] => .leaf (.ret (.bool true))
  | _ => .non⟩
abbrev inF (p : F2) (X : V4) : Bool := inB p.1 p.2 X.1 X.2.1 X.2.2.1 X.2.2.2
def fin9 (X Y : V4) (p q : F2) : Option Res := bif inF (leF p q) (miV X Y) then bif inF (geF p q) (maV X Y) then bif inF p (huV X Y) then bif inF q (huV X Y) then RJ true else RJ false else RJ false else RJ false else RJ false
theorem lt9 (a b c d e f g h p q r s : Int) : evFn Try.prog (spOf sp9) (inlOf [30, 32]) extD (cKD sp9 [30, 32]) lp9 Try.f9 [I4 a b c d, I4 e f g h, I2 p q, I2 r s] [] (fun r _ => some r) =
    (bif inB p q a b c d then bif inB r s e f g h then bif gd9 a b c d e f g h p q r s && true then fin9 (a, b, c, d) (e, f, g, h) (p, q) (r, s) else none else RJ true else RJ true) := by kernel_rfl
theorem le_fr {p q : F2} {x y : Rat} (hp : Fr p x) (hq : Fr q y) : Fr (leF p q) (rmin x y) ∧ Fr (geF p q) (rmax x y) := by
  unfold leF geF
  have := dle hp.v hq.v
  rw [hp.k, hq.k] at this
  by_cases k : cmpR p.1 p.2 q.1 q.2 ≤ 0
  · rw [if_pos k, if_pos k]
    rw [decide_eq_true k, eq_comm, decide_eq_true_eq] at this
    have e1 : rmin x y = x := by unfold rmin; split <;> grind
    have e2 : rmax x y = y := by unfold rmax; split <;> grind
    rw [e1, e2]; exact ⟨hp, hq⟩
  · rw [if_neg k, if_neg k]
    rw [decide_eq_false k, eq_comm, decide_eq_false_iff_not] at this
    have e1 : rmin x y = y := by unfold rmin; split <;> grind
    have e2 : rmax x y = x := by unfold rmax; split <;> grind
    rw [e1, e2]; exact ⟨hq, hp⟩
theorem fin9_eq {X Y : V4} {p q : F2} (h1 : inF p X = true) (h2 : inF q Y = true) : fin9 X Y p q = RJ true := by
  obtain ⟨k1, k2, k3, k4⟩ := inB_iff.1 h1
  obtain ⟨k5, k6, k7, k8⟩ := inB_iff.1 h2
  have hp : Fr p (key p.1 p.2) := ⟨k1, rfl⟩
  have hq : Fr q (key q.1 q.2) := ⟨k5, rfl⟩
  obtain ⟨hl, hg⟩ := le_fr hp hq
  have c1 : inF (leF p q) (miV X Y) = true := by
    refine inV hl (mi_is k2.is k6.is) ?_ ?_
    · exact le_rmin (Rat.le_trans (rmin_le _ _).1 k3) (Rat.le_trans (rmin_le _ _).2 k7)
    · exact le_rmin (Rat.le_trans (rmin_le _ _).1 k4) (Rat.le_trans (rmin_le _ _).2 k8)
  have c2 : inF (geF p q) (maV X Y) = true := by
    refine inV hg (ma_is k2.is k6.is) ?_ ?_
    · exact rmax_le (Rat.le_trans k3 (rmax_ge _ _).1) (Rat.le_trans k7 (rmax_ge _ _).2)
    · exact rmax_le (Rat.le_trans k4 (rmax_ge _ _).1) (Rat.le_trans k8 (rmax_ge _ _).2)
  have c3 : inF p (huV X Y) = true := inV hp (hu_is k2.is k6.is) (Rat.le_trans (rmin_le _ _).1 k3) (Rat.le_trans k4 (rmax_ge _ _).1)
  have c4 : inF q (huV X Y) = true := inV hq (hu_is k2.is k6.is) (Rat.le_trans (rmin_le _ _).2 k7) (Rat.le_trans k8 (rmax_ge _ _).2)
  unfold fin9
  rw [c1, c2, c3, c4]; rfl
set_option maxRecDepth 100000 in
theorem l9_ok : SpecHolds Try.prog InvD 9 fun a => (l9.2 a).run := by
  refine specD jx9 Try.func9 (c := codeOf Try.prog 9) (by kernel_rfl) lp9 (fun p hp => ?_) fun args r hh => ?_
  · have hl : loops (codeOf Try.prog 9) = [(0, bodyOf Try.prog 9 0)] := by kernel_rfl
    rw [hl, List.mem_singleton] at hp
    subst hp
    exact sum9
  simp only [l9] at hh
  split at hh
  · rename_i a b c d e f g h p q r s
    refine ⟨by kernel_rfl, tr_ok (by rfl) hh, ?_⟩
    refine (lt9 a b c d e f g h p q r s).trans (Eq.trans ?_ hh)
    cases h1 : inB p q a b c d with
    | false => rfl
    | true =>
      cases h2 : inB r s e f g h with
      | false => rfl
      | true =>
        have hg : gd9 a b c d e f g h p q r s = true := by unfold gd9; rw [h1, h2]; rfl
        rw [hg]
        exact fin9_eq (X := (a, b, c, d)) (Y := (e, f, g, h)) (p := (p, q)) (q := (r, s)) h1 h2
  · simp [Tr.run] at hh
end Go.Proofs.Ytekkphoingjidaa

/- IntervalElements returns true for every input, and its arguments read as they did. No condition. -/
namespace Go.Proofs.Ytekkphoingjidaa
open Go.ChangeShapes Go.WideShapes Go.ChangeAt Go.RowKit Go.Joins Go.Evl

set_option maxRecDepth 100000 in
theorem intervalElements_lifted (os : Os) (started : os.Started) (H : Type) (enc : TypeId × Value → H) :
    ReturnsInHanded {} Try.checked os 9 .any (Rows.intervalElementsSpec.pre6 enc Try.prog Try.f9 Rows.intervalElementsRow.domain false) (Rows.intervalElementsSpec.post enc Try.prog Try.f9 false true false false) := by
  refine returnsInHanded_of_change (C := Try.checked) own started (by kernel_rfl) Try.func9
    (ChangeSpec.witness6 (enc := enc) (C := Try.checked) false ⟨#[], #[.agg #[.int .i64 0, .int .i64 1, .int .i64 0, .int .i64 1], .agg #[.int .i64 0, .int .i64 1, .int .i64 0, .int .i64 1], .agg #[.int .i64 0, .int .i64 1], .agg #[.int .i64 0, .int .i64 1]], []⟩ 8 (by kernel_rfl) (by kernel_rfl) (by kernel_rfl) (by kernel_rfl)) ?_
  intro W base args ds gs before hval0 hW _ _
  have hval : ∀ (j : Nat) t v, Try.f9.params[j]? = some t → args[j]? = some v → Value.okWide Try.prog W .any base t v := hval0
  have hW' := hW
  obtain ⟨p, q, hA0, hV, rfl, hfz, hnd⟩ := hW
  have hA : DataW.TrodAll enc Try.prog W 0 (fun _ => true) true Try.f9.params.toList args.toList ds p := hA0
  rw [Try.params9] at hA hval
  obtain ⟨v0, v1, v2, v3, d0, d1, d2, d3, p0, p1, p2, p3, rfl, rfl, rfl, h0, h1, h2, h3⟩ := trodAll_four hA
  obtain ⟨rfl, rfl⟩ := trodVars_none hV
  have hlt0 : ∀ x ∈ p0, x.block < W.heap.size := fun x hx => by simpa using hW'.lt x (by simp [hx])
  have hlt1 : ∀ x ∈ p1, x.block < W.heap.size := fun x hx => by simpa using hW'.lt x (by simp [hx])
  have hlt2 : ∀ x ∈ p2, x.block < W.heap.size := fun x hx => by simpa using hW'.lt x (by simp [hx])
  have hlt3 : ∀ x ∈ p3, x.block < W.heap.size := fun x hx => by simpa using hW'.lt x (by simp [hx])
  obtain ⟨a0, b0, c0, e0, rfl⟩ := iv_form (hval 0 25 v0 rfl rfl) h0
  obtain ⟨a1, b1, c1, e1, rfl⟩ := iv_form (hval 1 25 v1 rfl rfl) h1
  obtain ⟨a2, b2, rfl⟩ := ratio_form (hval 2 23 v2 rfl rfl) h2
  obtain ⟨a3, b3, rfl⟩ := ratio_form (hval 3 23 v3 rfl rfl) h3
  clear hA0 hval0
  have hrv : Rvs (fun i => i) (fun _ => False) W None_ [.agg [.int .i64 a0, .int .i64 b0, .int .i64 c0, .int .i64 e0], .agg [.int .i64 a1, .int .i64 b1, .int .i64 c1, .int .i64 e1], .agg [.int .i64 a2, .int .i64 b2], .agg [.int .i64 a3, .int .i64 b3]] [.agg #[.int .i64 a0, .int .i64 b0, .int .i64 c0, .int .i64 e0], .agg #[.int .i64 a1, .int .i64 b1, .int .i64 c1, .int .i64 e1], .agg #[.int .i64 a2, .int .i64 b2], .agg #[.int .i64 a3, .int .i64 b3]] := (.cons (rvV a0 b0 c0 e0) (.cons (rvV a1 b1 c1 e1) (.cons (rvR a2 b2) (.cons (rvR a3 b3) .nil))))
  refine (l9_ok [.agg [.int .i64 a0, .int .i64 b0, .int .i64 c0, .int .i64 e0], .agg [.int .i64 a1, .int .i64 b1, .int .i64 c1, .int .i64 e1], .agg [.int .i64 a2, .int .i64 b2], .agg [.int .i64 a3, .int .i64 b3]] (.ret (.bool true)) rfl (fun i => i) (fun _ => False) W [.agg #[.int .i64 a0, .int .i64 b0, .int .i64 c0, .int .i64 e0], .agg #[.int .i64 a1, .int .i64 b1, .int .i64 c1, .int .i64 e1], .agg #[.int .i64 a2, .int .i64 b2], .agg #[.int .i64 a3, .int .i64 b3]] (fun _ h => h.elim) trivial hrv).mono fun e W' ⟨hbel, u, he, hu⟩ => ?_
  subst he
  rw [hu.of_bool]
  refine ⟨_, rfl, _, _, _, [], p0 ++ (p1 ++ (p2 ++ (p3))), [], hW', ?_, ?_, rfl, hbel.frame _, fun h => by cases h⟩
  · exact trodAll_mk1 (shut_bool Try.underlying4 true)
  · exact trodAll_mk4 (below_trod (by kernel_rfl) (of_decide_eq_true (by kernel_rfl)) h0 hbel hlt0) (below_trod (by kernel_rfl) (of_decide_eq_true (by kernel_rfl)) h1 hbel hlt1) (below_trod (by kernel_rfl) (of_decide_eq_true (by kernel_rfl)) h2 hbel hlt2) (below_trod (by kernel_rfl) (of_decide_eq_true (by kernel_rfl)) h3 hbel hlt3)
theorem intervalElements_holds : Rows.IntervalElementsSaid :=
  OpenClaim.holds_of_wide 9 Try.f9 rfl rfl rfl rfl rfl rfl rfl ⟨rfl, rfl, rfl, rfl, rfl⟩ rfl rfl rfl rfl rfl (by kernel_rfl) Try.func9 (by kernel_rfl)
    (of_decide_eq_true (by kernel_rfl)) (by unfold Func.isWrapper; first | (rw [if_pos (by decide +kernel)]; kernel_rfl) | (rw [if_neg (by decide +kernel)]; exact ⟨rfl, rfl⟩))
    (fun os started H enc _ => intervalElements_lifted os started H enc)
#print axioms intervalElements_holds
end Go.Proofs.Ytekkphoingjidaa
