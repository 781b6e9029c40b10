/- SamplingHead returns true for every input, and its arguments read as they did. No condition. -/
import Derived.Test.YtebiafgcnmnacaaCore5
/- SamplingHead's walk. Conditions: none beyond the context's. -/
namespace Go.Proofs.Ytebiafgcnmnacaa
open Go.Evl Go.RowKit
def l3 : Ent := ⟨3, fun
  | [.int .i64 a, .int .i64 _, .int .i64 _, .int .i64 _] => .chk (inI a) (.leaf (.ret (.bool true)))
  | _ => .non⟩
theorem l3_run {a b c d : Int} (ha : inI a = true) (_ : inI b = true) (_ : inI c = true) (_ : inI d = true) : (l3.2 [.int .i64 a, .int .i64 b, .int .i64 c, .int .i64 d]).run = some (.ret (.bool true)) := by
  simp only [l3, Tr.run, ha, cond_true]
theorem lx3 : (mkCx Try.prog (spOf [i8, i9, i10, i11, iAw]) (inlOf []) extD).Ok InvD := cx_of [] (by kernel_rfl) (by
  intro p hp
  simp only [List.mem_cons, List.not_mem_nil, or_false] at hp
  rcases hp with rfl | rfl | rfl | rfl | rfl
  · exact i8_ok
  · exact i9_ok
  · exact i10_ok
  · exact i11_ok
  · exact iAw_ok)
theorem lt3 (a b c d : Int) : evFn Try.prog (spOf [i8, i9, i10, i11, iAw]) (inlOf []) extD (cKD [i8, i9, i10, i11, iAw] []) (fun _ => .unroll 0) Try.f3 [.int .i64 a, .int .i64 b, .int .i64 c, .int .i64 d] [] (fun r _ => some r) =
    (bif inI a then bif inI a then
      bif hdK a b c d == hdK a b c d && (hdN a b c d == hdN a b c d && (hdD a b c d == hdD a b c d && true) && (hdR a b c d == hdR a b c d && true)) then
        bif hdE a b c d == hdE a b c d then
          bif prK a c b d == prK a c b d && (prN a c b d == prN a c b d && (prD a c b d == prD a c b d && true) && (prR a c b d == prR a c b d && true)) then
            bif prE a c b d == prE a c b d then RB true else RB false
          else RB false
        else RB false
      else RB false
    else none else none) := by kernel_rfl
theorem l3_ok : SpecHolds Try.prog InvD 3 fun a => (l3.2 a).run := by
  refine specD lx3 Try.func3 (c := codeOf Try.prog 3) (by kernel_rfl) (fun _ => .unroll 0) (fun _ _ => trivial) fun args r hh => ?_
  simp only [l3] at hh
  split at hh
  · rename_i a b c d
    obtain ⟨hg, hh⟩ := chk_run hh
    refine ⟨by kernel_rfl, tr_ok (by rfl) hh, ?_⟩
    refine (lt3 a b c d).trans (Eq.trans ?_ hh)
    rw [hg]
    simp only [beq_self_eq_true, Bool.and_self, cond_true]
    rfl
  · simp [Tr.run] at hh
end Go.Proofs.Ytebiafgcnmnacaa

/- SamplingHead returns true for every input, and its arguments read as they did. No condition. -/
namespace Go.Proofs.Ytebiafgcnmnacaa
open Go.ChangeShapes Go.WideShapes Go.ChangeAt Go.RowKit Go.Joins Go.Evl

set_option maxRecDepth 100000 in
theorem samplingHead_lifted (os : Os) (started : os.Started) (H : Type) (enc : TypeId × Value → H) :
    ReturnsInHanded {} Try.checked os 3 .any (Rows.samplingHeadSpec.pre6 enc Try.prog Try.f3 Rows.samplingHeadRow.domain false) (Rows.samplingHeadSpec.post enc Try.prog Try.f3 false true false false) := by
  refine returnsInHanded_of_change (C := Try.checked) own started (by kernel_rfl) Try.func3
    (ChangeSpec.witness6 (enc := enc) (C := Try.checked) false ⟨#[], #[.int .i64 0, .int .i64 0, .int .i64 0, .int .i64 0], []⟩ 8 (by kernel_rfl) (by kernel_rfl) (by kernel_rfl) (by kernel_rfl)) ?_
  intro W base args ds gs before hval0 hW _ _
  have hval : ∀ (j : Nat) t v, Try.f3.params[j]? = some t → args[j]? = some v → Value.okWide Try.prog W .any base t v := hval0
  have hW' := hW
  obtain ⟨p, q, hA0, hV, rfl, hfz, hnd⟩ := hW
  have hA : DataW.TrodAll enc Try.prog W 0 (fun _ => true) true Try.f3.params.toList args.toList ds p := hA0
  rw [Try.params3] at hA hval
  obtain ⟨v0, v1, v2, v3, d0, d1, d2, d3, p0, p1, p2, p3, rfl, rfl, rfl, h0, h1, h2, h3⟩ := trodAll_four hA
  obtain ⟨rfl, rfl⟩ := trodVars_none hV
  have hlt0 : ∀ x ∈ p0, x.block < W.heap.size := fun x hx => by simpa using hW'.lt x (by simp [hx])
  have hlt1 : ∀ x ∈ p1, x.block < W.heap.size := fun x hx => by simpa using hW'.lt x (by simp [hx])
  have hlt2 : ∀ x ∈ p2, x.block < W.heap.size := fun x hx => by simpa using hW'.lt x (by simp [hx])
  have hlt3 : ∀ x ∈ p3, x.block < W.heap.size := fun x hx => by simpa using hW'.lt x (by simp [hx])
  obtain ⟨a0, rfl, g0⟩ := int_form (hval 0 3 v0 rfl rfl) h0
  obtain ⟨a1, rfl, g1⟩ := int_form (hval 1 3 v1 rfl rfl) h1
  obtain ⟨a2, rfl, g2⟩ := int_form (hval 2 3 v2 rfl rfl) h2
  obtain ⟨a3, rfl, g3⟩ := int_form (hval 3 3 v3 rfl rfl) h3
  clear hA0 hval0
  have hrv : Rvs (fun i => i) (fun _ => False) W None_ [.int .i64 a0, .int .i64 a1, .int .i64 a2, .int .i64 a3] [.int .i64 a0, .int .i64 a1, .int .i64 a2, .int .i64 a3] := (.cons .int (.cons .int (.cons .int (.cons .int .nil))))
  refine (l3_ok [.int .i64 a0, .int .i64 a1, .int .i64 a2, .int .i64 a3] (.ret (.bool true)) (l3_run g0 g1 g2 g3) (fun i => i) (fun _ => False) W [.int .i64 a0, .int .i64 a1, .int .i64 a2, .int .i64 a3] (fun _ h => h.elim) trivial hrv).mono fun e W' ⟨hbel, u, he, hu⟩ => ?_
  subst he
  rw [hu.of_bool]
  refine ⟨_, rfl, _, _, _, [], p0 ++ (p1 ++ (p2 ++ (p3))), [], hW', ?_, ?_, rfl, hbel.frame _, fun h => by cases h⟩
  · exact trodAll_mk1 (shut_bool Try.underlying4 true)
  · exact trodAll_mk4 (below_trod (by kernel_rfl) (of_decide_eq_true (by kernel_rfl)) h0 hbel hlt0) (below_trod (by kernel_rfl) (of_decide_eq_true (by kernel_rfl)) h1 hbel hlt1) (below_trod (by kernel_rfl) (of_decide_eq_true (by kernel_rfl)) h2 hbel hlt2) (below_trod (by kernel_rfl) (of_decide_eq_true (by kernel_rfl)) h3 hbel hlt3)
theorem samplingHead_holds : Rows.SamplingHeadSaid :=
  OpenClaim.holds_of_wide 3 Try.f3 rfl rfl rfl rfl rfl rfl rfl ⟨rfl, rfl, rfl, rfl, rfl⟩ rfl rfl rfl rfl rfl (by kernel_rfl) Try.func3 (by kernel_rfl)
    (of_decide_eq_true (by kernel_rfl)) (by unfold Func.isWrapper; first | (rw [if_pos (by decide +kernel)]; kernel_rfl) | (rw [if_neg (by decide +kernel)]; exact ⟨rfl, rfl⟩))
    (fun os started H enc _ => samplingHead_lifted os started H enc)
#print axioms samplingHead_holds
end Go.Proofs.Ytebiafgcnmnacaa
