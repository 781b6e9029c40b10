/- SpantreeCheck returns true for every input, and its arguments read as they did. No condition. -/
import Derived.Test.YtfgniheefiefjaaVCore4
/- SpantreeCheck's walk. Conditions: none beyond the context's. -/
namespace Go.Proofs.Ytfgniheefiefjaa
open Go.Evl Go.RowKit

theorem scan_none {α : Type} {g : Nat → Option α} : ∀ {k i : Nat}, scan g k i = none → ∀ j, i ≤ j → j < i + k → g j = none
  | 0, i, _, j, h1, h2 => by omega
  | k + 1, i, h, j, h1, h2 => by
    simp only [scan] at h
    cases hg : g i with
    | some e => rw [hg] at h; cases h
    | none =>
      rw [hg] at h
      by_cases e : j = i
      · subst e; exact hg
      · exact scan_none h j (by omega) (by omega)
theorem gr_sm {n : Nat} {x : Nat → Nat → Dt} (h : grB n x = false) : smB n x = true := by
  unfold grB at h
  rw [Bool.or_eq_false_iff] at h
  have h1 : sc35 n x 0 = none := by
    have := h.1
    cases hs : sc35 n x 0 with
    | none => rfl
    | some q => rw [hs] at this; simp at this
  refine List.all_eq_true.2 fun k hk => ?_
  have hk' : k < n := List.mem_range.1 hk
  have h2 := scan_none (k := n - 0) (i := 0) h1 k (Nat.zero_le _) (by omega)
  unfold g35 at h2
  split at h2
  · cases h2
  · rename_i h3
    simp only [not_or] at h3
    exact Nat.ble_eq_true_of_le (by omega)
theorem gs_sm {v m : ByteArray} {n : Nat} {x : Nat → Nat → Dt} {k : Nat} (h : gsB v m n x k = false) : smB n x = true := by
  unfold gsB at h
  simp only [Bool.or_eq_false_iff] at h
  exact gr_sm h.2.2.2
def l3g (t1 : Int) (n1 : Nat) (k1 : Nat) (y1 : Nat → Nat → Dt) (n2 : Nat) : Bool := Nat.ble n1 9223372036854775807 && (Nat.ble n2 9223372036854775807 && (inI t1 && inB k1 y1))
def l3 : Ent := ⟨3, fun
  | [.agg [.int .i64 t1, .int .i64 _, .int .i64 _, .str _, .str _, .int .i64 _, .int .i64 _, .int .i64 _, .isz n1 [.str, .str] _, .isz k1 [.int .i64, .int .i64] y1], .agg [.int .i64 _, .int .i64 _, .int .i64 _, .str _, .str _, .int .i64 _, .int .i64 _, .int .i64 _, .isz n2 [.str, .str] _, .isz _ [.int .i64, .int .i64] _]] => .chk (l3g t1 n1 k1 y1 n2) (.leaf (.ret (.bool true)))
  | _ => .non⟩
theorem lx3 : (mkCx Try.prog (spOf [t10, t12, t13, t14, t15, iAw]) (inlOf []) extD).Ok InvD := cx_of [] (by kernel_rfl) (by
  intro p hp
  simp only [List.mem_cons, List.not_mem_nil, or_false] at hp
  rcases hp with rfl | rfl | rfl | rfl | rfl | rfl
  · exact t10_ok
  · exact t12_ok
  · exact t13_ok
  · exact t14_ok
  · exact t15_ok
  · exact iAw_ok)
theorem lt3 (t1 i1 p1 : Int) (v1 m1 : ByteArray) (b1 e1 s1 : Int) (n1 : Nat) (x1 : Nat → Nat → Dt) (k1 : Nat) (y1 : Nat → Nat → Dt) (t2 i2 p2 : Int) (v2 m2 : ByteArray) (b2 e2 s2 : Int) (n2 : Nat) (x2 : Nat → Nat → Dt) (k2 : Nat) (y2 : Nat → Nat → Dt) : evFn Try.prog (spOf [t10, t12, t13, t14, t15, iAw]) (inlOf []) extD (cKD [t10, t12, t13, t14, t15, iAw] []) (fun _ => .unroll 0) Try.f3 [.agg [.int .i64 t1, .int .i64 i1, .int .i64 p1, .str v1, .str m1, .int .i64 b1, .int .i64 e1, .int .i64 s1, .isz n1 SL x1, .isz k1 SK y1], .agg [.int .i64 t2, .int .i64 i2, .int .i64 p2, .str v2, .str m2, .int .i64 b2, .int .i64 e2, .int .i64 s2, .isz n2 SL x2, .isz k2 SK y2]] [] (fun r _ => some r) =
    (bif n1.ble 9223372036854775807 then bif gsB v1 m1 n1 x1 k1 then RB true else bif n2.ble 9223372036854775807 then bif gsB v2 m2 n2 x2 k2 then RB true else bif siB t1 n1 x1 k1 y1 then
      bif scE t1 i1 p1 v1 m1 b1 e1 s1 n1 x1 k1 y1 == scE t1 i1 p1 v1 m1 b1 e1 s1 n1 x1 k1 y1 then bif cpI t1 i1 t2 i2 == cpI t1 i1 t2 i2 then RB true else RB false else RB false else none else none else none : Option Res) := by kernel_rfl
theorem l3_run {t1 i1 p1 : Int} {v1 m1 : ByteArray} {b1 e1 s1 : Int} {n1 : Nat} {x1 : Nat → Nat → Dt} {k1 : Nat} {y1 : Nat → Nat → Dt} {t2 i2 : Int} {v2 m2 : ByteArray} {n2 : Nat} {x2 : Nat → Nat → Dt} {k2 : Nat} (h : l3g t1 n1 k1 y1 n2 = true) : (bif n1.ble 9223372036854775807 then bif gsB v1 m1 n1 x1 k1 then RB true else bif n2.ble 9223372036854775807 then bif gsB v2 m2 n2 x2 k2 then RB true else bif siB t1 n1 x1 k1 y1 then
      bif scE t1 i1 p1 v1 m1 b1 e1 s1 n1 x1 k1 y1 == scE t1 i1 p1 v1 m1 b1 e1 s1 n1 x1 k1 y1 then bif cpI t1 i1 t2 i2 == cpI t1 i1 t2 i2 then RB true else RB false else RB false else none else none else none : Option Res) = RB true := by
  unfold l3g at h
  simp only [Bool.and_eq_true] at h
  obtain ⟨h1, h2, h3, h4⟩ := h
  rw [h1, h2]
  cases g1 : gsB v1 m1 n1 x1 k1 with
  | true => rfl
  | false =>
    cases gsB v2 m2 n2 x2 k2 with
    | true => rfl
    | false =>
      have hs : siB t1 n1 x1 k1 y1 = true := by unfold siB; rw [h3, gs_sm g1, h4]; rfl
      rw [hs]
      simp only [beq_self_eq_true, cond_true, cond_false]
theorem l3_ok : SpecHolds Try.prog InvD 3 fun a => (l3.2 a).run := by
  refine specD lx3 Try.func3 (c := codeOf Try.prog 3) (by kernel_rfl) (fun _ => .unroll 0) (fun _ _ => trivial) fun args r hh => ?_
  unfold l3 at hh
  simp only at hh
  split at hh
  · rename_i t1 i1 p1 v1 m1 b1 e1 s1 n1 x1 k1 y1 t2 i2 p2 v2 m2 b2 e2 s2 n2 x2 k2 y2
    obtain ⟨hg, hh⟩ := chk_run hh
    refine ⟨by kernel_rfl, tr_ok (by rfl) hh, ?_⟩
    exact (lt3 t1 i1 p1 v1 m1 b1 e1 s1 n1 x1 k1 y1 t2 i2 p2 v2 m2 b2 e2 s2 n2 x2 k2 y2).trans ((l3_run hg).trans hh)
  · simp [Tr.run] at hh
end Go.Proofs.Ytfgniheefiefjaa

/- SpantreeCheck returns true for every input, and its arguments read as they did. No condition. -/
namespace Go.Proofs.Ytfgniheefiefjaa
open Go.ChangeShapes Go.WideShapes Go.ChangeAt Go.RowKit Go.Joins Go.Evl

set_option maxRecDepth 100000 in
theorem spantreeCheck_lifted (os : Os) (started : os.Started) (H : Type) (enc : TypeId × Value → H) :
    ReturnsInHanded {} Try.checked os 3 .any (Rows.spantreeCheckSpec.pre6 enc Try.prog Try.f3 Rows.spantreeCheckRow.domain false) (Rows.spantreeCheckSpec.post enc Try.prog Try.f3 false true false false) := by
  refine returnsInHanded_of_change (C := Try.checked) own started (by kernel_rfl) Try.func3
    (ChangeSpec.witness6 (enc := enc) (C := Try.checked) false ⟨#[], #[.agg #[.int .i64 0, .int .i64 0, .int .i64 0, .string ⟨#[]⟩, .string ⟨#[]⟩, .int .i64 0, .int .i64 0, .int .i64 0, .slice none 0 0, .slice none 0 0], .agg #[.int .i64 0, .int .i64 0, .int .i64 0, .string ⟨#[]⟩, .string ⟨#[]⟩, .int .i64 0, .int .i64 0, .int .i64 0, .slice none 0 0, .slice none 0 0]], []⟩ 8 (by kernel_rfl) (by kernel_rfl) (by kernel_rfl) (by kernel_rfl)) ?_
  intro W base args ds gs before hval0 hW _ _
  have hval : ∀ (j : Nat) t v, Try.f3.params[j]? = some t → args[j]? = some v → Value.okWide Try.prog W .any base t v := hval0
  have hW' := hW
  obtain ⟨p, q, hA0, hV, rfl, hfz, hnd⟩ := hW
  have hA : DataW.TrodAll enc Try.prog W 0 (fun _ => true) true Try.f3.params.toList args.toList ds p := hA0
  rw [Try.params3] at hA hval
  obtain ⟨u0, u1, d0, d1, p0, p1, rfl, rfl, rfl, h0, h1⟩ := trodAll_two hA
  obtain ⟨rfl, rfl⟩ := trodVars_none hV
  have hlt0 : ∀ x ∈ p0, x.block < W.heap.size := fun x hx => by simpa using hW'.lt x (by simp [hx])
  have hlt1 : ∀ x ∈ p1, x.block < W.heap.size := fun x hx => by simpa using hW'.lt x (by simp [hx])
  obtain ⟨t1, i1, q1, v1, m1, b1, e1, s1, n1, x1, k1, y1, rv0, g0, g1, g2⟩ := span_form (hval 0 25 u0 rfl rfl) h0
  obtain ⟨t2, i2, q2, v2, m2, b2, e2, s2, n2, x2, k2, y2, rv1, _, g3, _⟩ := span_form (hval 1 25 u1 rfl rfl) h1
  clear hA0 hval0
  have hg : l3g t1 n1 k1 y1 n2 = true := by unfold l3g; rw [g0, g2, Nat.ble_eq_true_of_le g1, Nat.ble_eq_true_of_le g3]; rfl
  have hrun : (l3.2 [.agg [.int .i64 t1, .int .i64 i1, .int .i64 q1, .str v1, .str m1, .int .i64 b1, .int .i64 e1, .int .i64 s1, .isz n1 SL x1, .isz k1 SK y1], .agg [.int .i64 t2, .int .i64 i2, .int .i64 q2, .str v2, .str m2, .int .i64 b2, .int .i64 e2, .int .i64 s2, .isz n2 SL x2, .isz k2 SK y2]]).run = some (.ret (.bool true)) := by
    show (Tr.chk (l3g t1 n1 k1 y1 n2) (Tr.leaf (Res.ret (AV.bool true)))).run = _
    rw [hg]; rfl
  refine (l3_ok _ (.ret (.bool true)) hrun (Nm.one 0 0) (fun b => b < W.heap.size) W [u0, u1] (fun _ h => h) trivial (.cons rv0 (.cons rv1 .nil))).mono fun e W' ⟨hbel, u, he, hu⟩ => ?_
  subst he
  rw [hu.of_bool]
  refine ⟨_, rfl, _, _, _, [], p0 ++ p1, [], hW', ?_, ?_, rfl, hbel.frame _, fun h => by cases h⟩
  · exact trodAll_mk1 (shut_bool Try.underlying4 true)
  · exact trodAll_mk2 (below_trod (by kernel_rfl) (of_decide_eq_true (by kernel_rfl)) h0 hbel hlt0) (below_trod (by kernel_rfl) (of_decide_eq_true (by kernel_rfl)) h1 hbel hlt1)
theorem spantreeCheck_holds : Rows.SpantreeCheckSaid :=
  OpenClaim.holds_of_wide 3 Try.f3 rfl rfl rfl rfl rfl rfl rfl ⟨rfl, rfl, rfl, rfl, rfl⟩ rfl rfl rfl rfl rfl (by kernel_rfl) Try.func3 (by kernel_rfl)
    (of_decide_eq_true (by kernel_rfl)) (by unfold Func.isWrapper; first | (rw [if_pos (by decide +kernel)]; kernel_rfl) | (rw [if_neg (by decide +kernel)]; exact ⟨rfl, rfl⟩))
    (fun os started H enc _ => spantreeCheck_lifted os started H enc)
#print axioms spantreeCheck_holds
end Go.Proofs.Ytfgniheefiefjaa
