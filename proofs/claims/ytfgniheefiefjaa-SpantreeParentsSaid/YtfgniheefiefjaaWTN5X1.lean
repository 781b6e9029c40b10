/- SpantreeParents returns true for every input, and its arguments read as they did. No condition. -/
import Derived.Test.YtfgniheefiefjaaWCore8
/- SpantreeParents returns true for every input, and its arguments read as they did. No condition. -/
namespace Go.Proofs.Ytfgniheefiefjaa
open Go.ChangeShapes Go.WideShapes Go.ChangeAt Go.RowKit Go.Joins Go.Evl

section
variable {H : Type} {enc : TypeId × Value → H} {w : World} {base b0 : Nat} {spare : Nat → Bool} {held : Bool} {rc : Reach} {v : Value} {d : DataW H} {p : List MemPlace}
set_option maxRecDepth 100000 in
theorem spans_form (hv : Value.okWide Try.prog w rc b0 32 v) (h : DataW.Trod enc Try.prog w base spare held 32 v d p) : ∃ (n : Nat) (x : Nat → Nat → Dt), Rv (Nm.one 0 0) (fun b => b < w.heap.size) w None_ (.isz n SS x) v ∧ okL n x = true := by
  obtain ⟨y, hr, hok⟩ := arg_row (ρ := Nm.one 0 0) (d := 8) (s := SS) (show Try.prog.underlying 32 = some (.slice 25) by kernel_rfl) (by kernel_rfl) (by kernel_rfl) hv h
  refine ⟨y.len, y.el, hr, ?_⟩
  have h1 : y.len ≤ maxLen ∧ ∀ i, i < y.len → ∀ j s, SS[j]? = some s → dtOk 2 s (y.el i j) := hok 3
  unfold okL lnB
  rw [Nat.ble_eq_true_of_le (show y.len ≤ 9223372036854775807 from h1.1), Bool.true_and, Bool.and_eq_true]
  refine ⟨List.all_eq_true.2 fun k hk => ?_, List.all_eq_true.2 fun k hk => ?_⟩
  · have h8 : dtOk 2 (.row SL) (y.el k 8) := h1.2 k (List.mem_range.1 hk) 8 _ rfl
    exact Nat.ble_eq_true_of_le h8.1
  · rw [Bool.and_eq_true]
    have h0 : dtOk 2 (.int .i64) (y.el k 0) := h1.2 k (List.mem_range.1 hk) 0 _ rfl
    have h9 : dtOk 2 (.row SK) (y.el k 9) := h1.2 k (List.mem_range.1 hk) 9 _ rfl
    exact ⟨wf_inI h0, List.all_eq_true.2 fun i hi => wf_inI (h9.2 i (List.mem_range.1 hi) 0 _ rfl)⟩
end
set_option maxRecDepth 100000 in
theorem spantreeParents_lifted (os : Os) (started : os.Started) (H : Type) (enc : TypeId × Value → H) :
    ReturnsInHanded {} Try.checked os 5 .any (Rows.spantreeParentsSpec.pre6 enc Try.prog Try.f5 Rows.spantreeParentsRow.domain false) (Rows.spantreeParentsSpec.post enc Try.prog Try.f5 false true false false) := by
  refine returnsInHanded_of_change (C := Try.checked) own started (by kernel_rfl) Try.func5
    (ChangeSpec.witness6 (enc := enc) (C := Try.checked) false ⟨#[], #[.slice none 0 0], []⟩ 5 (by kernel_rfl) (by kernel_rfl) (by kernel_rfl) (by kernel_rfl)) ?_
  intro W base args ds gs before hval0 hW _ _
  have hval : ∀ (j : Nat) t v, Try.f5.params[j]? = some t → args[j]? = some v → Value.okWide Try.prog W .any base t v := hval0
  have hW' := hW
  obtain ⟨p, q, hA0, hV, rfl, hfz, hnd⟩ := hW
  have hA : DataW.TrodAll enc Try.prog W 0 (fun _ => true) true Try.f5.params.toList args.toList ds p := hA0
  rw [Try.params5] at hA hval
  obtain ⟨u0, d0, rfl, rfl, h0⟩ := trodAll_one hA
  obtain ⟨rfl, rfl⟩ := trodVars_none hV
  have hlt0 : ∀ x ∈ p, x.block < W.heap.size := fun x hx => by simpa using hW'.lt x (by simp [hx])
  obtain ⟨n, x, rv0, g0⟩ := spans_form (hval 0 32 u0 rfl rfl) h0
  clear hA0 hval0
  have hrun : (l5.2 [.isz n SS x]).run = some (.ret (.bool true)) := by
    show (Tr.chk (okL n x) (Tr.leaf (Res.ret (AV.bool true)))).run = _
    rw [g0]; rfl
  refine (l5_ok _ (.ret (.bool true)) hrun (Nm.one 0 0) (fun b => b < W.heap.size) W [u0] (fun _ h => h) trivial (.cons rv0 .nil)).mono fun e W' ⟨hbel, u, he, hu⟩ => ?_
  subst he
  rw [hu.of_bool]
  refine ⟨_, rfl, _, _, _, [], p, [], hW', ?_, ?_, rfl, hbel.frame _, fun h => by cases h⟩
  · exact trodAll_mk1 (shut_bool Try.underlying4 true)
  · exact trodAll_mk1 (below_trod (by kernel_rfl) (of_decide_eq_true (by kernel_rfl)) h0 hbel hlt0)
theorem spantreeParents_holds : Rows.SpantreeParentsSaid :=
  OpenClaim.holds_of_wide 5 Try.f5 rfl rfl rfl rfl rfl rfl rfl ⟨rfl, rfl, rfl, rfl, rfl⟩ rfl rfl rfl rfl rfl (by kernel_rfl) Try.func5 (by kernel_rfl)
    (of_decide_eq_true (by kernel_rfl)) (by unfold Func.isWrapper; first | (rw [if_pos (by decide +kernel)]; kernel_rfl) | (rw [if_neg (by decide +kernel)]; exact ⟨rfl, rfl⟩))
    (fun os started H enc _ => spantreeParents_lifted os started H enc)
#print axioms spantreeParents_holds
end Go.Proofs.Ytfgniheefiefjaa
