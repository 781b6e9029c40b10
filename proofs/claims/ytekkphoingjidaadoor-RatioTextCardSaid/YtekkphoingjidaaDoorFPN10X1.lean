/- RatioText returns true for every input, and its arguments read as they did: the row and its tied card. Conditions: the row's own (the listed tables are laid). -/
import Derived.Test.YtekkphoingjidaaDoorCore3
import Derived.ChangeMaps5
/- RatioText returns true for every input, and its arguments read as they did: the row and its tied card. Conditions: the row's own (the listed tables are laid). -/
namespace Go.Proofs.YtekkphoingjidaaDoor
open Go.ChangeMaps Go.ChangeShapes Go.WideShapes Go.ChangeAt Go.RowKit Go.Joins Go.Evl

set_option maxRecDepth 100000 in
theorem ratioText_lifted (os : Os) (started : os.Started) (H : Type) (enc : TypeId × Value → H) :
    ReturnsInHanded {} Tryd.checked os 10 .any (fun w args => (Rows.ratioTextSpec.pre enc Tryd.prog Tryd.f10 [] false w args ∧ laidMetH Tryd.prog laidP w) ∧ sizedMet enc Tryd.prog Tryd.f10 (OpenSpec.ofChange Rows.ratioTextSpec) false w args)
      (Rows.ratioTextSpec.post enc Tryd.prog Tryd.f10 false true false false) := by
  refine returns_open (C := Tryd.checked) (X := fun w _ => laidMetH Tryd.prog laidP w) (fun _ _ _ hh h => h.of_heap hh) own started (by kernel_rfl) Tryd.func10
    (ChangeSpec.witness_shaped (enc := enc) (C := Tryd.checked) (os := os) (X := fun w _ => laidMetH Tryd.prog laidP w) false (World.doorLaid Tryd.prog 400 os) #[.agg #[.int .i64 0, .int .i64 1], .string ⟨#[]⟩] 8 rfl (World.shaped_of_RefB (by kernel_rfl) (by kernel_rfl)) (by kernel_rfl) (by kernel_rfl) (by kernel_rfl) (door_metP os _)) ?_
  intro W base args ds gs before hsh hval0 hW _ _ hL _
  have hval : ∀ (j : Nat) t v, Tryd.f10.params[j]? = some t → args[j]? = some v → Value.okWide Tryd.prog W .any base t v := hval0
  have hW' := hW
  obtain ⟨p, q, hA0, hV, rfl, hfz, hnd⟩ := hW
  have hA : DataW.TrodAll enc Tryd.prog W 0 (fun _ => true) true Tryd.f10.params.toList args.toList ds p := hA0
  rw [Tryd.params10] at hA hval
  obtain ⟨v0, v1, d0, d1, p0, p1, rfl, rfl, rfl, h0, h1⟩ := trodAll_two hA
  obtain ⟨rfl, rfl⟩ := trodVars_none hV
  obtain ⟨c0a, c0b, y0a, y0b, m0, rfl, rfl, rfl, hy0a, hy0b⟩ := open_agg2 Tryd.underlying23 (by kernel_rfl) (by kernel_rfl) (hval 0 23 v0 rfl rfl) h0
  obtain ⟨a0, x0a, rfl, wa0⟩ := DataW.trod_int Tryd.underlying3 hy0a
  obtain ⟨b0, x0b, rfl, wb0⟩ := DataW.trod_int Tryd.underlying3 hy0b
  simp at x0a x0b
  subst x0a x0b
  obtain ⟨a1, rfl, rfl, rfl, wa1⟩ := open_string Tryd.underlying9 (hval 1 9 v1 rfl rfl) h1
  clear hA0 hval0
  simp only [List.append_nil] at hW'
  have readsR : ∀ {x y : Int}, (Lit.int .i64 x).wf = true → (Lit.int .i64 y).wf = true → ∀ {W' : World} {sp : Nat → Bool}, DataW.Trod enc Tryd.prog W' 0 sp true 23 (.agg #[.int .i64 x, .int .i64 y]) (.agg [.lit (.int .i64 x), .lit (.int .i64 y)]) [] := fun {x y} wx wy {W' sp} =>
    shut_agg2 (y0 := (.lit (.int .i64 x), [])) (y1 := (.lit (.int .i64 y), [])) Tryd.underlying23 (by kernel_rfl) (by kernel_rfl) ⟨1, by simp [DataW.trod, Tryd.underlying3, wx]⟩ ⟨1, by simp [DataW.trod, Tryd.underlying3, wy]⟩
  have rvR : ∀ (x y : Int), Rv (fun i => i) (fun _ => False) W None_ (.agg [.int .i64 x, .int .i64 y]) (.agg #[.int .i64 x, .int .i64 y]) := fun x y =>
    .agg (vs := [.int .i64 x, .int .i64 y]) rfl fun i k1 k2 => by
      match i, k1 with
      | 0, _ => exact .int
      | 1, _ => exact .int
  have hrv : Rvs (fun i => i) (fun _ => False) W None_ [.agg [.int .i64 a0, .int .i64 b0], .str a1] [.agg #[.int .i64 a0, .int .i64 b0], .string a1] := (.cons (rvR a0 b0) (.cons .str .nil))
  refine (l10_ok [.agg [.int .i64 a0, .int .i64 b0], .str a1] (.ret (.bool true)) rfl (fun i => i) (fun _ => False) W [.agg #[.int .i64 a0, .int .i64 b0], .string a1] (fun _ h => h.elim) (invP_of hsh hL) hrv).mono fun e W' ⟨hbel, u, he, hu⟩ => ?_
  subst he
  rw [hu.of_bool]
  refine ⟨_, rfl, _, _, _, [], [], [], hW', ?_, ?_, rfl, hbel.frame _, fun h => by cases h⟩
  · exact trodAll_mk1 (shut_bool Tryd.underlying4 true)
  · exact trodAll_mk2 (readsR wa0 wb0) (shut_string Tryd.underlying9 wa1)
theorem ratioText_holds : Rows.RatioTextSaid :=
  OpenClaim.holds_of_wide 10 Tryd.f10 rfl rfl rfl rfl rfl rfl rfl ⟨rfl, rfl, rfl, rfl, rfl⟩ rfl rfl rfl rfl rfl (by kernel_rfl) Tryd.func10 (by kernel_rfl)
    (of_decide_eq_true (by kernel_rfl)) (by unfold Func.isWrapper; first | (rw [if_pos (by decide +kernel)]; kernel_rfl) | (rw [if_neg (by decide +kernel)]; exact ⟨rfl, rfl⟩))
    (fun os started H enc _ => ratioText_lifted os started H enc)
theorem ratioText_card : Rows.RatioTextCardSaid :=
  Claim7.holds_tied_plain_at .later [] [.data, .data, .data, .sentinel, .sentinel] true (true, "1379b761534bc6fcd36d08c11d6da8ef3fefd5fae7e448a1bfb79f481a6f43dc") true
    ratioText_holds (fun _ h => by cases h) (by kernel_rfl) (fun _ h => by cases h) ratioText_row_tie rfl ⟨rfl, rfl⟩ (by kernel_rfl) rfl
    (fun f fn hf hfn => by
      obtain rfl : f = 10 := Option.some.inj ((show Tryd.prog.funcNamed "lookout/lookoutlaw03.RatioText" = some 10 by kernel_rfl).symm.trans hf) |>.symm
      obtain rfl : fn = Tryd.f10 := (Option.some.inj (Tryd.func10.symm.trans hfn)).symm
      exact ⟨by kernel_rfl, fun j t ht => by
        rw [Tryd.params10] at ht
        have hm : t ∈ [23, 9] := by simpa using Array.mem_of_getElem? ht
        have hall : ([23, 9].all fun u => !Tryd.prog.wantsStandIn u) = true := by kernel_rfl
        exact (show Tryd.prog.wantsStandIn t = false by simpa using List.all_eq_true.1 hall t hm)⟩)
    (by kernel_rfl)
#print axioms ratioText_card
end Go.Proofs.YtekkphoingjidaaDoor
