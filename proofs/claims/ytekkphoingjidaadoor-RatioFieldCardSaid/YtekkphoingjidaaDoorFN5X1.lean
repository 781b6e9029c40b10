/- RatioField returns true for every input, and its arguments read as they did: the row and its tied card. Conditions: the row's own (the listed tables are laid). -/
import Derived.Test.YtekkphoingjidaaDoorCore4
import Derived.Test.YtekkphoingjidaaDoorCards
import Derived.Test.YtekkphoingjidaaDoorTie
import Derived.ProofKit
import Derived.LaidMore
import Derived.OpenShut
import Derived.Stop.Joined
import Derived.SevenTiedAt
import Derived.Lib.SmallJoins
/- RatioField's law: true for all arguments. Conditions: none beyond the context's. -/
namespace Go.Proofs.YtekkphoingjidaaDoor
open Go.Evl Go.RowKit
theorem lt5 (a b c d p q : Int) : evFn Tryd.prog (spOf [e14m, j20, j21, j22, j23, u24, u25, e19]) (inlOf []) extD (cKD [e14m, j20, j21, j22, j23, u24, u25, e19] []) (fun _ => .unroll 0) Tryd.f5 [.agg [.int .i64 a, .int .i64 b], .agg [.int .i64 c, .int .i64 d], .agg [.int .i64 p, .int .i64 q]] [] (fun r _ => some r) = kt a b c d p q := by kernel_rfl
def l5 : Ent := ⟨5, fun
  | [.agg [.int .i64 _, .int .i64 _], .agg [.int .i64 _, .int .i64 _], .agg [.int .i64 _, .int .i64 _]] => .leaf (.ret (.bool true))
  | _ => .non⟩
theorem l5_ok : SpecHolds Tryd.prog InvD 5 fun a => (l5.2 a).run := by
  refine specD lx5 Tryd.func5 (c := codeOf Tryd.prog 5) (by kernel_rfl) (fun _ => .unroll 0) (fun _ _ => trivial) fun args r hh => ?_
  simp only [l5] at hh
  split at hh
  · rename_i a b c d p q
    refine ⟨by kernel_rfl, tr_ok (by rfl) hh, ?_⟩
    refine (lt5 a b c d p q).trans (Eq.trans ?_ hh)
    exact kt_true a b c d p q
  · simp [Tr.run] at hh
end Go.Proofs.YtekkphoingjidaaDoor

/- What the ratio rows' condition gives: the table of powers of ten stands in the world. Conditions: the rows' own. -/
namespace Go.Proofs.YtekkphoingjidaaDoor
open Go.ChangeShapes Go.WideShapes Go.ChangeAt Go.RowKit Go.Joins Go.Evl

theorem own : ownKnob Tryd.prog.godebug = none := by kernel_rfl
def laidD : List (String × DataW Unit) := [("math/bits.deBruijn32tab", Rows.laid_math_bits_deBruijn32tab), ("math/bits.deBruijn64tab", Rows.laid_math_bits_deBruijn64tab), ("internal/strconv.uint64pow10", Rows.laid_internal_strconv_uint64pow10)]
theorem door_met (os : Os) (args : Array Value) : laidMetH Tryd.prog laidD ((World.doorLaid Tryd.prog 400 os).forCall (fun _ _ => 0) ⟨#[], args, []⟩).memory :=
  laidMetH_of_parts3 (fuel := 8) (laidMet_of_run' 8 (by kernel_rfl) (by kernel_rfl)) (by kernel_rfl) (by kernel_rfl)
theorem gPow : Tryd.prog.globalNamed "internal/strconv.uint64pow10" = some 5 := by kernel_rfl
theorem tPow : (Tryd.prog.globals[5]?).map (·.type) = some 110 := by kernel_rfl
theorem inv_of_laid {W : World} (h : laidMetH Tryd.prog laidD W) : InvD W := by
  rw [MakeChecks.laidMetH_plain _ _ _ (by kernel_rfl)] at h
  obtain ⟨ps, ⟨g0, t0, cs0, f0, p0, q0, hg0, ht0, hv0, hd0, ⟨g1, t1, cs1, f1, p1, q1, hg1, ht1, hv1, hd1, ⟨g2, t2, cs2, f2, p2, q2, hg2, ht2, hv2, hd2, _, _⟩, _⟩, _⟩, _, _⟩ := h
  obtain rfl := Option.some.inj (gPow.symm.trans hg2)
  obtain rfl := Option.some.inj (tPow.symm.trans ht2)
  have hdat : (Rows.laid_internal_strconv_uint64pow10 : DataW Unit) = Lib.tabData .u64 Lib.pow10Tab := by kernel_rfl
  rw [hdat] at hd2
  unfold InvD Lib.TabIs
  rw [hv2, ← Lib.cells_of_tab Tryd.underlying110 Tryd.underlying44 (by kernel_rfl) (by kernel_rfl) hd2]

end Go.Proofs.YtekkphoingjidaaDoor

/- RatioField returns true for every input, and its arguments read as they did: the row and its tied card. Conditions: the row's own (the listed tables are laid). -/
namespace Go.Proofs.YtekkphoingjidaaDoor
open Go.ChangeShapes Go.WideShapes Go.ChangeAt Go.RowKit Go.Joins Go.Evl

set_option maxRecDepth 100000 in
theorem ratioField_lifted (os : Os) (started : os.Started) (H : Type) (enc : TypeId × Value → H) :
    ReturnsInHanded {} Tryd.checked os 5 .any (fun w args => (Rows.ratioFieldSpec.pre enc Tryd.prog Tryd.f5 [] false w args ∧ laidMetH Tryd.prog laidD w) ∧ sizedMet enc Tryd.prog Tryd.f5 (OpenSpec.ofChange Rows.ratioFieldSpec) false w args)
      (Rows.ratioFieldSpec.post enc Tryd.prog Tryd.f5 false true false false) := by
  refine returnsInHanded_of_change_and (C := Tryd.checked) (X := fun w _ => laidMetH Tryd.prog laidD w) (fun _ _ _ hh h => h.of_heap hh) own started (by kernel_rfl) Tryd.func5
    (ChangeSpec.witness_shaped (enc := enc) (C := Tryd.checked) (os := os) (X := fun w _ => laidMetH Tryd.prog laidD w) false (World.doorLaid Tryd.prog 400 os) #[.agg #[.int .i64 0, .int .i64 1], .agg #[.int .i64 0, .int .i64 1], .agg #[.int .i64 0, .int .i64 1]] 8 rfl (World.shaped_of_RefB (by kernel_rfl) (by kernel_rfl)) (by kernel_rfl) (by kernel_rfl) (by kernel_rfl) (door_met os _)) ?_
  intro W base args ds gs before hval0 hW _ _ hL _
  have hval : ∀ (j : Nat) t v, Tryd.f5.params[j]? = some t → args[j]? = some v → Value.okWide Tryd.prog W .any base t v := hval0
  have hW' := hW
  obtain ⟨p, q, hA0, hV, rfl, hfz, hnd⟩ := hW
  have hA : DataW.TrodAll enc Tryd.prog W 0 (fun _ => true) true Tryd.f5.params.toList args.toList ds p := hA0
  rw [Tryd.params5] at hA hval
  obtain ⟨v0, v1, v2, d0, d1, d2, p0, p1, p2, rfl, rfl, rfl, h0, h1, h2⟩ := trodAll_three hA
  obtain ⟨rfl, rfl⟩ := trodVars_none hV
  obtain ⟨c0a, c0b, y0a, y0b, m0, rfl, rfl, rfl, hy0a, hy0b⟩ := open_agg2 Tryd.underlying23 (by kernel_rfl) (by kernel_rfl) (hval 0 23 v0 rfl rfl) h0
  obtain ⟨a0, x0a, rfl, wa0⟩ := DataW.trod_int Tryd.underlying3 hy0a
  obtain ⟨b0, x0b, rfl, wb0⟩ := DataW.trod_int Tryd.underlying3 hy0b
  simp at x0a x0b
  subst x0a x0b
  obtain ⟨c1a, c1b, y1a, y1b, m1, rfl, rfl, rfl, hy1a, hy1b⟩ := open_agg2 Tryd.underlying23 (by kernel_rfl) (by kernel_rfl) (hval 1 23 v1 rfl rfl) h1
  obtain ⟨a1, x1a, rfl, wa1⟩ := DataW.trod_int Tryd.underlying3 hy1a
  obtain ⟨b1, x1b, rfl, wb1⟩ := DataW.trod_int Tryd.underlying3 hy1b
  simp at x1a x1b
  subst x1a x1b
  obtain ⟨c2a, c2b, y2a, y2b, m2, rfl, rfl, rfl, hy2a, hy2b⟩ := open_agg2 Tryd.underlying23 (by kernel_rfl) (by kernel_rfl) (hval 2 23 v2 rfl rfl) h2
  obtain ⟨a2, x2a, rfl, wa2⟩ := DataW.trod_int Tryd.underlying3 hy2a
  obtain ⟨b2, x2b, rfl, wb2⟩ := DataW.trod_int Tryd.underlying3 hy2b
  simp at x2a x2b
  subst x2a x2b
  clear hA0 hval0
  simp only [List.append_nil] at hW'
  have readsR : ∀ {x y : Int}, (Lit.int .i64 x).wf = true → (Lit.int .i64 y).wf = true → ∀ {W' : World} {sp : Nat → Bool}, DataW.Trod enc Tryd.prog W' 0 sp true 23 (.agg #[.int .i64 x, .int .i64 y]) (.agg [.lit (.int .i64 x), .lit (.int .i64 y)]) [] := fun {x y} wx wy {W' sp} =>
    shut_agg2 (y0 := (.lit (.int .i64 x), [])) (y1 := (.lit (.int .i64 y), [])) Tryd.underlying23 (by kernel_rfl) (by kernel_rfl) ⟨1, by simp [DataW.trod, Tryd.underlying3, wx]⟩ ⟨1, by simp [DataW.trod, Tryd.underlying3, wy]⟩
  have rvR : ∀ (x y : Int), Rv (fun i => i) (fun _ => False) W None_ (.agg [.int .i64 x, .int .i64 y]) (.agg #[.int .i64 x, .int .i64 y]) := fun x y =>
    .agg (vs := [.int .i64 x, .int .i64 y]) rfl fun i k1 k2 => by
      match i, k1 with
      | 0, _ => exact .int
      | 1, _ => exact .int
  have hrv : Rvs (fun i => i) (fun _ => False) W None_ [.agg [.int .i64 a0, .int .i64 b0], .agg [.int .i64 a1, .int .i64 b1], .agg [.int .i64 a2, .int .i64 b2]] [.agg #[.int .i64 a0, .int .i64 b0], .agg #[.int .i64 a1, .int .i64 b1], .agg #[.int .i64 a2, .int .i64 b2]] := (.cons (rvR a0 b0) (.cons (rvR a1 b1) (.cons (rvR a2 b2) .nil)))
  refine (l5_ok [.agg [.int .i64 a0, .int .i64 b0], .agg [.int .i64 a1, .int .i64 b1], .agg [.int .i64 a2, .int .i64 b2]] (.ret (.bool true)) rfl (fun i => i) (fun _ => False) W [.agg #[.int .i64 a0, .int .i64 b0], .agg #[.int .i64 a1, .int .i64 b1], .agg #[.int .i64 a2, .int .i64 b2]] (fun _ h => h.elim) (inv_of_laid hL) hrv).mono fun e W' ⟨hbel, u, he, hu⟩ => ?_
  subst he
  rw [hu.of_bool]
  refine ⟨_, rfl, _, _, _, [], [], [], hW', ?_, ?_, rfl, hbel.frame _, fun h => by cases h⟩
  · exact trodAll_mk1 (shut_bool Tryd.underlying4 true)
  · exact trodAll_mk3 (readsR wa0 wb0) (readsR wa1 wb1) (readsR wa2 wb2)
theorem ratioField_holds : Rows.RatioFieldSaid :=
  OpenClaim.holds_of_wide 5 Tryd.f5 rfl rfl rfl rfl rfl rfl rfl ⟨rfl, rfl, rfl, rfl, rfl⟩ rfl rfl rfl rfl rfl (by kernel_rfl) Tryd.func5 (by kernel_rfl)
    (of_decide_eq_true (by kernel_rfl)) (by unfold Func.isWrapper; first | (rw [if_pos (by decide +kernel)]; kernel_rfl) | (rw [if_neg (by decide +kernel)]; exact ⟨rfl, rfl⟩))
    (fun os started H enc _ => ratioField_lifted os started H enc)
theorem ratioField_card : Rows.RatioFieldCardSaid :=
  Claim7.holds_tied_plain_at .later [] [.data, .data, .data] true (true, "1379b761534bc6fcd36d08c11d6da8ef3fefd5fae7e448a1bfb79f481a6f43dc") true
    ratioField_holds (fun _ h => by cases h) (by kernel_rfl) (fun _ h => by cases h) ratioField_row_tie rfl ⟨rfl, rfl⟩ (by kernel_rfl) rfl
    (fun f fn hf hfn => by
      obtain rfl : f = 5 := Option.some.inj ((show Tryd.prog.funcNamed "lookout/lookoutlaw03.RatioField" = some 5 by kernel_rfl).symm.trans hf) |>.symm
      obtain rfl : fn = Tryd.f5 := (Option.some.inj (Tryd.func5.symm.trans hfn)).symm
      exact ⟨by kernel_rfl, fun j t ht => by
        rw [Tryd.params5] at ht
        have hm : t ∈ [23, 23, 23] := by simpa using Array.mem_of_getElem? ht
        have hall : ([23, 23, 23].all fun u => !Tryd.prog.wantsStandIn u) = true := by kernel_rfl
        exact (show Tryd.prog.wantsStandIn t = false by simpa using List.all_eq_true.1 hall t hm)⟩)
    (by kernel_rfl)
#print axioms ratioField_card
end Go.Proofs.YtekkphoingjidaaDoor
