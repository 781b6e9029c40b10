/- RatioMake returns true for every input, and its arguments read as they did: the row and its tied card. Conditions: the row's own (the listed tables are laid). -/
import Derived.Test.YtekkphoingjidaaDoorCore3
import Derived.Test.YtekkphoingjidaaDoorCards
import Derived.Test.YtekkphoingjidaaDoorTie
import Derived.ProofKit
import Derived.LaidMore
import Derived.OpenShut
import Derived.Stop.Joined
import Derived.SevenTiedAt
import Derived.Lib.SmallJoins
/- RatioMake's law: true for all arguments. Conditions: none beyond the context's. -/
namespace Go.Proofs.YtekkphoingjidaaDoor
open Go.Evl Go.RowKit
abbrev RB3 (b : Bool) : Option Res := some (.ret (.bool b))
def l3 : Ent := ⟨3, fun
  | [.int .i64 a, .int .i64 b, .agg [.int .i64 _, .int .i64 _]] => .chk (inI a && inI b) (.leaf (.ret (.bool true)))
  | _ => .non⟩
theorem lx3 : (mkCx Tryd.prog (spOf [i11m, i12, i13, i14, i15, i16, i17, i18, e19]) (inlOf []) extD).Ok InvD := cx_of [] (by kernel_rfl) (by
  intro p hp
  simp only [List.mem_cons, List.not_mem_nil, or_false] at hp
  rcases hp with rfl | rfl | rfl | rfl | rfl | rfl | rfl | rfl | rfl
  · exact i11m_ok
  · exact i12_ok
  · exact i13_ok
  · exact i14_ok
  · exact i15_ok
  · exact i16_ok
  · exact i17_ok
  · exact i18_ok
  · exact e19_ok)
theorem lt3 (a b c d : Int) : evFn Tryd.prog (spOf [i11m, i12, i13, i14, i15, i16, i17, i18, e19]) (inlOf []) extD (cKD [i11m, i12, i13, i14, i15, i16, i17, i18, e19] []) (fun _ => .unroll 0) Tryd.f3 [.int .i64 a, .int .i64 b, .agg [.int .i64 c, .int .i64 d]] [] (fun r _ => some r) =
  (bif inI a && inI b then bif inI a && inI b then bif mkX a b == mkX a b && (mkY a b == mkY a b && true) then bif mkE a b == mkE a b then bif ckJ c d == ckJ c d then bif flJ c d == flJ c d then bif (fmS c d).toList == (fmS c d).toList then RB3 true else RB3 false else RB3 false else RB3 false else RB3 false else RB3 false else none else none : Option Res) := by kernel_rfl
theorem l3_ok : SpecHolds Tryd.prog InvD 3 fun a => (l3.2 a).run := by
  refine specD lx3 Tryd.func3 (c := codeOf Tryd.prog 3) (by kernel_rfl) (fun _ => .unroll 0) (fun _ _ => trivial) fun args r hh => ?_
  simp only [l3] at hh
  split at hh
  · rename_i a b c d
    obtain ⟨hg, hh⟩ := chk_run0 hh
    refine ⟨by kernel_rfl, tr_ok (by rfl) hh, ?_⟩
    refine (lt3 a b c d).trans (Eq.trans ?_ hh)
    rw [hg]
    simp only [beq_self_eq_true, Bool.and_self, cond_true]
    rfl
  · simp [Tr.run] at hh
end Go.Proofs.YtekkphoingjidaaDoor

/- What the ratio rows' condition gives: the table of powers of ten stands in the world. Conditions: the rows' own. -/
namespace Go.Proofs.YtekkphoingjidaaDoor
open Go.ChangeShapes Go.WideShapes Go.ChangeAt Go.RowKit Go.Joins Go.Evl

theorem own : ownKnob Tryd.prog.godebug = none := by kernel_rfl
def laidD : List (String × DataW Unit) := [("math/bits.deBruijn32tab", Rows.laid_math_bits_deBruijn32tab), ("math/bits.deBruijn64tab", Rows.laid_math_bits_deBruijn64tab), ("internal/strconv.uint64pow10", Rows.laid_internal_strconv_uint64pow10)]
theorem door_met (os : Os) (args : Array Value) : laidMetH Tryd.prog laidD ((World.doorLaid Tryd.prog 400 os).forCall (fun _ _ => 0) ⟨#[], args, []⟩).memory :=
  laidMetH_of_parts3 (fuel := 8) (laidMet_of_run' 8 (by kernel_rfl) (by kernel_rfl)) (by kernel_rfl) (by kernel_rfl)
theorem gPow : Tryd.prog.globalNamed "internal/strconv.uint64pow10" = some 5 := by kernel_rfl
theorem tPow : (Tryd.prog.globals[5]?).map (·.type) = some 110 := by kernel_rfl
theorem inv_of_laid {W : World} (h : laidMetH Tryd.prog laidD W) : InvD W := by
  rw [MakeChecks.laidMetH_plain _ _ _ (by kernel_rfl)] at h
  obtain ⟨ps, ⟨g0, t0, cs0, f0, p0, q0, hg0, ht0, hv0, hd0, ⟨g1, t1, cs1, f1, p1, q1, hg1, ht1, hv1, hd1, ⟨g2, t2, cs2, f2, p2, q2, hg2, ht2, hv2, hd2, _, _⟩, _⟩, _⟩, _, _⟩ := h
  obtain rfl := Option.some.inj (gPow.symm.trans hg2)
  obtain rfl := Option.some.inj (tPow.symm.trans ht2)
  have hdat : (Rows.laid_internal_strconv_uint64pow10 : DataW Unit) = Lib.tabData .u64 Lib.pow10Tab := by kernel_rfl
  rw [hdat] at hd2
  unfold InvD Lib.TabIs
  rw [hv2, ← Lib.cells_of_tab Tryd.underlying110 Tryd.underlying44 (by kernel_rfl) (by kernel_rfl) hd2]

end Go.Proofs.YtekkphoingjidaaDoor

/- RatioMake returns true for every input, and its arguments read as they did: the row and its tied card. Conditions: the row's own (the listed tables are laid). -/
namespace Go.Proofs.YtekkphoingjidaaDoor
open Go.ChangeShapes Go.WideShapes Go.ChangeAt Go.RowKit Go.Joins Go.Evl

set_option maxRecDepth 100000 in
theorem ratioMake_lifted (os : Os) (started : os.Started) (H : Type) (enc : TypeId × Value → H) :
    ReturnsInHanded {} Tryd.checked os 3 .any (fun w args => (Rows.ratioMakeSpec.pre enc Tryd.prog Tryd.f3 [] false w args ∧ laidMetH Tryd.prog laidD w) ∧ sizedMet enc Tryd.prog Tryd.f3 (OpenSpec.ofChange Rows.ratioMakeSpec) false w args)
      (Rows.ratioMakeSpec.post enc Tryd.prog Tryd.f3 false true false false) := by
  refine returnsInHanded_of_change_and (C := Tryd.checked) (X := fun w _ => laidMetH Tryd.prog laidD w) (fun _ _ _ hh h => h.of_heap hh) own started (by kernel_rfl) Tryd.func3
    (ChangeSpec.witness_shaped (enc := enc) (C := Tryd.checked) (os := os) (X := fun w _ => laidMetH Tryd.prog laidD w) false (World.doorLaid Tryd.prog 400 os) #[.int .i64 0, .int .i64 0, .agg #[.int .i64 0, .int .i64 1]] 8 rfl (World.shaped_of_RefB (by kernel_rfl) (by kernel_rfl)) (by kernel_rfl) (by kernel_rfl) (by kernel_rfl) (door_met os _)) ?_
  intro W base args ds gs before hval0 hW _ _ hL _
  have hval : ∀ (j : Nat) t v, Tryd.f3.params[j]? = some t → args[j]? = some v → Value.okWide Tryd.prog W .any base t v := hval0
  have hW' := hW
  obtain ⟨p, q, hA0, hV, rfl, hfz, hnd⟩ := hW
  have hA : DataW.TrodAll enc Tryd.prog W 0 (fun _ => true) true Tryd.f3.params.toList args.toList ds p := hA0
  rw [Tryd.params3] at hA hval
  obtain ⟨v0, v1, v2, d0, d1, d2, p0, p1, p2, rfl, rfl, rfl, h0, h1, h2⟩ := trodAll_three hA
  obtain ⟨rfl, rfl⟩ := trodVars_none hV
  obtain ⟨a0, rfl, rfl, rfl, wa0⟩ := open_int Tryd.underlying3 (hval 0 3 v0 rfl rfl) h0
  obtain ⟨a1, rfl, rfl, rfl, wa1⟩ := open_int Tryd.underlying3 (hval 1 3 v1 rfl rfl) h1
  obtain ⟨c2a, c2b, y2a, y2b, m2, rfl, rfl, rfl, hy2a, hy2b⟩ := open_agg2 Tryd.underlying23 (by kernel_rfl) (by kernel_rfl) (hval 2 23 v2 rfl rfl) h2
  obtain ⟨a2, x2a, rfl, wa2⟩ := DataW.trod_int Tryd.underlying3 hy2a
  obtain ⟨b2, x2b, rfl, wb2⟩ := DataW.trod_int Tryd.underlying3 hy2b
  simp at x2a x2b
  subst x2a x2b
  clear hA0 hval0
  simp only [List.append_nil] at hW'
  have readsR : ∀ {x y : Int}, (Lit.int .i64 x).wf = true → (Lit.int .i64 y).wf = true → ∀ {W' : World} {sp : Nat → Bool}, DataW.Trod enc Tryd.prog W' 0 sp true 23 (.agg #[.int .i64 x, .int .i64 y]) (.agg [.lit (.int .i64 x), .lit (.int .i64 y)]) [] := fun {x y} wx wy {W' sp} =>
    shut_agg2 (y0 := (.lit (.int .i64 x), [])) (y1 := (.lit (.int .i64 y), [])) Tryd.underlying23 (by kernel_rfl) (by kernel_rfl) ⟨1, by simp [DataW.trod, Tryd.underlying3, wx]⟩ ⟨1, by simp [DataW.trod, Tryd.underlying3, wy]⟩
  have rvR : ∀ (x y : Int), Rv (fun i => i) (fun _ => False) W None_ (.agg [.int .i64 x, .int .i64 y]) (.agg #[.int .i64 x, .int .i64 y]) := fun x y =>
    .agg (vs := [.int .i64 x, .int .i64 y]) rfl fun i k1 k2 => by
      match i, k1 with
      | 0, _ => exact .int
      | 1, _ => exact .int
  have hrv : Rvs (fun i => i) (fun _ => False) W None_ [.int .i64 a0, .int .i64 a1, .agg [.int .i64 a2, .int .i64 b2]] [.int .i64 a0, .int .i64 a1, .agg #[.int .i64 a2, .int .i64 b2]] := (.cons .int (.cons .int (.cons (rvR a2 b2) .nil)))
  have gI : ∀ {x : Int}, (Lit.int .i64 x).wf = true → inI x = true := fun {x} h => by
    simp only [Lit.wf, Bool.and_eq_true, decide_eq_true_eq] at h
    have h1 : (-9223372036854775808 : Int) ≤ x := h.1
    have h2 : x ≤ (9223372036854775807 : Int) := h.2
    simp only [inI, decide_eq_true_eq]; omega
  have hG : (inI a0 && inI a1) = true := by rw [gI wa0, gI wa1]; rfl
  refine (l3_ok [.int .i64 a0, .int .i64 a1, .agg [.int .i64 a2, .int .i64 b2]] (.ret (.bool true)) (by simp only [l3, hG, Tr.run, cond_true]) (fun i => i) (fun _ => False) W [.int .i64 a0, .int .i64 a1, .agg #[.int .i64 a2, .int .i64 b2]] (fun _ h => h.elim) (inv_of_laid hL) hrv).mono fun e W' ⟨hbel, u, he, hu⟩ => ?_
  subst he
  rw [hu.of_bool]
  refine ⟨_, rfl, _, _, _, [], [], [], hW', ?_, ?_, rfl, hbel.frame _, fun h => by cases h⟩
  · exact trodAll_mk1 (shut_bool Tryd.underlying4 true)
  · exact trodAll_mk3 (shut_int Tryd.underlying3 wa0) (shut_int Tryd.underlying3 wa1) (readsR wa2 wb2)
theorem ratioMake_holds : Rows.RatioMakeSaid :=
  OpenClaim.holds_of_wide 3 Tryd.f3 rfl rfl rfl rfl rfl rfl rfl ⟨rfl, rfl, rfl, rfl, rfl⟩ rfl rfl rfl rfl rfl (by kernel_rfl) Tryd.func3 (by kernel_rfl)
    (of_decide_eq_true (by kernel_rfl)) (by unfold Func.isWrapper; first | (rw [if_pos (by decide +kernel)]; kernel_rfl) | (rw [if_neg (by decide +kernel)]; exact ⟨rfl, rfl⟩))
    (fun os started H enc _ => ratioMake_lifted os started H enc)
theorem ratioMake_card : Rows.RatioMakeCardSaid :=
  Claim7.holds_tied_plain_at .later [] [.data, .data, .data] true (true, "1379b761534bc6fcd36d08c11d6da8ef3fefd5fae7e448a1bfb79f481a6f43dc") true
    ratioMake_holds (fun _ h => by cases h) (by kernel_rfl) (fun _ h => by cases h) ratioMake_row_tie rfl ⟨rfl, rfl⟩ (by kernel_rfl) rfl
    (fun f fn hf hfn => by
      obtain rfl : f = 3 := Option.some.inj ((show Tryd.prog.funcNamed "lookout/lookoutlaw03.RatioMake" = some 3 by kernel_rfl).symm.trans hf) |>.symm
      obtain rfl : fn = Tryd.f3 := (Option.some.inj (Tryd.func3.symm.trans hfn)).symm
      exact ⟨by kernel_rfl, fun j t ht => by
        rw [Tryd.params3] at ht
        have hm : t ∈ [3, 3, 23] := by simpa using Array.mem_of_getElem? ht
        have hall : ([3, 3, 23].all fun u => !Tryd.prog.wantsStandIn u) = true := by kernel_rfl
        exact (show Tryd.prog.wantsStandIn t = false by simpa using List.all_eq_true.1 hall t hm)⟩)
    (by kernel_rfl)
#print axioms ratioMake_card
end Go.Proofs.YtekkphoingjidaaDoor
