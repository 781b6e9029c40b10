/- RatioArithmetic returns true for every input, and its arguments read as they did: the row and its tied card. Conditions: the row's own (the listed tables are laid). -/
import Derived.Test.YtekkphoingjidaaDoorRA9P4
import Derived.Test.YtekkphoingjidaaDoorCards
import Derived.Test.YtekkphoingjidaaDoorTie
import Derived.ProofKit
import Derived.LaidMore
import Derived.OpenShut
import Derived.Stop.Joined
import Derived.SevenTiedAt
import Derived.Lib.SmallJoins
/- The reference's Sub and Div: contracts. Conditions: none beyond the context's. -/
namespace Go.Proofs.YtekkphoingjidaaDoor
open Go.Evl Go.RowKit
def w28_c0 (a b _c _d : Int) : Bool := ckI a b != 0
def w28_c1 (_a _b c d : Int) : Bool := ckI c d != 0
theorem w28_0_ok (a b c d : Int) (hALL : allB [(w28_c0 a b c d, false), (w28_c1 a b c d, false)] = true) : (evFnT Tryd.prog (spOf [e14m, e27m]) (inlOf []) extD (cKD [e14m, e27m] []) (fun _ => .unroll 0) Tryd.f28 [.agg [.int .i64 a, .int .i64 b], .agg [.int .i64 c, .int .i64 d]] [] (fun r _ => .ofOpt (some r))).run = some (Res.ret
  (AV.tup
    [AV.agg
        [AV.int IntKind.i64
            (opN (okB a b && okB (IntKind.i64.wrap (0 - c)) d) (a * d + IntKind.i64.wrap (0 - c) * b) (b * d)),
          AV.int IntKind.i64
            (opD (okB a b && okB (IntKind.i64.wrap (0 - c)) d) (a * d + IntKind.i64.wrap (0 - c) * b) (b * d))],
      AV.int IntKind.i64
        (opE (okB a b && okB (IntKind.i64.wrap (0 - c)) d) (a * d + IntKind.i64.wrap (0 - c) * b) (b * d))]) : Res) := way (gs := [false, false, false, false]) (by kernel_rfl) hALL
theorem w28_vc (a b c d : Int) (H0 : w28_c0 a b c d = false) (H1 : w28_c1 a b c d = false) : (evFnT Tryd.prog (spOf [e14m, e27m]) (inlOf []) extD (cKD [e14m, e27m] []) (fun _ => .unroll 0) Tryd.f28 [.agg [.int .i64 a, .int .i64 b], .agg [.int .i64 c, .int .i64 d]] [] (fun r _ => .ofOpt (some r))).run = some (Res.ret
  (AV.tup
    [AV.agg
        [AV.int IntKind.i64
            (opN (okB a b && okB (IntKind.i64.wrap (0 - c)) d) (a * d + IntKind.i64.wrap (0 - c) * b) (b * d)),
          AV.int IntKind.i64
            (opD (okB a b && okB (IntKind.i64.wrap (0 - c)) d) (a * d + IntKind.i64.wrap (0 - c) * b) (b * d))],
      AV.int IntKind.i64
        (opE (okB a b && okB (IntKind.i64.wrap (0 - c)) d) (a * d + IntKind.i64.wrap (0 - c) * b) (b * d))]) : Res) := by
  have k0 := H0 
  have k1 := H1 
  exact w28_0_ok a b c d (allB_f k0 (allB_f k1 allB_nil))
def w28x_c0 (a b _c _d : Int) : Bool := ckI a b != 0
theorem w28x_0_ok (a b c d : Int) (hALL : allB [(w28x_c0 a b c d, true)] = true) : (evFnT Tryd.prog (spOf [e14m, e27m]) (inlOf []) extD (cKD [e14m, e27m] []) (fun _ => .unroll 0) Tryd.f28 [.agg [.int .i64 a, .int .i64 b], .agg [.int .i64 c, .int .i64 d]] [] (fun r _ => .ofOpt (some r))).run = some (Res.ret (AV.tup [AV.agg [AV.int IntKind.i64 0, AV.int IntKind.i64 0], AV.int IntKind.i64 1]) : Res) := way (gs := [true, true, true]) (by kernel_rfl) hALL
theorem w28x_vc (a b c d : Int) (H0 : w28x_c0 a b c d = true) : (evFnT Tryd.prog (spOf [e14m, e27m]) (inlOf []) extD (cKD [e14m, e27m] []) (fun _ => .unroll 0) Tryd.f28 [.agg [.int .i64 a, .int .i64 b], .agg [.int .i64 c, .int .i64 d]] [] (fun r _ => .ofOpt (some r))).run = some (Res.ret (AV.tup [AV.agg [AV.int IntKind.i64 0, AV.int IntKind.i64 0], AV.int IntKind.i64 1]) : Res) := by
  have k0 := H0 
  exact w28x_0_ok a b c d (allB_t k0 allB_nil)
def w28y_c0 (a b _c _d : Int) : Bool := ckI a b != 0
def w28y_c1 (_a _b c d : Int) : Bool := ckI c d != 0
theorem w28y_0_ok (a b c d : Int) (hALL : allB [(w28y_c0 a b c d, false), (w28y_c1 a b c d, true)] = true) : (evFnT Tryd.prog (spOf [e14m, e27m]) (inlOf []) extD (cKD [e14m, e27m] []) (fun _ => .unroll 0) Tryd.f28 [.agg [.int .i64 a, .int .i64 b], .agg [.int .i64 c, .int .i64 d]] [] (fun r _ => .ofOpt (some r))).run = some (Res.ret (AV.tup [AV.agg [AV.int IntKind.i64 0, AV.int IntKind.i64 0], AV.int IntKind.i64 1]) : Res) := way (gs := [false, false, true, true]) (by kernel_rfl) hALL
theorem w28y_vc (a b c d : Int) (H0 : w28y_c0 a b c d = false) (H1 : w28y_c1 a b c d = true) : (evFnT Tryd.prog (spOf [e14m, e27m]) (inlOf []) extD (cKD [e14m, e27m] []) (fun _ => .unroll 0) Tryd.f28 [.agg [.int .i64 a, .int .i64 b], .agg [.int .i64 c, .int .i64 d]] [] (fun r _ => .ofOpt (some r))).run = some (Res.ret (AV.tup [AV.agg [AV.int IntKind.i64 0, AV.int IntKind.i64 0], AV.int IntKind.i64 1]) : Res) := by
  have k0 := H0 
  have k1 := H1 
  exact w28y_0_ok a b c d (allB_f k0 (allB_t k1 allB_nil))
def w30_c0 (a b _c _d : Int) : Bool := ckI a b != 0
def w30_c1 (_a _b c d : Int) : Bool := ckI c d != 0
def w30_c2 (_a _b c _d : Int) : Bool := c == 0
def w30_c3 (_a _b c _d : Int) : Bool := decide (c < 0)
theorem w30_0_ok (a b c d : Int) (hALL : allB [(w30_c0 a b c d, false), (w30_c1 a b c d, false), (w30_c2 a b c d, true)] = true) : (evFnT Tryd.prog (spOf [e14m, e29m]) (inlOf []) extD (cKD [e14m, e29m] []) (fun _ => .unroll 0) Tryd.f30 [.agg [.int .i64 a, .int .i64 b], .agg [.int .i64 c, .int .i64 d]] [] (fun r _ => .ofOpt (some r))).run = some (Res.ret (AV.tup [AV.agg [AV.int IntKind.i64 0, AV.int IntKind.i64 0], AV.int IntKind.i64 26]) : Res) := way (gs := [false, false, false, false, true]) (by kernel_rfl) hALL
theorem w30_1_ok (a b c d : Int) (hALL : allB [(w30_c0 a b c d, false), (w30_c1 a b c d, false), (w30_c2 a b c d, false), (w30_c3 a b c d, true)] = true) : (evFnT Tryd.prog (spOf [e14m, e29m]) (inlOf []) extD (cKD [e14m, e29m] []) (fun _ => .unroll 0) Tryd.f30 [.agg [.int .i64 a, .int .i64 b], .agg [.int .i64 c, .int .i64 d]] [] (fun r _ => .ofOpt (some r))).run = some (Res.ret
  (AV.tup
    [AV.agg
        [AV.int IntKind.i64
            (opN (okB a b && okB (IntKind.i64.wrap (0 - d)) (IntKind.i64.wrap (0 - c))) (a * IntKind.i64.wrap (0 - d))
              (b * IntKind.i64.wrap (0 - c))),
          AV.int IntKind.i64
            (opD (okB a b && okB (IntKind.i64.wrap (0 - d)) (IntKind.i64.wrap (0 - c))) (a * IntKind.i64.wrap (0 - d))
              (b * IntKind.i64.wrap (0 - c)))],
      AV.int IntKind.i64
        (opE (okB a b && okB (IntKind.i64.wrap (0 - d)) (IntKind.i64.wrap (0 - c))) (a * IntKind.i64.wrap (0 - d))
          (b * IntKind.i64.wrap (0 - c)))]) : Res) := way (gs := [false, false, false, false, false, true]) (by kernel_rfl) hALL
theorem w30_2_ok (a b c d : Int) (hALL : allB [(w30_c0 a b c d, false), (w30_c1 a b c d, false), (w30_c2 a b c d, false), (w30_c3 a b c d, false)] = true) : (evFnT Tryd.prog (spOf [e14m, e29m]) (inlOf []) extD (cKD [e14m, e29m] []) (fun _ => .unroll 0) Tryd.f30 [.agg [.int .i64 a, .int .i64 b], .agg [.int .i64 c, .int .i64 d]] [] (fun r _ => .ofOpt (some r))).run = some (Res.ret
  (AV.tup
    [AV.agg
        [AV.int IntKind.i64 (opN (okB a b && okB d c) (a * d) (b * c)),
          AV.int IntKind.i64 (opD (okB a b && okB d c) (a * d) (b * c))],
      AV.int IntKind.i64 (opE (okB a b && okB d c) (a * d) (b * c))]) : Res) := way (gs := [false, false, false, false, false, false]) (by kernel_rfl) hALL
theorem w30_cases (a b c d : Int) {Q : Option (Res) → Prop} (H0 : (ckI a b != 0) = false) (H1 : (ckI c d != 0) = false)
  (L0 : (c == 0) = true → Q (some (Res.ret (AV.tup [AV.agg [AV.int IntKind.i64 0, AV.int IntKind.i64 0], AV.int IntKind.i64 26]))))
  (L1 : (c == 0) = false → (decide (c < 0)) = true → Q (some (Res.ret
  (AV.tup
    [AV.agg
        [AV.int IntKind.i64
            (opN (okB a b && okB (IntKind.i64.wrap (0 - d)) (IntKind.i64.wrap (0 - c))) (a * IntKind.i64.wrap (0 - d))
              (b * IntKind.i64.wrap (0 - c))),
          AV.int IntKind.i64
            (opD (okB a b && okB (IntKind.i64.wrap (0 - d)) (IntKind.i64.wrap (0 - c))) (a * IntKind.i64.wrap (0 - d))
              (b * IntKind.i64.wrap (0 - c)))],
      AV.int IntKind.i64
        (opE (okB a b && okB (IntKind.i64.wrap (0 - d)) (IntKind.i64.wrap (0 - c))) (a * IntKind.i64.wrap (0 - d))
          (b * IntKind.i64.wrap (0 - c)))]))))
  (L2 : (c == 0) = false → (decide (c < 0)) = false → Q (some (Res.ret
  (AV.tup
    [AV.agg
        [AV.int IntKind.i64 (opN (okB a b && okB d c) (a * d) (b * c)),
          AV.int IntKind.i64 (opD (okB a b && okB d c) (a * d) (b * c))],
      AV.int IntKind.i64 (opE (okB a b && okB d c) (a * d) (b * c))])))) : Q (evFnT Tryd.prog (spOf [e14m, e29m]) (inlOf []) extD (cKD [e14m, e29m] []) (fun _ => .unroll 0) Tryd.f30 [.agg [.int .i64 a, .int .i64 b], .agg [.int .i64 c, .int .i64 d]] [] (fun r _ => .ofOpt (some r))).run := by
  have k0 : w30_c0 a b c d = false := H0 
  have k1 : w30_c1 a b c d = false := H1 
  cases k2 : w30_c2 a b c d
  ·
    cases k3 : w30_c3 a b c d
    ·
      rw [w30_2_ok a b c d (allB_f k0 (allB_f k1 (allB_f k2 (allB_f k3 allB_nil))))]
      exact L2 k2 k3
    ·
      rw [w30_1_ok a b c d (allB_f k0 (allB_f k1 (allB_f k2 (allB_t k3 allB_nil))))]
      exact L1 k2 k3
  ·
    rw [w30_0_ok a b c d (allB_f k0 (allB_f k1 (allB_t k2 allB_nil)))]
    exact L0 k2
def w30x_c0 (a b _c _d : Int) : Bool := ckI a b != 0
theorem w30x_0_ok (a b c d : Int) (hALL : allB [(w30x_c0 a b c d, true)] = true) : (evFnT Tryd.prog (spOf [e14m, e29m]) (inlOf []) extD (cKD [e14m, e29m] []) (fun _ => .unroll 0) Tryd.f30 [.agg [.int .i64 a, .int .i64 b], .agg [.int .i64 c, .int .i64 d]] [] (fun r _ => .ofOpt (some r))).run = some (Res.ret (AV.tup [AV.agg [AV.int IntKind.i64 0, AV.int IntKind.i64 0], AV.int IntKind.i64 1]) : Res) := way (gs := [true, true, true]) (by kernel_rfl) hALL
theorem w30x_vc (a b c d : Int) (H0 : w30x_c0 a b c d = true) : (evFnT Tryd.prog (spOf [e14m, e29m]) (inlOf []) extD (cKD [e14m, e29m] []) (fun _ => .unroll 0) Tryd.f30 [.agg [.int .i64 a, .int .i64 b], .agg [.int .i64 c, .int .i64 d]] [] (fun r _ => .ofOpt (some r))).run = some (Res.ret (AV.tup [AV.agg [AV.int IntKind.i64 0, AV.int IntKind.i64 0], AV.int IntKind.i64 1]) : Res) := by
  have k0 := H0 
  exact w30x_0_ok a b c d (allB_t k0 allB_nil)
def w30y_c0 (a b _c _d : Int) : Bool := ckI a b != 0
def w30y_c1 (_a _b c d : Int) : Bool := ckI c d != 0
theorem w30y_0_ok (a b c d : Int) (hALL : allB [(w30y_c0 a b c d, false), (w30y_c1 a b c d, true)] = true) : (evFnT Tryd.prog (spOf [e14m, e29m]) (inlOf []) extD (cKD [e14m, e29m] []) (fun _ => .unroll 0) Tryd.f30 [.agg [.int .i64 a, .int .i64 b], .agg [.int .i64 c, .int .i64 d]] [] (fun r _ => .ofOpt (some r))).run = some (Res.ret (AV.tup [AV.agg [AV.int IntKind.i64 0, AV.int IntKind.i64 0], AV.int IntKind.i64 1]) : Res) := way (gs := [false, false, true, true]) (by kernel_rfl) hALL
theorem w30y_vc (a b c d : Int) (H0 : w30y_c0 a b c d = false) (H1 : w30y_c1 a b c d = true) : (evFnT Tryd.prog (spOf [e14m, e29m]) (inlOf []) extD (cKD [e14m, e29m] []) (fun _ => .unroll 0) Tryd.f30 [.agg [.int .i64 a, .int .i64 b], .agg [.int .i64 c, .int .i64 d]] [] (fun r _ => .ofOpt (some r))).run = some (Res.ret (AV.tup [AV.agg [AV.int IntKind.i64 0, AV.int IntKind.i64 0], AV.int IntKind.i64 1]) : Res) := by
  have k0 := H0 
  have k1 := H1 
  exact w30y_0_ok a b c d (allB_f k0 (allB_t k1 allB_nil))
def e28m : Ent := ⟨28, fun
  | [.agg [.int .i64 a, .int .i64 b], .agg [.int .i64 c, .int .i64 d]] => opV (okB a b && okB c d) (a * d - c * b) (b * d)
  | _ => .non⟩
def e30m : Ent := ⟨30, fun
  | [.agg [.int .i64 a, .int .i64 b], .agg [.int .i64 c, .int .i64 d]] => .leaf (.ret (.tup [.agg [.int .i64 (dvA (okB a b && okB c d) a b c d), .int .i64 (dvB (okB a b && okB c d) a b c d)], .int .i64 (dvE (okB a b && okB c d) a b c d)]))
  | _ => .non⟩
theorem cx28 : (mkCx Tryd.prog (spOf [e14m, e27m]) (inlOf []) extD).Ok InvD := cx_of [] (by kernel_rfl) (by
  intro p hp
  simp only [List.mem_cons, List.not_mem_nil, or_false] at hp
  rcases hp with rfl | rfl
  · exact e14m_ok
  · exact e27m_ok)
theorem cx30 : (mkCx Tryd.prog (spOf [e14m, e29m]) (inlOf []) extD).Ok InvD := cx_of [] (by kernel_rfl) (by
  intro p hp
  simp only [List.mem_cons, List.not_mem_nil, or_false] at hp
  rcases hp with rfl | rfl
  · exact e14m_ok
  · exact e29m_ok)
theorem e28m_ok : SpecHolds Tryd.prog InvD 28 fun a => (e28m.2 a).run := by
  refine specD cx28 Tryd.func28 (c := codeOf Tryd.prog 28) (by kernel_rfl) (fun _ => .unroll 0) (fun _ _ => trivial) fun args r h => ?_
  simp only [e28m] at h
  split at h
  · rename_i a b c d
    refine ⟨by kernel_rfl, tr_ok (by rfl) h, ?_⟩
    refine Eq.trans ?_ h
    cases h1 : okB a b with
    | false => exact (w28x_vc a b c d (by rw [w28x_c0, ckI_ne, h1]; rfl)).trans (by rfl)
    | true =>
    cases h2 : okB c d with
    | false => exact (w28y_vc a b c d (by rw [w28y_c0, ckI_ne, h1]; rfl) (by rw [w28y_c1, ckI_ne, h2]; rfl)).trans (by rfl)
    | true =>
      obtain ⟨k1, k2, k3, k4, k5⟩ := okB_iff.1 h2
      have e1 : IntKind.i64.wrap (0 - c) = -c := by rw [wrapI (by omega) (by omega)]; omega
      have e2 : a * d + -c * b = a * d - c * b := by rw [Int.neg_mul]; omega
      refine (w28_vc a b c d (by rw [w28_c0, ckI_ne, h1]; rfl) (by rw [w28_c1, ckI_ne, h2]; rfl)).trans ?_
      rw [e1, e2, okB_neg h2, h1]
      rfl
  · simp [Tr.run] at h
theorem e30m_ok : SpecHolds Tryd.prog InvD 30 fun a => (e30m.2 a).run := by
  refine specD cx30 Tryd.func30 (c := codeOf Tryd.prog 30) (by kernel_rfl) (fun _ => .unroll 0) (fun _ _ => trivial) fun args r h => ?_
  simp only [e30m] at h
  split at h
  · rename_i a b c d
    refine ⟨by kernel_rfl, tr_ok (by rfl) h, ?_⟩
    refine Eq.trans ?_ h
    cases h1 : okB a b with
    | false => exact (w30x_vc a b c d (by rw [w30x_c0, ckI_ne, h1]; rfl)).trans (by rfl)
    | true =>
    cases h2 : okB c d with
    | false => exact (w30y_vc a b c d (by rw [w30y_c0, ckI_ne, h1]; rfl) (by rw [w30y_c1, ckI_ne, h2]; rfl)).trans (by rfl)
    | true =>
      obtain ⟨k1, k2, k3, k4, k5⟩ := okB_iff.1 h2
      refine w30_cases a b c d (Q := fun q => q = (Tr.leaf (.ret (.tup [.agg [.int .i64 (dvA (true && true) a b c d), .int .i64 (dvB (true && true) a b c d)], .int .i64 (dvE (true && true) a b c d)]))).run) (by rw [ckI_ne, h1]; rfl) (by rw [ckI_ne, h2]; rfl) ?_ ?_ ?_
      · intro c0
        simp only [dvA, dvB, dvE, c0, Bool.and_self, if_true, Tr.run]
      · intro c0 c1
        have hc := of_decide_eq_true c1
        have e1 : IntKind.i64.wrap (0 - c) = -c := by rw [wrapI (by omega) (by omega)]; omega
        have e2 : IntKind.i64.wrap (0 - d) = -d := by rw [wrapI (by omega) (by omega)]; omega
        rw [e1, e2, okB_inv_neg h2 hc, h1]
        simp only [dvA, dvB, dvE, dvN, dvM, c0, hc, Bool.and_self, Bool.and_false, Bool.false_eq_true, if_true, if_false, Tr.run]
      · intro c0 c1
        have hc := of_decide_eq_false c1
        have hz : c ≠ 0 := by simpa using c0
        rw [okB_inv h2 (by omega), h1]
        simp only [dvA, dvB, dvE, dvN, dvM, c0, hc, Bool.and_self, Bool.and_false, Bool.false_eq_true, if_false, Tr.run]
  · simp [Tr.run] at h
end Go.Proofs.YtekkphoingjidaaDoor

/- RatioArithmetic's call returns true. Conditions: none beyond the context's. -/
namespace Go.Proofs.YtekkphoingjidaaDoor
open Go.Evl Go.RowKit
def w8_c0 (a b c d : Int) : Bool := !(opN (okB a b && okB c d) (a * d + c * b) (b * d) == opN (okB a b && okB c d) (a * d + c * b) (b * d) &&
    (opD (okB a b && okB c d) (a * d + c * b) (b * d) == opD (okB a b && okB c d) (a * d + c * b) (b * d) && true))
def w8_c1 (a b c d : Int) : Bool := opE (okB a b && okB c d) (a * d + c * b) (b * d) != opE (okB a b && okB c d) (a * d + c * b) (b * d)
def w8_c2 (a b c d : Int) : Bool := !(opN (okB a b && okB c d) (a * d - c * b) (b * d) == opN (okB a b && okB c d) (a * d - c * b) (b * d) &&
    (opD (okB a b && okB c d) (a * d - c * b) (b * d) == opD (okB a b && okB c d) (a * d - c * b) (b * d) && true))
def w8_c3 (a b c d : Int) : Bool := opE (okB a b && okB c d) (a * d - c * b) (b * d) != opE (okB a b && okB c d) (a * d - c * b) (b * d)
def w8_c4 (a b c d : Int) : Bool := !(opN (okB a b && okB c d) (a * c) (b * d) == opN (okB a b && okB c d) (a * c) (b * d) &&
    (opD (okB a b && okB c d) (a * c) (b * d) == opD (okB a b && okB c d) (a * c) (b * d) && true))
def w8_c5 (a b c d : Int) : Bool := opE (okB a b && okB c d) (a * c) (b * d) != opE (okB a b && okB c d) (a * c) (b * d)
def w8_c6 (a b c d : Int) : Bool := dvA (okB a b && okB c d) a b c d == dvA (okB a b && okB c d) a b c d &&
  (dvB (okB a b && okB c d) a b c d == dvB (okB a b && okB c d) a b c d && true)
def w8_c7 (a b c d : Int) : Bool := dvE (okB a b && okB c d) a b c d == dvE (okB a b && okB c d) a b c d
def w8_c8 (a b c d : Int) : Bool := cmpR a b c d == cmpR a b c d
theorem w8_0_ok (a b c d : Int) (hALL : allB [(w8_c0 a b c d, true)] = true) : (evFnT Tryd.prog (spOf [e19, e20m, e21m, e22m, e23m, e26m, e27m, e28m, e29m, e30m, e31m]) (inlOf []) extD (cKD [e19, e20m, e21m, e22m, e23m, e26m, e27m, e28m, e29m, e30m, e31m] []) (fun _ => .unroll 0) Tryd.f8 [.agg [.int .i64 a, .int .i64 b], .agg [.int .i64 c, .int .i64 d]] [] (fun r _ => .ofOpt (some r))).run = some (Res.ret (AV.bool false) : Res) := way (gs := [false, true, true, true, false]) (by kernel_rfl) hALL
theorem w8_1_ok (a b c d : Int) (hALL : allB [(w8_c0 a b c d, false), (w8_c1 a b c d, true)] = true) : (evFnT Tryd.prog (spOf [e19, e20m, e21m, e22m, e23m, e26m, e27m, e28m, e29m, e30m, e31m]) (inlOf []) extD (cKD [e19, e20m, e21m, e22m, e23m, e26m, e27m, e28m, e29m, e30m, e31m] []) (fun _ => .unroll 0) Tryd.f8 [.agg [.int .i64 a, .int .i64 b], .agg [.int .i64 c, .int .i64 d]] [] (fun r _ => .ofOpt (some r))).run = some (Res.ret (AV.bool false) : Res) := way (gs := [false, false, false, true, true, false]) (by kernel_rfl) hALL
theorem w8_2_ok (a b c d : Int) (hALL : allB [(w8_c0 a b c d, false), (w8_c1 a b c d, false), (w8_c2 a b c d, true)] = true) : (evFnT Tryd.prog (spOf [e19, e20m, e21m, e22m, e23m, e26m, e27m, e28m, e29m, e30m, e31m]) (inlOf []) extD (cKD [e19, e20m, e21m, e22m, e23m, e26m, e27m, e28m, e29m, e30m, e31m] []) (fun _ => .unroll 0) Tryd.f8 [.agg [.int .i64 a, .int .i64 b], .agg [.int .i64 c, .int .i64 d]] [] (fun r _ => .ofOpt (some r))).run = some (Res.ret (AV.bool false) : Res) := way (gs := [false, false, false, false, false, true, true, true, false]) (by kernel_rfl) hALL
theorem w8_3_ok (a b c d : Int) (hALL : allB [(w8_c0 a b c d, false), (w8_c1 a b c d, false), (w8_c2 a b c d, false), (w8_c3 a b c d, true)] = true) : (evFnT Tryd.prog (spOf [e19, e20m, e21m, e22m, e23m, e26m, e27m, e28m, e29m, e30m, e31m]) (inlOf []) extD (cKD [e19, e20m, e21m, e22m, e23m, e26m, e27m, e28m, e29m, e30m, e31m] []) (fun _ => .unroll 0) Tryd.f8 [.agg [.int .i64 a, .int .i64 b], .agg [.int .i64 c, .int .i64 d]] [] (fun r _ => .ofOpt (some r))).run = some (Res.ret (AV.bool false) : Res) := way (gs := [false, false, false, false, false, false, false, true, true, false]) (by kernel_rfl) hALL
theorem w8_4_ok (a b c d : Int) (hALL : allB [(w8_c0 a b c d, false), (w8_c1 a b c d, false), (w8_c2 a b c d, false), (w8_c3 a b c d, false), (w8_c4 a b c d, true)] = true) : (evFnT Tryd.prog (spOf [e19, e20m, e21m, e22m, e23m, e26m, e27m, e28m, e29m, e30m, e31m]) (inlOf []) extD (cKD [e19, e20m, e21m, e22m, e23m, e26m, e27m, e28m, e29m, e30m, e31m] []) (fun _ => .unroll 0) Tryd.f8 [.agg [.int .i64 a, .int .i64 b], .agg [.int .i64 c, .int .i64 d]] [] (fun r _ => .ofOpt (some r))).run = some (Res.ret (AV.bool false) : Res) := way (gs := [false, false, false, false, false, false, false, false, false, true, true, true, false]) (by kernel_rfl) hALL
theorem w8_5_ok (a b c d : Int) (hALL : allB [(w8_c0 a b c d, false), (w8_c1 a b c d, false), (w8_c2 a b c d, false), (w8_c3 a b c d, false), (w8_c4 a b c d, false), (w8_c5 a b c d, true)] = true) : (evFnT Tryd.prog (spOf [e19, e20m, e21m, e22m, e23m, e26m, e27m, e28m, e29m, e30m, e31m]) (inlOf []) extD (cKD [e19, e20m, e21m, e22m, e23m, e26m, e27m, e28m, e29m, e30m, e31m] []) (fun _ => .unroll 0) Tryd.f8 [.agg [.int .i64 a, .int .i64 b], .agg [.int .i64 c, .int .i64 d]] [] (fun r _ => .ofOpt (some r))).run = some (Res.ret (AV.bool false) : Res) := way (gs := [false, false, false, false, false, false, false, false, false, false, false, true, true, false]) (by kernel_rfl) hALL
theorem w8_6_ok (a b c d : Int) (hALL : allB [(w8_c0 a b c d, false), (w8_c1 a b c d, false), (w8_c2 a b c d, false), (w8_c3 a b c d, false), (w8_c4 a b c d, false), (w8_c5 a b c d, false), (w8_c6 a b c d, true), (w8_c7 a b c d, true), (w8_c8 a b c d, true)] = true) : (evFnT Tryd.prog (spOf [e19, e20m, e21m, e22m, e23m, e26m, e27m, e28m, e29m, e30m, e31m]) (inlOf []) extD (cKD [e19, e20m, e21m, e22m, e23m, e26m, e27m, e28m, e29m, e30m, e31m] []) (fun _ => .unroll 0) Tryd.f8 [.agg [.int .i64 a, .int .i64 b], .agg [.int .i64 c, .int .i64 d]] [] (fun r _ => .ofOpt (some r))).run = some (Res.ret (AV.bool true) : Res) := way (gs := [false, false, false, false, false, false, false, false, false, false, false, false, false, true, true, true, true, true, true, true, true, true, true, true]) (by kernel_rfl) hALL
theorem w8_7_ok (a b c d : Int) (hALL : allB [(w8_c0 a b c d, false), (w8_c1 a b c d, false), (w8_c2 a b c d, false), (w8_c3 a b c d, false), (w8_c4 a b c d, false), (w8_c5 a b c d, false), (w8_c6 a b c d, true), (w8_c7 a b c d, true), (w8_c8 a b c d, false)] = true) : (evFnT Tryd.prog (spOf [e19, e20m, e21m, e22m, e23m, e26m, e27m, e28m, e29m, e30m, e31m]) (inlOf []) extD (cKD [e19, e20m, e21m, e22m, e23m, e26m, e27m, e28m, e29m, e30m, e31m] []) (fun _ => .unroll 0) Tryd.f8 [.agg [.int .i64 a, .int .i64 b], .agg [.int .i64 c, .int .i64 d]] [] (fun r _ => .ofOpt (some r))).run = some (Res.ret (AV.bool false) : Res) := way (gs := [false, false, false, false, false, false, false, false, false, false, false, false, false, true, true, true, true, true, false, false, false, false, false]) (by kernel_rfl) hALL
theorem w8_8_ok (a b c d : Int) (hALL : allB [(w8_c0 a b c d, false), (w8_c1 a b c d, false), (w8_c2 a b c d, false), (w8_c3 a b c d, false), (w8_c4 a b c d, false), (w8_c5 a b c d, false), (w8_c6 a b c d, true), (w8_c7 a b c d, false)] = true) : (evFnT Tryd.prog (spOf [e19, e20m, e21m, e22m, e23m, e26m, e27m, e28m, e29m, e30m, e31m]) (inlOf []) extD (cKD [e19, e20m, e21m, e22m, e23m, e26m, e27m, e28m, e29m, e30m, e31m] []) (fun _ => .unroll 0) Tryd.f8 [.agg [.int .i64 a, .int .i64 b], .agg [.int .i64 c, .int .i64 d]] [] (fun r _ => .ofOpt (some r))).run = some (Res.ret (AV.bool false) : Res) := way (gs := [false, false, false, false, false, false, false, false, false, false, false, false, false, true, true, false, false, false, false, false, false, false]) (by kernel_rfl) hALL
theorem w8_9_ok (a b c d : Int) (hALL : allB [(w8_c0 a b c d, false), (w8_c1 a b c d, false), (w8_c2 a b c d, false), (w8_c3 a b c d, false), (w8_c4 a b c d, false), (w8_c5 a b c d, false), (w8_c6 a b c d, false)] = true) : (evFnT Tryd.prog (spOf [e19, e20m, e21m, e22m, e23m, e26m, e27m, e28m, e29m, e30m, e31m]) (inlOf []) extD (cKD [e19, e20m, e21m, e22m, e23m, e26m, e27m, e28m, e29m, e30m, e31m] []) (fun _ => .unroll 0) Tryd.f8 [.agg [.int .i64 a, .int .i64 b], .agg [.int .i64 c, .int .i64 d]] [] (fun r _ => .ofOpt (some r))).run = some (Res.ret (AV.bool false) : Res) := way (gs := [false, false, false, false, false, false, false, false, false, false, false, false, false, false, false, false, false, false, false, false, false]) (by kernel_rfl) hALL
theorem w8_cases (a b c d : Int) {Q : Option (Res) → Prop} 
  (L0 : (!(opN (okB a b && okB c d) (a * d + c * b) (b * d) == opN (okB a b && okB c d) (a * d + c * b) (b * d) &&
    (opD (okB a b && okB c d) (a * d + c * b) (b * d) == opD (okB a b && okB c d) (a * d + c * b) (b * d) && true))) = true → Q (some (Res.ret (AV.bool false))))
  (L1 : (!(opN (okB a b && okB c d) (a * d + c * b) (b * d) == opN (okB a b && okB c d) (a * d + c * b) (b * d) &&
    (opD (okB a b && okB c d) (a * d + c * b) (b * d) == opD (okB a b && okB c d) (a * d + c * b) (b * d) && true))) = false → (opE (okB a b && okB c d) (a * d + c * b) (b * d) != opE (okB a b && okB c d) (a * d + c * b) (b * d)) = true → Q (some (Res.ret (AV.bool false))))
  (L2 : (!(opN (okB a b && okB c d) (a * d + c * b) (b * d) == opN (okB a b && okB c d) (a * d + c * b) (b * d) &&
    (opD (okB a b && okB c d) (a * d + c * b) (b * d) == opD (okB a b && okB c d) (a * d + c * b) (b * d) && true))) = false → (opE (okB a b && okB c d) (a * d + c * b) (b * d) != opE (okB a b && okB c d) (a * d + c * b) (b * d)) = false → (!(opN (okB a b && okB c d) (a * d - c * b) (b * d) == opN (okB a b && okB c d) (a * d - c * b) (b * d) &&
    (opD (okB a b && okB c d) (a * d - c * b) (b * d) == opD (okB a b && okB c d) (a * d - c * b) (b * d) && true))) = true → Q (some (Res.ret (AV.bool false))))
  (L3 : (!(opN (okB a b && okB c d) (a * d + c * b) (b * d) == opN (okB a b && okB c d) (a * d + c * b) (b * d) &&
    (opD (okB a b && okB c d) (a * d + c * b) (b * d) == opD (okB a b && okB c d) (a * d + c * b) (b * d) && true))) = false → (opE (okB a b && okB c d) (a * d + c * b) (b * d) != opE (okB a b && okB c d) (a * d + c * b) (b * d)) = false → (!(opN (okB a b && okB c d) (a * d - c * b) (b * d) == opN (okB a b && okB c d) (a * d - c * b) (b * d) &&
    (opD (okB a b && okB c d) (a * d - c * b) (b * d) == opD (okB a b && okB c d) (a * d - c * b) (b * d) && true))) = false → (opE (okB a b && okB c d) (a * d - c * b) (b * d) != opE (okB a b && okB c d) (a * d - c * b) (b * d)) = true → Q (some (Res.ret (AV.bool false))))
  (L4 : (!(opN (okB a b && okB c d) (a * d + c * b) (b * d) == opN (okB a b && okB c d) (a * d + c * b) (b * d) &&
    (opD (okB a b && okB c d) (a * d + c * b) (b * d) == opD (okB a b && okB c d) (a * d + c * b) (b * d) && true))) = false → (opE (okB a b && okB c d) (a * d + c * b) (b * d) != opE (okB a b && okB c d) (a * d + c * b) (b * d)) = false → (!(opN (okB a b && okB c d) (a * d - c * b) (b * d) == opN (okB a b && okB c d) (a * d - c * b) (b * d) &&
    (opD (okB a b && okB c d) (a * d - c * b) (b * d) == opD (okB a b && okB c d) (a * d - c * b) (b * d) && true))) = false → (opE (okB a b && okB c d) (a * d - c * b) (b * d) != opE (okB a b && okB c d) (a * d - c * b) (b * d)) = false → (!(opN (okB a b && okB c d) (a * c) (b * d) == opN (okB a b && okB c d) (a * c) (b * d) &&
    (opD (okB a b && okB c d) (a * c) (b * d) == opD (okB a b && okB c d) (a * c) (b * d) && true))) = true → Q (some (Res.ret (AV.bool false))))
  (L5 : (!(opN (okB a b && okB c d) (a * d + c * b) (b * d) == opN (okB a b && okB c d) (a * d + c * b) (b * d) &&
    (opD (okB a b && okB c d) (a * d + c * b) (b * d) == opD (okB a b && okB c d) (a * d + c * b) (b * d) && true))) = false → (opE (okB a b && okB c d) (a * d + c * b) (b * d) != opE (okB a b && okB c d) (a * d + c * b) (b * d)) = false → (!(opN (okB a b && okB c d) (a * d - c * b) (b * d) == opN (okB a b && okB c d) (a * d - c * b) (b * d) &&
    (opD (okB a b && okB c d) (a * d - c * b) (b * d) == opD (okB a b && okB c d) (a * d - c * b) (b * d) && true))) = false → (opE (okB a b && okB c d) (a * d - c * b) (b * d) != opE (okB a b && okB c d) (a * d - c * b) (b * d)) = false → (!(opN (okB a b && okB c d) (a * c) (b * d) == opN (okB a b && okB c d) (a * c) (b * d) &&
    (opD (okB a b && okB c d) (a * c) (b * d) == opD (okB a b && okB c d) (a * c) (b * d) && true))) = false → (opE (okB a b && okB c d) (a * c) (b * d) != opE (okB a b && okB c d) (a * c) (b * d)) = true → Q (some (Res.ret (AV.bool false))))
  (L6 : (!(opN (okB a b && okB c d) (a * d + c * b) (b * d) == opN (okB a b && okB c d) (a * d + c * b) (b * d) &&
    (opD (okB a b && okB c d) (a * d + c * b) (b * d) == opD (okB a b && okB c d) (a * d + c * b) (b * d) && true))) = false → (opE (okB a b && okB c d) (a * d + c * b) (b * d) != opE (okB a b && okB c d) (a * d + c * b) (b * d)) = false → (!(opN (okB a b && okB c d) (a * d - c * b) (b * d) == opN (okB a b && okB c d) (a * d - c * b) (b * d) &&
    (opD (okB a b && okB c d) (a * d - c * b) (b * d) == opD (okB a b && okB c d) (a * d - c * b) (b * d) && true))) = false → (opE (okB a b && okB c d) (a * d - c * b) (b * d) != opE (okB a b && okB c d) (a * d - c * b) (b * d)) = false → (!(opN (okB a b && okB c d) (a * c) (b * d) == opN (okB a b && okB c d) (a * c) (b * d) &&
    (opD (okB a b && okB c d) (a * c) (b * d) == opD (okB a b && okB c d) (a * c) (b * d) && true))) = false → (opE (okB a b && okB c d) (a * c) (b * d) != opE (okB a b && okB c d) (a * c) (b * d)) = false → (dvA (okB a b && okB c d) a b c d == dvA (okB a b && okB c d) a b c d &&
  (dvB (okB a b && okB c d) a b c d == dvB (okB a b && okB c d) a b c d && true)) = true → (dvE (okB a b && okB c d) a b c d == dvE (okB a b && okB c d) a b c d) = true → (cmpR a b c d == cmpR a b c d) = true → Q (some (Res.ret (AV.bool true))))
  (L7 : (!(opN (okB a b && okB c d) (a * d + c * b) (b * d) == opN (okB a b && okB c d) (a * d + c * b) (b * d) &&
    (opD (okB a b && okB c d) (a * d + c * b) (b * d) == opD (okB a b && okB c d) (a * d + c * b) (b * d) && true))) = false → (opE (okB a b && okB c d) (a * d + c * b) (b * d) != opE (okB a b && okB c d) (a * d + c * b) (b * d)) = false → (!(opN (okB a b && okB c d) (a * d - c * b) (b * d) == opN (okB a b && okB c d) (a * d - c * b) (b * d) &&
    (opD (okB a b && okB c d) (a * d - c * b) (b * d) == opD (okB a b && okB c d) (a * d - c * b) (b * d) && true))) = false → (opE (okB a b && okB c d) (a * d - c * b) (b * d) != opE (okB a b && okB c d) (a * d - c * b) (b * d)) = false → (!(opN (okB a b && okB c d) (a * c) (b * d) == opN (okB a b && okB c d) (a * c) (b * d) &&
    (opD (okB a b && okB c d) (a * c) (b * d) == opD (okB a b && okB c d) (a * c) (b * d) && true))) = false → (opE (okB a b && okB c d) (a * c) (b * d) != opE (okB a b && okB c d) (a * c) (b * d)) = false → (dvA (okB a b && okB c d) a b c d == dvA (okB a b && okB c d) a b c d &&
  (dvB (okB a b && okB c d) a b c d == dvB (okB a b && okB c d) a b c d && true)) = true → (dvE (okB a b && okB c d) a b c d == dvE (okB a b && okB c d) a b c d) = true → (cmpR a b c d == cmpR a b c d) = false → Q (some (Res.ret (AV.bool false))))
  (L8 : (!(opN (okB a b && okB c d) (a * d + c * b) (b * d) == opN (okB a b && okB c d) (a * d + c * b) (b * d) &&
    (opD (okB a b && okB c d) (a * d + c * b) (b * d) == opD (okB a b && okB c d) (a * d + c * b) (b * d) && true))) = false → (opE (okB a b && okB c d) (a * d + c * b) (b * d) != opE (okB a b && okB c d) (a * d + c * b) (b * d)) = false → (!(opN (okB a b && okB c d) (a * d - c * b) (b * d) == opN (okB a b && okB c d) (a * d - c * b) (b * d) &&
    (opD (okB a b && okB c d) (a * d - c * b) (b * d) == opD (okB a b && okB c d) (a * d - c * b) (b * d) && true))) = false → (opE (okB a b && okB c d) (a * d - c * b) (b * d) != opE (okB a b && okB c d) (a * d - c * b) (b * d)) = false → (!(opN (okB a b && okB c d) (a * c) (b * d) == opN (okB a b && okB c d) (a * c) (b * d) &&
    (opD (okB a b && okB c d) (a * c) (b * d) == opD (okB a b && okB c d) (a * c) (b * d) && true))) = false → (opE (okB a b && okB c d) (a * c) (b * d) != opE (okB a b && okB c d) (a * c) (b * d)) = false → (dvA (okB a b && okB c d) a b c d == dvA (okB a b && okB c d) a b c d &&
  (dvB (okB a b && okB c d) a b c d == dvB (okB a b && okB c d) a b c d && true)) = true → (dvE (okB a b && okB c d) a b c d == dvE (okB a b && okB c d) a b c d) = false → Q (some (Res.ret (AV.bool false))))
  (L9 : (!(opN (okB a b && okB c d) (a * d + c * b) (b * d) == opN (okB a b && okB c d) (a * d + c * b) (b * d) &&
    (opD (okB a b && okB c d) (a * d + c * b) (b * d) == opD (okB a b && okB c d) (a * d + c * b) (b * d) && true))) = false → (opE (okB a b && okB c d) (a * d + c * b) (b * d) != opE (okB a b && okB c d) (a * d + c * b) (b * d)) = false → (!(opN (okB a b && okB c d) (a * d - c * b) (b * d) == opN (okB a b && okB c d) (a * d - c * b) (b * d) &&
    (opD (okB a b && okB c d) (a * d - c * b) (b * d) == opD (okB a b && okB c d) (a * d - c * b) (b * d) && true))) = false → (opE (okB a b && okB c d) (a * d - c * b) (b * d) != opE (okB a b && okB c d) (a * d - c * b) (b * d)) = false → (!(opN (okB a b && okB c d) (a * c) (b * d) == opN (okB a b && okB c d) (a * c) (b * d) &&
    (opD (okB a b && okB c d) (a * c) (b * d) == opD (okB a b && okB c d) (a * c) (b * d) && true))) = false → (opE (okB a b && okB c d) (a * c) (b * d) != opE (okB a b && okB c d) (a * c) (b * d)) = false → (dvA (okB a b && okB c d) a b c d == dvA (okB a b && okB c d) a b c d &&
  (dvB (okB a b && okB c d) a b c d == dvB (okB a b && okB c d) a b c d && true)) = false → Q (some (Res.ret (AV.bool false)))) : Q (evFnT Tryd.prog (spOf [e19, e20m, e21m, e22m, e23m, e26m, e27m, e28m, e29m, e30m, e31m]) (inlOf []) extD (cKD [e19, e20m, e21m, e22m, e23m, e26m, e27m, e28m, e29m, e30m, e31m] []) (fun _ => .unroll 0) Tryd.f8 [.agg [.int .i64 a, .int .i64 b], .agg [.int .i64 c, .int .i64 d]] [] (fun r _ => .ofOpt (some r))).run := by
  cases k0 : w8_c0 a b c d
  ·
    cases k1 : w8_c1 a b c d
    ·
      cases k2 : w8_c2 a b c d
      ·
        cases k3 : w8_c3 a b c d
        ·
          cases k4 : w8_c4 a b c d
          ·
            cases k5 : w8_c5 a b c d
            ·
              cases k6 : w8_c6 a b c d
              ·
                rw [w8_9_ok a b c d (allB_f k0 (allB_f k1 (allB_f k2 (allB_f k3 (allB_f k4 (allB_f k5 (allB_f k6 allB_nil)))))))]
                exact L9 k0 k1 k2 k3 k4 k5 k6
              ·
                cases k7 : w8_c7 a b c d
                ·
                  rw [w8_8_ok a b c d (allB_f k0 (allB_f k1 (allB_f k2 (allB_f k3 (allB_f k4 (allB_f k5 (allB_t k6 (allB_f k7 allB_nil))))))))]
                  exact L8 k0 k1 k2 k3 k4 k5 k6 k7
                ·
                  cases k8 : w8_c8 a b c d
                  ·
                    rw [w8_7_ok a b c d (allB_f k0 (allB_f k1 (allB_f k2 (allB_f k3 (allB_f k4 (allB_f k5 (allB_t k6 (allB_t k7 (allB_f k8 allB_nil)))))))))]
                    exact L7 k0 k1 k2 k3 k4 k5 k6 k7 k8
                  ·
                    rw [w8_6_ok a b c d (allB_f k0 (allB_f k1 (allB_f k2 (allB_f k3 (allB_f k4 (allB_f k5 (allB_t k6 (allB_t k7 (allB_t k8 allB_nil)))))))))]
                    exact L6 k0 k1 k2 k3 k4 k5 k6 k7 k8
            ·
              rw [w8_5_ok a b c d (allB_f k0 (allB_f k1 (allB_f k2 (allB_f k3 (allB_f k4 (allB_t k5 allB_nil))))))]
              exact L5 k0 k1 k2 k3 k4 k5
          ·
            rw [w8_4_ok a b c d (allB_f k0 (allB_f k1 (allB_f k2 (allB_f k3 (allB_t k4 allB_nil)))))]
            exact L4 k0 k1 k2 k3 k4
        ·
          rw [w8_3_ok a b c d (allB_f k0 (allB_f k1 (allB_f k2 (allB_t k3 allB_nil))))]
          exact L3 k0 k1 k2 k3
      ·
        rw [w8_2_ok a b c d (allB_f k0 (allB_f k1 (allB_t k2 allB_nil)))]
        exact L2 k0 k1 k2
    ·
      rw [w8_1_ok a b c d (allB_f k0 (allB_t k1 allB_nil))]
      exact L1 k0 k1
  ·
    rw [w8_0_ok a b c d (allB_t k0 allB_nil)]
    exact L0 k0
def e8 : Ent := ⟨8, fun
  | [.agg [.int .i64 _, .int .i64 _], .agg [.int .i64 _, .int .i64 _]] => .leaf (.ret (.bool true))
  | _ => .non⟩
theorem cx8 : (mkCx Tryd.prog (spOf [e19, e20m, e21m, e22m, e23m, e26m, e27m, e28m, e29m, e30m, e31m]) (inlOf []) extD).Ok InvD := cx_of [] (by kernel_rfl) (by
  intro p hp
  simp only [List.mem_cons, List.not_mem_nil, or_false] at hp
  rcases hp with rfl | rfl | rfl | rfl | rfl | rfl | rfl | rfl | rfl | rfl | rfl
  · exact e19_ok
  · exact e20m_ok
  · exact e21m_ok
  · exact e22m_ok
  · exact e23m_ok
  · exact e26m_ok
  · exact e27m_ok
  · exact e28m_ok
  · exact e29m_ok
  · exact e30m_ok
  · exact e31m_ok)
theorem e8_ok : SpecHolds Tryd.prog InvD 8 fun a => (e8.2 a).run := by
  refine specD cx8 Tryd.func8 (c := codeOf Tryd.prog 8) (by kernel_rfl) (fun _ => .unroll 0) (fun _ _ => trivial) fun args r h => ?_
  simp only [e8] at h
  split at h
  · rename_i a b c d
    refine ⟨by kernel_rfl, tr_ok (by rfl) h, ?_⟩
    refine Eq.trans ?_ h
    refine w8_cases a b c d (Q := fun q => q = some (.ret (.bool true))) ?_ ?_ ?_ ?_ ?_ ?_ ?_ ?_ ?_ ?_
    all_goals
      intros
      first
      | rfl
      | (simp_all; done)
  · simp [Tr.run] at h
end Go.Proofs.YtekkphoingjidaaDoor

/- What the ratio rows' condition gives: the table of powers of ten stands in the world. Conditions: the rows' own. -/
namespace Go.Proofs.YtekkphoingjidaaDoor
open Go.ChangeShapes Go.WideShapes Go.ChangeAt Go.RowKit Go.Joins Go.Evl

theorem own : ownKnob Tryd.prog.godebug = none := by kernel_rfl
def laidD : List (String × DataW Unit) := [("math/bits.deBruijn32tab", Rows.laid_math_bits_deBruijn32tab), ("math/bits.deBruijn64tab", Rows.laid_math_bits_deBruijn64tab), ("internal/strconv.uint64pow10", Rows.laid_internal_strconv_uint64pow10)]
theorem door_met (os : Os) (args : Array Value) : laidMetH Tryd.prog laidD ((World.doorLaid Tryd.prog 400 os).forCall (fun _ _ => 0) ⟨#[], args, []⟩).memory :=
  laidMetH_of_parts3 (fuel := 8) (laidMet_of_run' 8 (by kernel_rfl) (by kernel_rfl)) (by kernel_rfl) (by kernel_rfl)
theorem gPow : Tryd.prog.globalNamed "internal/strconv.uint64pow10" = some 5 := by kernel_rfl
theorem tPow : (Tryd.prog.globals[5]?).map (·.type) = some 110 := by kernel_rfl
theorem inv_of_laid {W : World} (h : laidMetH Tryd.prog laidD W) : InvD W := by
  rw [MakeChecks.laidMetH_plain _ _ _ (by kernel_rfl)] at h
  obtain ⟨ps, ⟨g0, t0, cs0, f0, p0, q0, hg0, ht0, hv0, hd0, ⟨g1, t1, cs1, f1, p1, q1, hg1, ht1, hv1, hd1, ⟨g2, t2, cs2, f2, p2, q2, hg2, ht2, hv2, hd2, _, _⟩, _⟩, _⟩, _, _⟩ := h
  obtain rfl := Option.some.inj (gPow.symm.trans hg2)
  obtain rfl := Option.some.inj (tPow.symm.trans ht2)
  have hdat : (Rows.laid_internal_strconv_uint64pow10 : DataW Unit) = Lib.tabData .u64 Lib.pow10Tab := by kernel_rfl
  rw [hdat] at hd2
  unfold InvD Lib.TabIs
  rw [hv2, ← Lib.cells_of_tab Tryd.underlying110 Tryd.underlying44 (by kernel_rfl) (by kernel_rfl) hd2]

end Go.Proofs.YtekkphoingjidaaDoor

/- RatioArithmetic returns true for every input, and its arguments read as they did: the row and its tied card. Conditions: the row's own (the listed tables are laid). -/
namespace Go.Proofs.YtekkphoingjidaaDoor
open Go.ChangeShapes Go.WideShapes Go.ChangeAt Go.RowKit Go.Joins Go.Evl

set_option maxRecDepth 100000 in
theorem ratioArithmetic_lifted (os : Os) (started : os.Started) (H : Type) (enc : TypeId × Value → H) :
    ReturnsInHanded {} Tryd.checked os 8 .any (fun w args => (Rows.ratioArithmeticSpec.pre enc Tryd.prog Tryd.f8 [] false w args ∧ laidMetH Tryd.prog laidD w) ∧ sizedMet enc Tryd.prog Tryd.f8 (OpenSpec.ofChange Rows.ratioArithmeticSpec) false w args)
      (Rows.ratioArithmeticSpec.post enc Tryd.prog Tryd.f8 false true false false) := by
  refine returnsInHanded_of_change_and (C := Tryd.checked) (X := fun w _ => laidMetH Tryd.prog laidD w) (fun _ _ _ hh h => h.of_heap hh) own started (by kernel_rfl) Tryd.func8
    (ChangeSpec.witness_shaped (enc := enc) (C := Tryd.checked) (os := os) (X := fun w _ => laidMetH Tryd.prog laidD w) false (World.doorLaid Tryd.prog 400 os) #[.agg #[.int .i64 0, .int .i64 1], .agg #[.int .i64 0, .int .i64 1]] 8 rfl (World.shaped_of_RefB (by kernel_rfl) (by kernel_rfl)) (by kernel_rfl) (by kernel_rfl) (by kernel_rfl) (door_met os _)) ?_
  intro W base args ds gs before hval0 hW _ _ hL _
  have hval : ∀ (j : Nat) t v, Tryd.f8.params[j]? = some t → args[j]? = some v → Value.okWide Tryd.prog W .any base t v := hval0
  have hW' := hW
  obtain ⟨p, q, hA0, hV, rfl, hfz, hnd⟩ := hW
  have hA : DataW.TrodAll enc Tryd.prog W 0 (fun _ => true) true Tryd.f8.params.toList args.toList ds p := hA0
  rw [Tryd.params8] at hA hval
  obtain ⟨v0, v1, d0, d1, p0, p1, rfl, rfl, rfl, h0, h1⟩ := trodAll_two hA
  obtain ⟨rfl, rfl⟩ := trodVars_none hV
  obtain ⟨c0a, c0b, y0a, y0b, m0, rfl, rfl, rfl, hy0a, hy0b⟩ := open_agg2 Tryd.underlying23 (by kernel_rfl) (by kernel_rfl) (hval 0 23 v0 rfl rfl) h0
  obtain ⟨a0, x0a, rfl, wa0⟩ := DataW.trod_int Tryd.underlying3 hy0a
  obtain ⟨b0, x0b, rfl, wb0⟩ := DataW.trod_int Tryd.underlying3 hy0b
  simp at x0a x0b
  subst x0a x0b
  obtain ⟨c1a, c1b, y1a, y1b, m1, rfl, rfl, rfl, hy1a, hy1b⟩ := open_agg2 Tryd.underlying23 (by kernel_rfl) (by kernel_rfl) (hval 1 23 v1 rfl rfl) h1
  obtain ⟨a1, x1a, rfl, wa1⟩ := DataW.trod_int Tryd.underlying3 hy1a
  obtain ⟨b1, x1b, rfl, wb1⟩ := DataW.trod_int Tryd.underlying3 hy1b
  simp at x1a x1b
  subst x1a x1b
  clear hA0 hval0
  simp only [List.append_nil] at hW'
  have readsR : ∀ {x y : Int}, (Lit.int .i64 x).wf = true → (Lit.int .i64 y).wf = true → ∀ {W' : World} {sp : Nat → Bool}, DataW.Trod enc Tryd.prog W' 0 sp true 23 (.agg #[.int .i64 x, .int .i64 y]) (.agg [.lit (.int .i64 x), .lit (.int .i64 y)]) [] := fun {x y} wx wy {W' sp} =>
    shut_agg2 (y0 := (.lit (.int .i64 x), [])) (y1 := (.lit (.int .i64 y), [])) Tryd.underlying23 (by kernel_rfl) (by kernel_rfl) ⟨1, by simp [DataW.trod, Tryd.underlying3, wx]⟩ ⟨1, by simp [DataW.trod, Tryd.underlying3, wy]⟩
  have rvR : ∀ (x y : Int), Rv (fun i => i) (fun _ => False) W None_ (.agg [.int .i64 x, .int .i64 y]) (.agg #[.int .i64 x, .int .i64 y]) := fun x y =>
    .agg (vs := [.int .i64 x, .int .i64 y]) rfl fun i k1 k2 => by
      match i, k1 with
      | 0, _ => exact .int
      | 1, _ => exact .int
  have hrv : Rvs (fun i => i) (fun _ => False) W None_ [.agg [.int .i64 a0, .int .i64 b0], .agg [.int .i64 a1, .int .i64 b1]] [.agg #[.int .i64 a0, .int .i64 b0], .agg #[.int .i64 a1, .int .i64 b1]] := (.cons (rvR a0 b0) (.cons (rvR a1 b1) .nil))
  refine (e8_ok [.agg [.int .i64 a0, .int .i64 b0], .agg [.int .i64 a1, .int .i64 b1]] (.ret (.bool true)) rfl (fun i => i) (fun _ => False) W [.agg #[.int .i64 a0, .int .i64 b0], .agg #[.int .i64 a1, .int .i64 b1]] (fun _ h => h.elim) (inv_of_laid hL) hrv).mono fun e W' ⟨hbel, u, he, hu⟩ => ?_
  subst he
  rw [hu.of_bool]
  refine ⟨_, rfl, _, _, _, [], [], [], hW', ?_, ?_, rfl, hbel.frame _, fun h => by cases h⟩
  · exact trodAll_mk1 (shut_bool Tryd.underlying4 true)
  · exact trodAll_mk2 (readsR wa0 wb0) (readsR wa1 wb1)
theorem ratioArithmetic_holds : Rows.RatioArithmeticSaid :=
  OpenClaim.holds_of_wide 8 Tryd.f8 rfl rfl rfl rfl rfl rfl rfl ⟨rfl, rfl, rfl, rfl, rfl⟩ rfl rfl rfl rfl rfl (by kernel_rfl) Tryd.func8 (by kernel_rfl)
    (of_decide_eq_true (by kernel_rfl)) (by unfold Func.isWrapper; first | (rw [if_pos (by decide +kernel)]; kernel_rfl) | (rw [if_neg (by decide +kernel)]; exact ⟨rfl, rfl⟩))
    (fun os started H enc _ => ratioArithmetic_lifted os started H enc)
theorem ratioArithmetic_card : Rows.RatioArithmeticCardSaid :=
  Claim7.holds_tied_plain_at .later [] [.data, .data, .data] true (true, "1379b761534bc6fcd36d08c11d6da8ef3fefd5fae7e448a1bfb79f481a6f43dc") true
    ratioArithmetic_holds (fun _ h => by cases h) (by kernel_rfl) (fun _ h => by cases h) ratioArithmetic_row_tie rfl ⟨rfl, rfl⟩ (by kernel_rfl) rfl
    (fun f fn hf hfn => by
      obtain rfl : f = 8 := Option.some.inj ((show Tryd.prog.funcNamed "lookout/lookoutlaw03.RatioArithmetic" = some 8 by kernel_rfl).symm.trans hf) |>.symm
      obtain rfl : fn = Tryd.f8 := (Option.some.inj (Tryd.func8.symm.trans hfn)).symm
      exact ⟨by kernel_rfl, fun j t ht => by
        rw [Tryd.params8] at ht
        have hm : t ∈ [23, 23] := by simpa using Array.mem_of_getElem? ht
        have hall : ([23, 23].all fun u => !Tryd.prog.wantsStandIn u) = true := by kernel_rfl
        exact (show Tryd.prog.wantsStandIn t = false by simpa using List.all_eq_true.1 hall t hm)⟩)
    (by kernel_rfl)
#print axioms ratioArithmetic_card
end Go.Proofs.YtekkphoingjidaaDoor
