/- The reference's Make, and Make in merged form: contracts. Conditions: none beyond the context's. -/
import Derived.Test.YtebiafgcnmnacaaVCore4
/- The ways of the reference wide numbers. No condition. -/
namespace Go.Proofs.Ytebiafgcnmnacaa
open Go.Evl Go.RowKit
def w56_c0 (x _y : Int) : Bool := x == 0
def w56_c1 (_x y : Int) : Bool := y == 0
def w56_c2 (x _y : Int) : Bool := decide (x < 0)
def w56_c3 (_x y : Int) : Bool := decide (y < 0)
def w56_c4 (x _y : Int) : Bool := decide (-9223372036854775808 < x) && decide (x < 9223372036854775808)
def w56_c5 (_x y : Int) : Bool := decide (-9223372036854775808 < y) && decide (y < 9223372036854775808)
theorem w56_0_ok (x y : Int) (hALL : allB [(w56_c0 x y, true)] = true) : (evFnT Try.prog (spOf [e41]) (inlOf []) extD (cKD [e41] []) (fun _ => .unroll 0) Try.f38 [.int .i64 x, .int .i64 y] [] (fun r _ => .ofOpt (some r))).run = some (Res.ret (AV.agg [AV.int IntKind.i64 0, AV.int IntKind.i64 0, AV.int IntKind.i64 0]) : Res) := way (gs := [true, true, true]) (by kernel_rfl) hALL
theorem w56_1_ok (x y : Int) (hALL : allB [(w56_c0 x y, false), (w56_c1 x y, true)] = true) : (evFnT Try.prog (spOf [e41]) (inlOf []) extD (cKD [e41] []) (fun _ => .unroll 0) Try.f38 [.int .i64 x, .int .i64 y] [] (fun r _ => .ofOpt (some r))).run = some (Res.ret (AV.agg [AV.int IntKind.i64 0, AV.int IntKind.i64 0, AV.int IntKind.i64 0]) : Res) := way (gs := [false, false, true, true]) (by kernel_rfl) hALL
theorem w56_2_ok (x y : Int) (hALL : allB [(w56_c0 x y, false), (w56_c1 x y, false), (w56_c2 x y, true), (w56_c3 x y, true), (w56_c4 x y, true), (w56_c5 x y, true)] = true) : (evFnT Try.prog (spOf [e41]) (inlOf []) extD (cKD [e41] []) (fun _ => .unroll 0) Try.f38 [.int .i64 x, .int .i64 y] [] (fun r _ => .ofOpt (some r))).run = some (Res.ret
  (AV.agg
    [AV.int IntKind.i64 1,
      AV.int IntKind.i64
        (IntKind.i64.wrap
          (IntKind.i64.wrap
              (IntKind.i64.wrap
                  (IntKind.i64.wrap ((absI x).tdiv 1073741824) * IntKind.i64.wrap ((absI y).tdiv 1073741824)) +
                IntKind.i64.wrap
                  ((IntKind.i64.wrap
                        (IntKind.i64.wrap (IntKind.i64.wrap ((absI x).tdiv 1073741824) * (absI y).tmod 1073741824) +
                          IntKind.i64.wrap
                            ((absI x).tmod 1073741824 * IntKind.i64.wrap ((absI y).tdiv 1073741824)))).tdiv
                    1073741824)) +
            IntKind.i64.wrap
              ((IntKind.i64.wrap
                    (IntKind.i64.wrap ((absI x).tmod 1073741824 * (absI y).tmod 1073741824) +
                      IntKind.i64.wrap
                        ((IntKind.i64.wrap
                                (IntKind.i64.wrap
                                    (IntKind.i64.wrap ((absI x).tdiv 1073741824) * (absI y).tmod 1073741824) +
                                  IntKind.i64.wrap
                                    ((absI x).tmod 1073741824 * IntKind.i64.wrap ((absI y).tdiv 1073741824)))).tmod
                            1073741824 *
                          1073741824))).tdiv
                1152921504606846976))),
      AV.int IntKind.i64
        ((IntKind.i64.wrap
              (IntKind.i64.wrap ((absI x).tmod 1073741824 * (absI y).tmod 1073741824) +
                IntKind.i64.wrap
                  ((IntKind.i64.wrap
                          (IntKind.i64.wrap (IntKind.i64.wrap ((absI x).tdiv 1073741824) * (absI y).tmod 1073741824) +
                            IntKind.i64.wrap
                              ((absI x).tmod 1073741824 * IntKind.i64.wrap ((absI y).tdiv 1073741824)))).tmod
                      1073741824 *
                    1073741824))).tmod
          1152921504606846976)]) : Res) := way (gs := [false, false, false, false, true, true, false, true, true]) (by kernel_rfl) hALL
theorem w56_3_ok (x y : Int) (hALL : allB [(w56_c0 x y, false), (w56_c1 x y, false), (w56_c2 x y, true), (w56_c3 x y, false), (w56_c4 x y, true), (w56_c5 x y, true)] = true) : (evFnT Try.prog (spOf [e41]) (inlOf []) extD (cKD [e41] []) (fun _ => .unroll 0) Try.f38 [.int .i64 x, .int .i64 y] [] (fun r _ => .ofOpt (some r))).run = some (Res.ret
  (AV.agg
    [AV.int IntKind.i64 (-1),
      AV.int IntKind.i64
        (IntKind.i64.wrap
          (IntKind.i64.wrap
              (IntKind.i64.wrap
                  (IntKind.i64.wrap ((absI x).tdiv 1073741824) * IntKind.i64.wrap ((absI y).tdiv 1073741824)) +
                IntKind.i64.wrap
                  ((IntKind.i64.wrap
                        (IntKind.i64.wrap (IntKind.i64.wrap ((absI x).tdiv 1073741824) * (absI y).tmod 1073741824) +
                          IntKind.i64.wrap
                            ((absI x).tmod 1073741824 * IntKind.i64.wrap ((absI y).tdiv 1073741824)))).tdiv
                    1073741824)) +
            IntKind.i64.wrap
              ((IntKind.i64.wrap
                    (IntKind.i64.wrap ((absI x).tmod 1073741824 * (absI y).tmod 1073741824) +
                      IntKind.i64.wrap
                        ((IntKind.i64.wrap
                                (IntKind.i64.wrap
                                    (IntKind.i64.wrap ((absI x).tdiv 1073741824) * (absI y).tmod 1073741824) +
                                  IntKind.i64.wrap
                                    ((absI x).tmod 1073741824 * IntKind.i64.wrap ((absI y).tdiv 1073741824)))).tmod
                            1073741824 *
                          1073741824))).tdiv
                1152921504606846976))),
      AV.int IntKind.i64
        ((IntKind.i64.wrap
              (IntKind.i64.wrap ((absI x).tmod 1073741824 * (absI y).tmod 1073741824) +
                IntKind.i64.wrap
                  ((IntKind.i64.wrap
                          (IntKind.i64.wrap (IntKind.i64.wrap ((absI x).tdiv 1073741824) * (absI y).tmod 1073741824) +
                            IntKind.i64.wrap
                              ((absI x).tmod 1073741824 * IntKind.i64.wrap ((absI y).tdiv 1073741824)))).tmod
                      1073741824 *
                    1073741824))).tmod
          1152921504606846976)]) : Res) := way (gs := [false, false, false, false, true, false, true, true, true]) (by kernel_rfl) hALL
theorem w56_4_ok (x y : Int) (hALL : allB [(w56_c0 x y, false), (w56_c1 x y, false), (w56_c2 x y, false), (w56_c3 x y, true), (w56_c4 x y, true), (w56_c5 x y, true)] = true) : (evFnT Try.prog (spOf [e41]) (inlOf []) extD (cKD [e41] []) (fun _ => .unroll 0) Try.f38 [.int .i64 x, .int .i64 y] [] (fun r _ => .ofOpt (some r))).run = some (Res.ret
  (AV.agg
    [AV.int IntKind.i64 (-1),
      AV.int IntKind.i64
        (IntKind.i64.wrap
          (IntKind.i64.wrap
              (IntKind.i64.wrap
                  (IntKind.i64.wrap ((absI x).tdiv 1073741824) * IntKind.i64.wrap ((absI y).tdiv 1073741824)) +
                IntKind.i64.wrap
                  ((IntKind.i64.wrap
                        (IntKind.i64.wrap (IntKind.i64.wrap ((absI x).tdiv 1073741824) * (absI y).tmod 1073741824) +
                          IntKind.i64.wrap
                            ((absI x).tmod 1073741824 * IntKind.i64.wrap ((absI y).tdiv 1073741824)))).tdiv
                    1073741824)) +
            IntKind.i64.wrap
              ((IntKind.i64.wrap
                    (IntKind.i64.wrap ((absI x).tmod 1073741824 * (absI y).tmod 1073741824) +
                      IntKind.i64.wrap
                        ((IntKind.i64.wrap
                                (IntKind.i64.wrap
                                    (IntKind.i64.wrap ((absI x).tdiv 1073741824) * (absI y).tmod 1073741824) +
                                  IntKind.i64.wrap
                                    ((absI x).tmod 1073741824 * IntKind.i64.wrap ((absI y).tdiv 1073741824)))).tmod
                            1073741824 *
                          1073741824))).tdiv
                1152921504606846976))),
      AV.int IntKind.i64
        ((IntKind.i64.wrap
              (IntKind.i64.wrap ((absI x).tmod 1073741824 * (absI y).tmod 1073741824) +
                IntKind.i64.wrap
                  ((IntKind.i64.wrap
                          (IntKind.i64.wrap (IntKind.i64.wrap ((absI x).tdiv 1073741824) * (absI y).tmod 1073741824) +
                            IntKind.i64.wrap
                              ((absI x).tmod 1073741824 * IntKind.i64.wrap ((absI y).tdiv 1073741824)))).tmod
                      1073741824 *
                    1073741824))).tmod
          1152921504606846976)]) : Res) := way (gs := [false, false, false, false, false, true, true, true, true]) (by kernel_rfl) hALL
theorem w56_5_ok (x y : Int) (hALL : allB [(w56_c0 x y, false), (w56_c1 x y, false), (w56_c2 x y, false), (w56_c3 x y, false), (w56_c4 x y, true), (w56_c5 x y, true)] = true) : (evFnT Try.prog (spOf [e41]) (inlOf []) extD (cKD [e41] []) (fun _ => .unroll 0) Try.f38 [.int .i64 x, .int .i64 y] [] (fun r _ => .ofOpt (some r))).run = some (Res.ret
  (AV.agg
    [AV.int IntKind.i64 1,
      AV.int IntKind.i64
        (IntKind.i64.wrap
          (IntKind.i64.wrap
              (IntKind.i64.wrap
                  (IntKind.i64.wrap ((absI x).tdiv 1073741824) * IntKind.i64.wrap ((absI y).tdiv 1073741824)) +
                IntKind.i64.wrap
                  ((IntKind.i64.wrap
                        (IntKind.i64.wrap (IntKind.i64.wrap ((absI x).tdiv 1073741824) * (absI y).tmod 1073741824) +
                          IntKind.i64.wrap
                            ((absI x).tmod 1073741824 * IntKind.i64.wrap ((absI y).tdiv 1073741824)))).tdiv
                    1073741824)) +
            IntKind.i64.wrap
              ((IntKind.i64.wrap
                    (IntKind.i64.wrap ((absI x).tmod 1073741824 * (absI y).tmod 1073741824) +
                      IntKind.i64.wrap
                        ((IntKind.i64.wrap
                                (IntKind.i64.wrap
                                    (IntKind.i64.wrap ((absI x).tdiv 1073741824) * (absI y).tmod 1073741824) +
                                  IntKind.i64.wrap
                                    ((absI x).tmod 1073741824 * IntKind.i64.wrap ((absI y).tdiv 1073741824)))).tmod
                            1073741824 *
                          1073741824))).tdiv
                1152921504606846976))),
      AV.int IntKind.i64
        ((IntKind.i64.wrap
              (IntKind.i64.wrap ((absI x).tmod 1073741824 * (absI y).tmod 1073741824) +
                IntKind.i64.wrap
                  ((IntKind.i64.wrap
                          (IntKind.i64.wrap (IntKind.i64.wrap ((absI x).tdiv 1073741824) * (absI y).tmod 1073741824) +
                            IntKind.i64.wrap
                              ((absI x).tmod 1073741824 * IntKind.i64.wrap ((absI y).tdiv 1073741824)))).tmod
                      1073741824 *
                    1073741824))).tmod
          1152921504606846976)]) : Res) := way (gs := [false, false, false, false, false, false, false, true, true]) (by kernel_rfl) hALL
theorem w56_cases (x y : Int) {Q : Option (Res) → Prop} (H4 : (x == 0) = false → (y == 0) = false → (decide (-9223372036854775808 < x) && decide (x < 9223372036854775808)) = true) (H5 : (x == 0) = false → (y == 0) = false → (decide (-9223372036854775808 < y) && decide (y < 9223372036854775808)) = true)
  (L0 : (x == 0) = true → Q (some (Res.ret (AV.agg [AV.int IntKind.i64 0, AV.int IntKind.i64 0, AV.int IntKind.i64 0]))))
  (L1 : (x == 0) = false → (y == 0) = true → Q (some (Res.ret (AV.agg [AV.int IntKind.i64 0, AV.int IntKind.i64 0, AV.int IntKind.i64 0]))))
  (L2 : (x == 0) = false → (y == 0) = false → (decide (x < 0)) = true → (decide (y < 0)) = true → Q (some (Res.ret
  (AV.agg
    [AV.int IntKind.i64 1,
      AV.int IntKind.i64
        (IntKind.i64.wrap
          (IntKind.i64.wrap
              (IntKind.i64.wrap
                  (IntKind.i64.wrap ((absI x).tdiv 1073741824) * IntKind.i64.wrap ((absI y).tdiv 1073741824)) +
                IntKind.i64.wrap
                  ((IntKind.i64.wrap
                        (IntKind.i64.wrap (IntKind.i64.wrap ((absI x).tdiv 1073741824) * (absI y).tmod 1073741824) +
                          IntKind.i64.wrap
                            ((absI x).tmod 1073741824 * IntKind.i64.wrap ((absI y).tdiv 1073741824)))).tdiv
                    1073741824)) +
            IntKind.i64.wrap
              ((IntKind.i64.wrap
                    (IntKind.i64.wrap ((absI x).tmod 1073741824 * (absI y).tmod 1073741824) +
                      IntKind.i64.wrap
                        ((IntKind.i64.wrap
                                (IntKind.i64.wrap
                                    (IntKind.i64.wrap ((absI x).tdiv 1073741824) * (absI y).tmod 1073741824) +
                                  IntKind.i64.wrap
                                    ((absI x).tmod 1073741824 * IntKind.i64.wrap ((absI y).tdiv 1073741824)))).tmod
                            1073741824 *
                          1073741824))).tdiv
                1152921504606846976))),
      AV.int IntKind.i64
        ((IntKind.i64.wrap
              (IntKind.i64.wrap ((absI x).tmod 1073741824 * (absI y).tmod 1073741824) +
                IntKind.i64.wrap
                  ((IntKind.i64.wrap
                          (IntKind.i64.wrap (IntKind.i64.wrap ((absI x).tdiv 1073741824) * (absI y).tmod 1073741824) +
                            IntKind.i64.wrap
                              ((absI x).tmod 1073741824 * IntKind.i64.wrap ((absI y).tdiv 1073741824)))).tmod
                      1073741824 *
                    1073741824))).tmod
          1152921504606846976)]))))
  (L3 : (x == 0) = false → (y == 0) = false → (decide (x < 0)) = true → (decide (y < 0)) = false → Q (some (Res.ret
  (AV.agg
    [AV.int IntKind.i64 (-1),
      AV.int IntKind.i64
        (IntKind.i64.wrap
          (IntKind.i64.wrap
              (IntKind.i64.wrap
                  (IntKind.i64.wrap ((absI x).tdiv 1073741824) * IntKind.i64.wrap ((absI y).tdiv 1073741824)) +
                IntKind.i64.wrap
                  ((IntKind.i64.wrap
                        (IntKind.i64.wrap (IntKind.i64.wrap ((absI x).tdiv 1073741824) * (absI y).tmod 1073741824) +
                          IntKind.i64.wrap
                            ((absI x).tmod 1073741824 * IntKind.i64.wrap ((absI y).tdiv 1073741824)))).tdiv
                    1073741824)) +
            IntKind.i64.wrap
              ((IntKind.i64.wrap
                    (IntKind.i64.wrap ((absI x).tmod 1073741824 * (absI y).tmod 1073741824) +
                      IntKind.i64.wrap
                        ((IntKind.i64.wrap
                                (IntKind.i64.wrap
                                    (IntKind.i64.wrap ((absI x).tdiv 1073741824) * (absI y).tmod 1073741824) +
                                  IntKind.i64.wrap
                                    ((absI x).tmod 1073741824 * IntKind.i64.wrap ((absI y).tdiv 1073741824)))).tmod
                            1073741824 *
                          1073741824))).tdiv
                1152921504606846976))),
      AV.int IntKind.i64
        ((IntKind.i64.wrap
              (IntKind.i64.wrap ((absI x).tmod 1073741824 * (absI y).tmod 1073741824) +
                IntKind.i64.wrap
                  ((IntKind.i64.wrap
                          (IntKind.i64.wrap (IntKind.i64.wrap ((absI x).tdiv 1073741824) * (absI y).tmod 1073741824) +
                            IntKind.i64.wrap
                              ((absI x).tmod 1073741824 * IntKind.i64.wrap ((absI y).tdiv 1073741824)))).tmod
                      1073741824 *
                    1073741824))).tmod
          1152921504606846976)]))))
  (L4 : (x == 0) = false → (y == 0) = false → (decide (x < 0)) = false → (decide (y < 0)) = true → Q (some (Res.ret
  (AV.agg
    [AV.int IntKind.i64 (-1),
      AV.int IntKind.i64
        (IntKind.i64.wrap
          (IntKind.i64.wrap
              (IntKind.i64.wrap
                  (IntKind.i64.wrap ((absI x).tdiv 1073741824) * IntKind.i64.wrap ((absI y).tdiv 1073741824)) +
                IntKind.i64.wrap
                  ((IntKind.i64.wrap
                        (IntKind.i64.wrap (IntKind.i64.wrap ((absI x).tdiv 1073741824) * (absI y).tmod 1073741824) +
                          IntKind.i64.wrap
                            ((absI x).tmod 1073741824 * IntKind.i64.wrap ((absI y).tdiv 1073741824)))).tdiv
                    1073741824)) +
            IntKind.i64.wrap
              ((IntKind.i64.wrap
                    (IntKind.i64.wrap ((absI x).tmod 1073741824 * (absI y).tmod 1073741824) +
                      IntKind.i64.wrap
                        ((IntKind.i64.wrap
                                (IntKind.i64.wrap
                                    (IntKind.i64.wrap ((absI x).tdiv 1073741824) * (absI y).tmod 1073741824) +
                                  IntKind.i64.wrap
                                    ((absI x).tmod 1073741824 * IntKind.i64.wrap ((absI y).tdiv 1073741824)))).tmod
                            1073741824 *
                          1073741824))).tdiv
                1152921504606846976))),
      AV.int IntKind.i64
        ((IntKind.i64.wrap
              (IntKind.i64.wrap ((absI x).tmod 1073741824 * (absI y).tmod 1073741824) +
                IntKind.i64.wrap
                  ((IntKind.i64.wrap
                          (IntKind.i64.wrap (IntKind.i64.wrap ((absI x).tdiv 1073741824) * (absI y).tmod 1073741824) +
                            IntKind.i64.wrap
                              ((absI x).tmod 1073741824 * IntKind.i64.wrap ((absI y).tdiv 1073741824)))).tmod
                      1073741824 *
                    1073741824))).tmod
          1152921504606846976)]))))
  (L5 : (x == 0) = false → (y == 0) = false → (decide (x < 0)) = false → (decide (y < 0)) = false → Q (some (Res.ret
  (AV.agg
    [AV.int IntKind.i64 1,
      AV.int IntKind.i64
        (IntKind.i64.wrap
          (IntKind.i64.wrap
              (IntKind.i64.wrap
                  (IntKind.i64.wrap ((absI x).tdiv 1073741824) * IntKind.i64.wrap ((absI y).tdiv 1073741824)) +
                IntKind.i64.wrap
                  ((IntKind.i64.wrap
                        (IntKind.i64.wrap (IntKind.i64.wrap ((absI x).tdiv 1073741824) * (absI y).tmod 1073741824) +
                          IntKind.i64.wrap
                            ((absI x).tmod 1073741824 * IntKind.i64.wrap ((absI y).tdiv 1073741824)))).tdiv
                    1073741824)) +
            IntKind.i64.wrap
              ((IntKind.i64.wrap
                    (IntKind.i64.wrap ((absI x).tmod 1073741824 * (absI y).tmod 1073741824) +
                      IntKind.i64.wrap
                        ((IntKind.i64.wrap
                                (IntKind.i64.wrap
                                    (IntKind.i64.wrap ((absI x).tdiv 1073741824) * (absI y).tmod 1073741824) +
                                  IntKind.i64.wrap
                                    ((absI x).tmod 1073741824 * IntKind.i64.wrap ((absI y).tdiv 1073741824)))).tmod
                            1073741824 *
                          1073741824))).tdiv
                1152921504606846976))),
      AV.int IntKind.i64
        ((IntKind.i64.wrap
              (IntKind.i64.wrap ((absI x).tmod 1073741824 * (absI y).tmod 1073741824) +
                IntKind.i64.wrap
                  ((IntKind.i64.wrap
                          (IntKind.i64.wrap (IntKind.i64.wrap ((absI x).tdiv 1073741824) * (absI y).tmod 1073741824) +
                            IntKind.i64.wrap
                              ((absI x).tmod 1073741824 * IntKind.i64.wrap ((absI y).tdiv 1073741824)))).tmod
                      1073741824 *
                    1073741824))).tmod
          1152921504606846976)])))) : Q (evFnT Try.prog (spOf [e41]) (inlOf []) extD (cKD [e41] []) (fun _ => .unroll 0) Try.f38 [.int .i64 x, .int .i64 y] [] (fun r _ => .ofOpt (some r))).run := by
  cases k0 : w56_c0 x y
  ·
    cases k1 : w56_c1 x y
    ·
      cases k2 : w56_c2 x y
      ·
        cases k3 : w56_c3 x y
        ·
          have k4 : w56_c4 x y = true := H4 k0 k1
          have k5 : w56_c5 x y = true := H5 k0 k1
          rw [w56_5_ok x y (allB_f k0 (allB_f k1 (allB_f k2 (allB_f k3 (allB_t k4 (allB_t k5 allB_nil))))))]
          exact L5 k0 k1 k2 k3
        ·
          have k4 : w56_c4 x y = true := H4 k0 k1
          have k5 : w56_c5 x y = true := H5 k0 k1
          rw [w56_4_ok x y (allB_f k0 (allB_f k1 (allB_f k2 (allB_t k3 (allB_t k4 (allB_t k5 allB_nil))))))]
          exact L4 k0 k1 k2 k3
      ·
        cases k3 : w56_c3 x y
        ·
          have k4 : w56_c4 x y = true := H4 k0 k1
          have k5 : w56_c5 x y = true := H5 k0 k1
          rw [w56_3_ok x y (allB_f k0 (allB_f k1 (allB_t k2 (allB_f k3 (allB_t k4 (allB_t k5 allB_nil))))))]
          exact L3 k0 k1 k2 k3
        ·
          have k4 : w56_c4 x y = true := H4 k0 k1
          have k5 : w56_c5 x y = true := H5 k0 k1
          rw [w56_2_ok x y (allB_f k0 (allB_f k1 (allB_t k2 (allB_t k3 (allB_t k4 (allB_t k5 allB_nil))))))]
          exact L2 k0 k1 k2 k3
    ·
      rw [w56_1_ok x y (allB_f k0 (allB_t k1 allB_nil))]
      exact L1 k0 k1
  ·
    rw [w56_0_ok x y (allB_t k0 allB_nil)]
    exact L0 k0
def w71_c0 (_s h _l _t g _k : Int) : Bool := decide (h < g)
def w71_c1 (_s h _l _t g _k : Int) : Bool := h == g
def w71_c2 (_s _h l _t _g k : Int) : Bool := decide (l < k)
theorem w71_0_ok (s h l t g k : Int) (hALL : allB [(w71_c0 s h l t g k, true)] = true) : (evFnT Try.prog (spOf []) (inlOf []) extD (cKD [] []) (fun _ => .unroll 0) Try.f55 [.agg [.int .i64 s, .int .i64 h, .int .i64 l], .agg [.int .i64 t, .int .i64 g, .int .i64 k]] [] (fun r _ => .ofOpt (some r))).run = some (Res.ret (AV.bool true) : Res) := way (gs := [false, true, true, true, true]) (by kernel_rfl) hALL
theorem w71_1_ok (s h l t g k : Int) (hALL : allB [(w71_c0 s h l t g k, false), (w71_c1 s h l t g k, true), (w71_c2 s h l t g k, true)] = true) : (evFnT Try.prog (spOf []) (inlOf []) extD (cKD [] []) (fun _ => .unroll 0) Try.f55 [.agg [.int .i64 s, .int .i64 h, .int .i64 l], .agg [.int .i64 t, .int .i64 g, .int .i64 k]] [] (fun r _ => .ofOpt (some r))).run = some (Res.ret (AV.bool true) : Res) := way (gs := [false, false, false, true, true, true, true, true, true]) (by kernel_rfl) hALL
theorem w71_2_ok (s h l t g k : Int) (hALL : allB [(w71_c0 s h l t g k, false), (w71_c1 s h l t g k, true), (w71_c2 s h l t g k, false)] = true) : (evFnT Try.prog (spOf []) (inlOf []) extD (cKD [] []) (fun _ => .unroll 0) Try.f55 [.agg [.int .i64 s, .int .i64 h, .int .i64 l], .agg [.int .i64 t, .int .i64 g, .int .i64 k]] [] (fun r _ => .ofOpt (some r))).run = some (Res.ret (AV.bool false) : Res) := way (gs := [false, false, false, true, true, false, false, false, false]) (by kernel_rfl) hALL
theorem w71_3_ok (s h l t g k : Int) (hALL : allB [(w71_c0 s h l t g k, false), (w71_c1 s h l t g k, false)] = true) : (evFnT Try.prog (spOf []) (inlOf []) extD (cKD [] []) (fun _ => .unroll 0) Try.f55 [.agg [.int .i64 s, .int .i64 h, .int .i64 l], .agg [.int .i64 t, .int .i64 g, .int .i64 k]] [] (fun r _ => .ofOpt (some r))).run = some (Res.ret (AV.bool false) : Res) := way (gs := [false, false, false, false, false, false, false, false]) (by kernel_rfl) hALL
theorem w71_cases (s h l t g k : Int) {Q : Option (Res) → Prop} 
  (L0 : (decide (h < g)) = true → Q (some (Res.ret (AV.bool true))))
  (L1 : (decide (h < g)) = false → (h == g) = true → (decide (l < k)) = true → Q (some (Res.ret (AV.bool true))))
  (L2 : (decide (h < g)) = false → (h == g) = true → (decide (l < k)) = false → Q (some (Res.ret (AV.bool false))))
  (L3 : (decide (h < g)) = false → (h == g) = false → Q (some (Res.ret (AV.bool false)))) : Q (evFnT Try.prog (spOf []) (inlOf []) extD (cKD [] []) (fun _ => .unroll 0) Try.f55 [.agg [.int .i64 s, .int .i64 h, .int .i64 l], .agg [.int .i64 t, .int .i64 g, .int .i64 k]] [] (fun r _ => .ofOpt (some r))).run := by
  cases k0 : w71_c0 s h l t g k
  ·
    cases k1 : w71_c1 s h l t g k
    ·
      rw [w71_3_ok s h l t g k (allB_f k0 (allB_f k1 allB_nil))]
      exact L3 k0 k1
    ·
      cases k2 : w71_c2 s h l t g k
      ·
        rw [w71_2_ok s h l t g k (allB_f k0 (allB_t k1 (allB_f k2 allB_nil)))]
        exact L2 k0 k1 k2
      ·
        rw [w71_1_ok s h l t g k (allB_f k0 (allB_t k1 (allB_t k2 allB_nil)))]
        exact L1 k0 k1 k2
  ·
    rw [w71_0_ok s h l t g k (allB_t k0 allB_nil)]
    exact L0 k0
def w55_c0 (s _h _l _t _g _k : Int) : Bool := s == 0
def w55_c1 (_s _h _l t _g _k : Int) : Bool := t == 0
def w55_c2 (s _h _l t _g _k : Int) : Bool := s == t
def w55_c3 (s h l t g k : Int) : Bool := isW s h l && isW t g k
def w55_c4 (_s h l _t g k : Int) : Bool := decide (h * 1152921504606846976 + l < g * 1152921504606846976 + k)
def w55_c5 (_s _h l _t _g k : Int) : Bool := decide (IntKind.i64.wrap (k - l) < 0)
def w55_c6 (_s h _l _t g _k : Int) : Bool := IntKind.i64.wrap (IntKind.i64.wrap (g - h) - 1) == 0
def w55_c7 (_s _h l _t _g k : Int) : Bool := IntKind.i64.wrap (IntKind.i64.wrap (k - l) + 1152921504606846976) == 0
def w55_c8 (_s h _l _t g _k : Int) : Bool := IntKind.i64.wrap (g - h) == 0
def w55_c9 (_s _h l _t _g k : Int) : Bool := IntKind.i64.wrap (k - l) == 0
def w55_c10 (_s _h l _t _g k : Int) : Bool := decide (IntKind.i64.wrap (l - k) < 0)
def w55_c11 (_s h _l _t g _k : Int) : Bool := IntKind.i64.wrap (IntKind.i64.wrap (h - g) - 1) == 0
def w55_c12 (_s _h l _t _g k : Int) : Bool := IntKind.i64.wrap (IntKind.i64.wrap (l - k) + 1152921504606846976) == 0
def w55_c13 (_s h _l _t g _k : Int) : Bool := IntKind.i64.wrap (h - g) == 0
def w55_c14 (_s _h l _t _g k : Int) : Bool := IntKind.i64.wrap (l - k) == 0
theorem w55_0_ok (s h l t g k : Int) (hALL : allB [(w55_c0 s h l t g k, true)] = true) : (evFnT Try.prog (spOf [e71]) (inlOf []) extD (cKD [e71] []) (fun _ => .unroll 0) Try.f37 [.agg [.int .i64 s, .int .i64 h, .int .i64 l], .agg [.int .i64 t, .int .i64 g, .int .i64 k]] [] (fun r _ => .ofOpt (some r))).run = some (Res.ret (AV.agg [AV.int IntKind.i64 t, AV.int IntKind.i64 g, AV.int IntKind.i64 k]) : Res) := way (gs := [true]) (by kernel_rfl) hALL
theorem w55_1_ok (s h l t g k : Int) (hALL : allB [(w55_c0 s h l t g k, false), (w55_c1 s h l t g k, true)] = true) : (evFnT Try.prog (spOf [e71]) (inlOf []) extD (cKD [e71] []) (fun _ => .unroll 0) Try.f37 [.agg [.int .i64 s, .int .i64 h, .int .i64 l], .agg [.int .i64 t, .int .i64 g, .int .i64 k]] [] (fun r _ => .ofOpt (some r))).run = some (Res.ret (AV.agg [AV.int IntKind.i64 s, AV.int IntKind.i64 h, AV.int IntKind.i64 l]) : Res) := way (gs := [false, true]) (by kernel_rfl) hALL
theorem w55_2_ok (s h l t g k : Int) (hALL : allB [(w55_c0 s h l t g k, false), (w55_c1 s h l t g k, false), (w55_c2 s h l t g k, true)] = true) : (evFnT Try.prog (spOf [e71]) (inlOf []) extD (cKD [e71] []) (fun _ => .unroll 0) Try.f37 [.agg [.int .i64 s, .int .i64 h, .int .i64 l], .agg [.int .i64 t, .int .i64 g, .int .i64 k]] [] (fun r _ => .ofOpt (some r))).run = some (Res.ret
  (AV.agg
    [AV.int IntKind.i64 s,
      AV.int IntKind.i64
        (IntKind.i64.wrap
          (IntKind.i64.wrap (h + g) + IntKind.i64.wrap ((IntKind.i64.wrap (l + k)).tdiv 1152921504606846976))),
      AV.int IntKind.i64 ((IntKind.i64.wrap (l + k)).tmod 1152921504606846976)]) : Res) := way (gs := [false, false, true]) (by kernel_rfl) hALL
theorem w55_3_ok (s h l t g k : Int) (hALL : allB [(w55_c0 s h l t g k, false), (w55_c1 s h l t g k, false), (w55_c2 s h l t g k, false), (w55_c3 s h l t g k, true), (w55_c4 s h l t g k, true), (w55_c5 s h l t g k, true), (w55_c6 s h l t g k, true), (w55_c7 s h l t g k, true)] = true) : (evFnT Try.prog (spOf [e71]) (inlOf []) extD (cKD [e71] []) (fun _ => .unroll 0) Try.f37 [.agg [.int .i64 s, .int .i64 h, .int .i64 l], .agg [.int .i64 t, .int .i64 g, .int .i64 k]] [] (fun r _ => .ofOpt (some r))).run = some (Res.ret (AV.agg [AV.int IntKind.i64 0, AV.int IntKind.i64 0, AV.int IntKind.i64 0]) : Res) := way (gs := [false, false, false, true, true, true, true, true, true]) (by kernel_rfl) hALL
theorem w55_4_ok (s h l t g k : Int) (hALL : allB [(w55_c0 s h l t g k, false), (w55_c1 s h l t g k, false), (w55_c2 s h l t g k, false), (w55_c3 s h l t g k, true), (w55_c4 s h l t g k, true), (w55_c5 s h l t g k, true), (w55_c6 s h l t g k, true), (w55_c7 s h l t g k, false)] = true) : (evFnT Try.prog (spOf [e71]) (inlOf []) extD (cKD [e71] []) (fun _ => .unroll 0) Try.f37 [.agg [.int .i64 s, .int .i64 h, .int .i64 l], .agg [.int .i64 t, .int .i64 g, .int .i64 k]] [] (fun r _ => .ofOpt (some r))).run = some (Res.ret
  (AV.agg
    [AV.int IntKind.i64 t, AV.int IntKind.i64 (IntKind.i64.wrap (IntKind.i64.wrap (g - h) - 1)),
      AV.int IntKind.i64 (IntKind.i64.wrap (IntKind.i64.wrap (k - l) + 1152921504606846976))]) : Res) := way (gs := [false, false, false, true, true, true, true, false, false]) (by kernel_rfl) hALL
theorem w55_5_ok (s h l t g k : Int) (hALL : allB [(w55_c0 s h l t g k, false), (w55_c1 s h l t g k, false), (w55_c2 s h l t g k, false), (w55_c3 s h l t g k, true), (w55_c4 s h l t g k, true), (w55_c5 s h l t g k, true), (w55_c6 s h l t g k, false)] = true) : (evFnT Try.prog (spOf [e71]) (inlOf []) extD (cKD [e71] []) (fun _ => .unroll 0) Try.f37 [.agg [.int .i64 s, .int .i64 h, .int .i64 l], .agg [.int .i64 t, .int .i64 g, .int .i64 k]] [] (fun r _ => .ofOpt (some r))).run = some (Res.ret
  (AV.agg
    [AV.int IntKind.i64 t, AV.int IntKind.i64 (IntKind.i64.wrap (IntKind.i64.wrap (g - h) - 1)),
      AV.int IntKind.i64 (IntKind.i64.wrap (IntKind.i64.wrap (k - l) + 1152921504606846976))]) : Res) := way (gs := [false, false, false, true, true, false, false, false]) (by kernel_rfl) hALL
theorem w55_6_ok (s h l t g k : Int) (hALL : allB [(w55_c0 s h l t g k, false), (w55_c1 s h l t g k, false), (w55_c2 s h l t g k, false), (w55_c3 s h l t g k, true), (w55_c4 s h l t g k, true), (w55_c5 s h l t g k, false), (w55_c8 s h l t g k, true), (w55_c9 s h l t g k, true)] = true) : (evFnT Try.prog (spOf [e71]) (inlOf []) extD (cKD [e71] []) (fun _ => .unroll 0) Try.f37 [.agg [.int .i64 s, .int .i64 h, .int .i64 l], .agg [.int .i64 t, .int .i64 g, .int .i64 k]] [] (fun r _ => .ofOpt (some r))).run = some (Res.ret (AV.agg [AV.int IntKind.i64 0, AV.int IntKind.i64 0, AV.int IntKind.i64 0]) : Res) := way (gs := [false, false, false, true, false, true, true, true, true]) (by kernel_rfl) hALL
theorem w55_7_ok (s h l t g k : Int) (hALL : allB [(w55_c0 s h l t g k, false), (w55_c1 s h l t g k, false), (w55_c2 s h l t g k, false), (w55_c3 s h l t g k, true), (w55_c4 s h l t g k, true), (w55_c5 s h l t g k, false), (w55_c8 s h l t g k, true), (w55_c9 s h l t g k, false)] = true) : (evFnT Try.prog (spOf [e71]) (inlOf []) extD (cKD [e71] []) (fun _ => .unroll 0) Try.f37 [.agg [.int .i64 s, .int .i64 h, .int .i64 l], .agg [.int .i64 t, .int .i64 g, .int .i64 k]] [] (fun r _ => .ofOpt (some r))).run = some (Res.ret
  (AV.agg
    [AV.int IntKind.i64 t, AV.int IntKind.i64 (IntKind.i64.wrap (g - h)),
      AV.int IntKind.i64 (IntKind.i64.wrap (k - l))]) : Res) := way (gs := [false, false, false, true, false, true, true, false, false]) (by kernel_rfl) hALL
theorem w55_8_ok (s h l t g k : Int) (hALL : allB [(w55_c0 s h l t g k, false), (w55_c1 s h l t g k, false), (w55_c2 s h l t g k, false), (w55_c3 s h l t g k, true), (w55_c4 s h l t g k, true), (w55_c5 s h l t g k, false), (w55_c8 s h l t g k, false)] = true) : (evFnT Try.prog (spOf [e71]) (inlOf []) extD (cKD [e71] []) (fun _ => .unroll 0) Try.f37 [.agg [.int .i64 s, .int .i64 h, .int .i64 l], .agg [.int .i64 t, .int .i64 g, .int .i64 k]] [] (fun r _ => .ofOpt (some r))).run = some (Res.ret
  (AV.agg
    [AV.int IntKind.i64 t, AV.int IntKind.i64 (IntKind.i64.wrap (g - h)),
      AV.int IntKind.i64 (IntKind.i64.wrap (k - l))]) : Res) := way (gs := [false, false, false, true, false, false, false, false]) (by kernel_rfl) hALL
theorem w55_9_ok (s h l t g k : Int) (hALL : allB [(w55_c0 s h l t g k, false), (w55_c1 s h l t g k, false), (w55_c2 s h l t g k, false), (w55_c3 s h l t g k, true), (w55_c4 s h l t g k, false), (w55_c10 s h l t g k, true), (w55_c11 s h l t g k, true), (w55_c12 s h l t g k, true)] = true) : (evFnT Try.prog (spOf [e71]) (inlOf []) extD (cKD [e71] []) (fun _ => .unroll 0) Try.f37 [.agg [.int .i64 s, .int .i64 h, .int .i64 l], .agg [.int .i64 t, .int .i64 g, .int .i64 k]] [] (fun r _ => .ofOpt (some r))).run = some (Res.ret (AV.agg [AV.int IntKind.i64 0, AV.int IntKind.i64 0, AV.int IntKind.i64 0]) : Res) := way (gs := [false, false, false, false, true, true, true, true, true]) (by kernel_rfl) hALL
theorem w55_10_ok (s h l t g k : Int) (hALL : allB [(w55_c0 s h l t g k, false), (w55_c1 s h l t g k, false), (w55_c2 s h l t g k, false), (w55_c3 s h l t g k, true), (w55_c4 s h l t g k, false), (w55_c10 s h l t g k, true), (w55_c11 s h l t g k, true), (w55_c12 s h l t g k, false)] = true) : (evFnT Try.prog (spOf [e71]) (inlOf []) extD (cKD [e71] []) (fun _ => .unroll 0) Try.f37 [.agg [.int .i64 s, .int .i64 h, .int .i64 l], .agg [.int .i64 t, .int .i64 g, .int .i64 k]] [] (fun r _ => .ofOpt (some r))).run = some (Res.ret
  (AV.agg
    [AV.int IntKind.i64 s, AV.int IntKind.i64 (IntKind.i64.wrap (IntKind.i64.wrap (h - g) - 1)),
      AV.int IntKind.i64 (IntKind.i64.wrap (IntKind.i64.wrap (l - k) + 1152921504606846976))]) : Res) := way (gs := [false, false, false, false, true, true, true, false, false]) (by kernel_rfl) hALL
theorem w55_11_ok (s h l t g k : Int) (hALL : allB [(w55_c0 s h l t g k, false), (w55_c1 s h l t g k, false), (w55_c2 s h l t g k, false), (w55_c3 s h l t g k, true), (w55_c4 s h l t g k, false), (w55_c10 s h l t g k, true), (w55_c11 s h l t g k, false)] = true) : (evFnT Try.prog (spOf [e71]) (inlOf []) extD (cKD [e71] []) (fun _ => .unroll 0) Try.f37 [.agg [.int .i64 s, .int .i64 h, .int .i64 l], .agg [.int .i64 t, .int .i64 g, .int .i64 k]] [] (fun r _ => .ofOpt (some r))).run = some (Res.ret
  (AV.agg
    [AV.int IntKind.i64 s, AV.int IntKind.i64 (IntKind.i64.wrap (IntKind.i64.wrap (h - g) - 1)),
      AV.int IntKind.i64 (IntKind.i64.wrap (IntKind.i64.wrap (l - k) + 1152921504606846976))]) : Res) := way (gs := [false, false, false, false, true, false, false, false]) (by kernel_rfl) hALL
theorem w55_12_ok (s h l t g k : Int) (hALL : allB [(w55_c0 s h l t g k, false), (w55_c1 s h l t g k, false), (w55_c2 s h l t g k, false), (w55_c3 s h l t g k, true), (w55_c4 s h l t g k, false), (w55_c10 s h l t g k, false), (w55_c13 s h l t g k, true), (w55_c14 s h l t g k, true)] = true) : (evFnT Try.prog (spOf [e71]) (inlOf []) extD (cKD [e71] []) (fun _ => .unroll 0) Try.f37 [.agg [.int .i64 s, .int .i64 h, .int .i64 l], .agg [.int .i64 t, .int .i64 g, .int .i64 k]] [] (fun r _ => .ofOpt (some r))).run = some (Res.ret (AV.agg [AV.int IntKind.i64 0, AV.int IntKind.i64 0, AV.int IntKind.i64 0]) : Res) := way (gs := [false, false, false, false, false, true, true, true, true]) (by kernel_rfl) hALL
theorem w55_13_ok (s h l t g k : Int) (hALL : allB [(w55_c0 s h l t g k, false), (w55_c1 s h l t g k, false), (w55_c2 s h l t g k, false), (w55_c3 s h l t g k, true), (w55_c4 s h l t g k, false), (w55_c10 s h l t g k, false), (w55_c13 s h l t g k, true), (w55_c14 s h l t g k, false)] = true) : (evFnT Try.prog (spOf [e71]) (inlOf []) extD (cKD [e71] []) (fun _ => .unroll 0) Try.f37 [.agg [.int .i64 s, .int .i64 h, .int .i64 l], .agg [.int .i64 t, .int .i64 g, .int .i64 k]] [] (fun r _ => .ofOpt (some r))).run = some (Res.ret
  (AV.agg
    [AV.int IntKind.i64 s, AV.int IntKind.i64 (IntKind.i64.wrap (h - g)),
      AV.int IntKind.i64 (IntKind.i64.wrap (l - k))]) : Res) := way (gs := [false, false, false, false, false, true, true, false, false]) (by kernel_rfl) hALL
theorem w55_14_ok (s h l t g k : Int) (hALL : allB [(w55_c0 s h l t g k, false), (w55_c1 s h l t g k, false), (w55_c2 s h l t g k, false), (w55_c3 s h l t g k, true), (w55_c4 s h l t g k, false), (w55_c10 s h l t g k, false), (w55_c13 s h l t g k, false)] = true) : (evFnT Try.prog (spOf [e71]) (inlOf []) extD (cKD [e71] []) (fun _ => .unroll 0) Try.f37 [.agg [.int .i64 s, .int .i64 h, .int .i64 l], .agg [.int .i64 t, .int .i64 g, .int .i64 k]] [] (fun r _ => .ofOpt (some r))).run = some (Res.ret
  (AV.agg
    [AV.int IntKind.i64 s, AV.int IntKind.i64 (IntKind.i64.wrap (h - g)),
      AV.int IntKind.i64 (IntKind.i64.wrap (l - k))]) : Res) := way (gs := [false, false, false, false, false, false, false, false]) (by kernel_rfl) hALL
theorem w55_cases (s h l t g k : Int) {Q : Option (Res) → Prop} (H3 : (s == 0) = false → (t == 0) = false → (s == t) = false → (isW s h l && isW t g k) = true)
  (L0 : (s == 0) = true → Q (some (Res.ret (AV.agg [AV.int IntKind.i64 t, AV.int IntKind.i64 g, AV.int IntKind.i64 k]))))
  (L1 : (s == 0) = false → (t == 0) = true → Q (some (Res.ret (AV.agg [AV.int IntKind.i64 s, AV.int IntKind.i64 h, AV.int IntKind.i64 l]))))
  (L2 : (s == 0) = false → (t == 0) = false → (s == t) = true → Q (some (Res.ret
  (AV.agg
    [AV.int IntKind.i64 s,
      AV.int IntKind.i64
        (IntKind.i64.wrap
          (IntKind.i64.wrap (h + g) + IntKind.i64.wrap ((IntKind.i64.wrap (l + k)).tdiv 1152921504606846976))),
      AV.int IntKind.i64 ((IntKind.i64.wrap (l + k)).tmod 1152921504606846976)]))))
  (L3 : (s == 0) = false → (t == 0) = false → (s == t) = false → (decide (h * 1152921504606846976 + l < g * 1152921504606846976 + k)) = true → (decide (IntKind.i64.wrap (k - l) < 0)) = true → (IntKind.i64.wrap (IntKind.i64.wrap (g - h) - 1) == 0) = true → (IntKind.i64.wrap (IntKind.i64.wrap (k - l) + 1152921504606846976) == 0) = true → Q (some (Res.ret (AV.agg [AV.int IntKind.i64 0, AV.int IntKind.i64 0, AV.int IntKind.i64 0]))))
  (L4 : (s == 0) = false → (t == 0) = false → (s == t) = false → (decide (h * 1152921504606846976 + l < g * 1152921504606846976 + k)) = true → (decide (IntKind.i64.wrap (k - l) < 0)) = true → (IntKind.i64.wrap (IntKind.i64.wrap (g - h) - 1) == 0) = true → (IntKind.i64.wrap (IntKind.i64.wrap (k - l) + 1152921504606846976) == 0) = false → Q (some (Res.ret
  (AV.agg
    [AV.int IntKind.i64 t, AV.int IntKind.i64 (IntKind.i64.wrap (IntKind.i64.wrap (g - h) - 1)),
      AV.int IntKind.i64 (IntKind.i64.wrap (IntKind.i64.wrap (k - l) + 1152921504606846976))]))))
  (L5 : (s == 0) = false → (t == 0) = false → (s == t) = false → (decide (h * 1152921504606846976 + l < g * 1152921504606846976 + k)) = true → (decide (IntKind.i64.wrap (k - l) < 0)) = true → (IntKind.i64.wrap (IntKind.i64.wrap (g - h) - 1) == 0) = false → Q (some (Res.ret
  (AV.agg
    [AV.int IntKind.i64 t, AV.int IntKind.i64 (IntKind.i64.wrap (IntKind.i64.wrap (g - h) - 1)),
      AV.int IntKind.i64 (IntKind.i64.wrap (IntKind.i64.wrap (k - l) + 1152921504606846976))]))))
  (L6 : (s == 0) = false → (t == 0) = false → (s == t) = false → (decide (h * 1152921504606846976 + l < g * 1152921504606846976 + k)) = true → (decide (IntKind.i64.wrap (k - l) < 0)) = false → (IntKind.i64.wrap (g - h) == 0) = true → (IntKind.i64.wrap (k - l) == 0) = true → Q (some (Res.ret (AV.agg [AV.int IntKind.i64 0, AV.int IntKind.i64 0, AV.int IntKind.i64 0]))))
  (L7 : (s == 0) = false → (t == 0) = false → (s == t) = false → (decide (h * 1152921504606846976 + l < g * 1152921504606846976 + k)) = true → (decide (IntKind.i64.wrap (k - l) < 0)) = false → (IntKind.i64.wrap (g - h) == 0) = true → (IntKind.i64.wrap (k - l) == 0) = false → Q (some (Res.ret
  (AV.agg
    [AV.int IntKind.i64 t, AV.int IntKind.i64 (IntKind.i64.wrap (g - h)),
      AV.int IntKind.i64 (IntKind.i64.wrap (k - l))]))))
  (L8 : (s == 0) = false → (t == 0) = false → (s == t) = false → (decide (h * 1152921504606846976 + l < g * 1152921504606846976 + k)) = true → (decide (IntKind.i64.wrap (k - l) < 0)) = false → (IntKind.i64.wrap (g - h) == 0) = false → Q (some (Res.ret
  (AV.agg
    [AV.int IntKind.i64 t, AV.int IntKind.i64 (IntKind.i64.wrap (g - h)),
      AV.int IntKind.i64 (IntKind.i64.wrap (k - l))]))))
  (L9 : (s == 0) = false → (t == 0) = false → (s == t) = false → (decide (h * 1152921504606846976 + l < g * 1152921504606846976 + k)) = false → (decide (IntKind.i64.wrap (l - k) < 0)) = true → (IntKind.i64.wrap (IntKind.i64.wrap (h - g) - 1) == 0) = true → (IntKind.i64.wrap (IntKind.i64.wrap (l - k) + 1152921504606846976) == 0) = true → Q (some (Res.ret (AV.agg [AV.int IntKind.i64 0, AV.int IntKind.i64 0, AV.int IntKind.i64 0]))))
  (L10 : (s == 0) = false → (t == 0) = false → (s == t) = false → (decide (h * 1152921504606846976 + l < g * 1152921504606846976 + k)) = false → (decide (IntKind.i64.wrap (l - k) < 0)) = true → (IntKind.i64.wrap (IntKind.i64.wrap (h - g) - 1) == 0) = true → (IntKind.i64.wrap (IntKind.i64.wrap (l - k) + 1152921504606846976) == 0) = false → Q (some (Res.ret
  (AV.agg
    [AV.int IntKind.i64 s, AV.int IntKind.i64 (IntKind.i64.wrap (IntKind.i64.wrap (h - g) - 1)),
      AV.int IntKind.i64 (IntKind.i64.wrap (IntKind.i64.wrap (l - k) + 1152921504606846976))]))))
  (L11 : (s == 0) = false → (t == 0) = false → (s == t) = false → (decide (h * 1152921504606846976 + l < g * 1152921504606846976 + k)) = false → (decide (IntKind.i64.wrap (l - k) < 0)) = true → (IntKind.i64.wrap (IntKind.i64.wrap (h - g) - 1) == 0) = false → Q (some (Res.ret
  (AV.agg
    [AV.int IntKind.i64 s, AV.int IntKind.i64 (IntKind.i64.wrap (IntKind.i64.wrap (h - g) - 1)),
      AV.int IntKind.i64 (IntKind.i64.wrap (IntKind.i64.wrap (l - k) + 1152921504606846976))]))))
  (L12 : (s == 0) = false → (t == 0) = false → (s == t) = false → (decide (h * 1152921504606846976 + l < g * 1152921504606846976 + k)) = false → (decide (IntKind.i64.wrap (l - k) < 0)) = false → (IntKind.i64.wrap (h - g) == 0) = true → (IntKind.i64.wrap (l - k) == 0) = true → Q (some (Res.ret (AV.agg [AV.int IntKind.i64 0, AV.int IntKind.i64 0, AV.int IntKind.i64 0]))))
  (L13 : (s == 0) = false → (t == 0) = false → (s == t) = false → (decide (h * 1152921504606846976 + l < g * 1152921504606846976 + k)) = false → (decide (IntKind.i64.wrap (l - k) < 0)) = false → (IntKind.i64.wrap (h - g) == 0) = true → (IntKind.i64.wrap (l - k) == 0) = false → Q (some (Res.ret
  (AV.agg
    [AV.int IntKind.i64 s, AV.int IntKind.i64 (IntKind.i64.wrap (h - g)),
      AV.int IntKind.i64 (IntKind.i64.wrap (l - k))]))))
  (L14 : (s == 0) = false → (t == 0) = false → (s == t) = false → (decide (h * 1152921504606846976 + l < g * 1152921504606846976 + k)) = false → (decide (IntKind.i64.wrap (l - k) < 0)) = false → (IntKind.i64.wrap (h - g) == 0) = false → Q (some (Res.ret
  (AV.agg
    [AV.int IntKind.i64 s, AV.int IntKind.i64 (IntKind.i64.wrap (h - g)),
      AV.int IntKind.i64 (IntKind.i64.wrap (l - k))])))) : Q (evFnT Try.prog (spOf [e71]) (inlOf []) extD (cKD [e71] []) (fun _ => .unroll 0) Try.f37 [.agg [.int .i64 s, .int .i64 h, .int .i64 l], .agg [.int .i64 t, .int .i64 g, .int .i64 k]] [] (fun r _ => .ofOpt (some r))).run := by
  cases k0 : w55_c0 s h l t g k
  ·
    cases k1 : w55_c1 s h l t g k
    ·
      cases k2 : w55_c2 s h l t g k
      ·
        have k3 : w55_c3 s h l t g k = true := H3 k0 k1 k2
        cases k4 : w55_c4 s h l t g k
        ·
          cases k10 : w55_c10 s h l t g k
          ·
            cases k13 : w55_c13 s h l t g k
            ·
              rw [w55_14_ok s h l t g k (allB_f k0 (allB_f k1 (allB_f k2 (allB_t k3 (allB_f k4 (allB_f k10 (allB_f k13 allB_nil)))))))]
              exact L14 k0 k1 k2 k4 k10 k13
            ·
              cases k14 : w55_c14 s h l t g k
              ·
                rw [w55_13_ok s h l t g k (allB_f k0 (allB_f k1 (allB_f k2 (allB_t k3 (allB_f k4 (allB_f k10 (allB_t k13 (allB_f k14 allB_nil))))))))]
                exact L13 k0 k1 k2 k4 k10 k13 k14
              ·
                rw [w55_12_ok s h l t g k (allB_f k0 (allB_f k1 (allB_f k2 (allB_t k3 (allB_f k4 (allB_f k10 (allB_t k13 (allB_t k14 allB_nil))))))))]
                exact L12 k0 k1 k2 k4 k10 k13 k14
          ·
            cases k11 : w55_c11 s h l t g k
            ·
              rw [w55_11_ok s h l t g k (allB_f k0 (allB_f k1 (allB_f k2 (allB_t k3 (allB_f k4 (allB_t k10 (allB_f k11 allB_nil)))))))]
              exact L11 k0 k1 k2 k4 k10 k11
            ·
              cases k12 : w55_c12 s h l t g k
              ·
                rw [w55_10_ok s h l t g k (allB_f k0 (allB_f k1 (allB_f k2 (allB_t k3 (allB_f k4 (allB_t k10 (allB_t k11 (allB_f k12 allB_nil))))))))]
                exact L10 k0 k1 k2 k4 k10 k11 k12
              ·
                rw [w55_9_ok s h l t g k (allB_f k0 (allB_f k1 (allB_f k2 (allB_t k3 (allB_f k4 (allB_t k10 (allB_t k11 (allB_t k12 allB_nil))))))))]
                exact L9 k0 k1 k2 k4 k10 k11 k12
        ·
          cases k5 : w55_c5 s h l t g k
          ·
            cases k8 : w55_c8 s h l t g k
            ·
              rw [w55_8_ok s h l t g k (allB_f k0 (allB_f k1 (allB_f k2 (allB_t k3 (allB_t k4 (allB_f k5 (allB_f k8 allB_nil)))))))]
              exact L8 k0 k1 k2 k4 k5 k8
            ·
              cases k9 : w55_c9 s h l t g k
              ·
                rw [w55_7_ok s h l t g k (allB_f k0 (allB_f k1 (allB_f k2 (allB_t k3 (allB_t k4 (allB_f k5 (allB_t k8 (allB_f k9 allB_nil))))))))]
                exact L7 k0 k1 k2 k4 k5 k8 k9
              ·
                rw [w55_6_ok s h l t g k (allB_f k0 (allB_f k1 (allB_f k2 (allB_t k3 (allB_t k4 (allB_f k5 (allB_t k8 (allB_t k9 allB_nil))))))))]
                exact L6 k0 k1 k2 k4 k5 k8 k9
          ·
            cases k6 : w55_c6 s h l t g k
            ·
              rw [w55_5_ok s h l t g k (allB_f k0 (allB_f k1 (allB_f k2 (allB_t k3 (allB_t k4 (allB_t k5 (allB_f k6 allB_nil)))))))]
              exact L5 k0 k1 k2 k4 k5 k6
            ·
              cases k7 : w55_c7 s h l t g k
              ·
                rw [w55_4_ok s h l t g k (allB_f k0 (allB_f k1 (allB_f k2 (allB_t k3 (allB_t k4 (allB_t k5 (allB_t k6 (allB_f k7 allB_nil))))))))]
                exact L4 k0 k1 k2 k4 k5 k6 k7
              ·
                rw [w55_3_ok s h l t g k (allB_f k0 (allB_f k1 (allB_f k2 (allB_t k3 (allB_t k4 (allB_t k5 (allB_t k6 (allB_t k7 allB_nil))))))))]
                exact L3 k0 k1 k2 k4 k5 k6 k7
      ·
        rw [w55_2_ok s h l t g k (allB_f k0 (allB_f k1 (allB_t k2 allB_nil)))]
        exact L2 k0 k1 k2
    ·
      rw [w55_1_ok s h l t g k (allB_f k0 (allB_t k1 allB_nil))]
      exact L1 k0 k1
  ·
    rw [w55_0_ok s h l t g k (allB_t k0 allB_nil)]
    exact L0 k0
def w72_c0 (_s h _l : Int) : Bool := decide (h > 1)
def w72_c1 (_s h _l : Int) : Bool := h == 1
def w72_c2 (_s _h l : Int) : Bool := decide (l > 0)
def w72_c3 (s _h _l : Int) : Bool := decide (s < 0)
theorem w72_0_ok (s h l : Int) (hALL : allB [(w72_c0 s h l, true)] = true) : (evFnT Try.prog (spOf []) (inlOf []) extD (cKD [] []) (fun _ => .unroll 0) Try.f56 [.agg [.int .i64 s, .int .i64 h, .int .i64 l]] [] (fun r _ => .ofOpt (some r))).run = some (Res.ret (AV.tup [AV.int IntKind.i64 0, AV.bool false]) : Res) := way (gs := [false, true, true, true, false]) (by kernel_rfl) hALL
theorem w72_1_ok (s h l : Int) (hALL : allB [(w72_c0 s h l, false), (w72_c1 s h l, true), (w72_c2 s h l, true)] = true) : (evFnT Try.prog (spOf []) (inlOf []) extD (cKD [] []) (fun _ => .unroll 0) Try.f56 [.agg [.int .i64 s, .int .i64 h, .int .i64 l]] [] (fun r _ => .ofOpt (some r))).run = some (Res.ret (AV.tup [AV.int IntKind.i64 0, AV.bool false]) : Res) := way (gs := [false, false, false, true, true, true, true, true, false]) (by kernel_rfl) hALL
theorem w72_2_ok (s h l : Int) (hALL : allB [(w72_c0 s h l, false), (w72_c1 s h l, true), (w72_c2 s h l, false), (w72_c3 s h l, true)] = true) : (evFnT Try.prog (spOf []) (inlOf []) extD (cKD [] []) (fun _ => .unroll 0) Try.f56 [.agg [.int .i64 s, .int .i64 h, .int .i64 l]] [] (fun r _ => .ofOpt (some r))).run = some (Res.ret
  (AV.tup
    [AV.int IntKind.i64 (IntKind.i64.wrap (0 - IntKind.i64.wrap (IntKind.i64.wrap (h * 1152921504606846976) + l))),
      AV.bool true]) : Res) := way (gs := [false, false, false, true, true, false, false, false, true, true]) (by kernel_rfl) hALL
theorem w72_3_ok (s h l : Int) (hALL : allB [(w72_c0 s h l, false), (w72_c1 s h l, true), (w72_c2 s h l, false), (w72_c3 s h l, false)] = true) : (evFnT Try.prog (spOf []) (inlOf []) extD (cKD [] []) (fun _ => .unroll 0) Try.f56 [.agg [.int .i64 s, .int .i64 h, .int .i64 l]] [] (fun r _ => .ofOpt (some r))).run = some (Res.ret (AV.tup [AV.int IntKind.i64 (IntKind.i64.wrap (IntKind.i64.wrap (h * 1152921504606846976) + l)), AV.bool true]) : Res) := way (gs := [false, false, false, true, true, false, false, false, false, true]) (by kernel_rfl) hALL
theorem w72_4_ok (s h l : Int) (hALL : allB [(w72_c0 s h l, false), (w72_c1 s h l, false), (w72_c3 s h l, true)] = true) : (evFnT Try.prog (spOf []) (inlOf []) extD (cKD [] []) (fun _ => .unroll 0) Try.f56 [.agg [.int .i64 s, .int .i64 h, .int .i64 l]] [] (fun r _ => .ofOpt (some r))).run = some (Res.ret
  (AV.tup
    [AV.int IntKind.i64 (IntKind.i64.wrap (0 - IntKind.i64.wrap (IntKind.i64.wrap (h * 1152921504606846976) + l))),
      AV.bool true]) : Res) := way (gs := [false, false, false, false, false, false, false, true, true]) (by kernel_rfl) hALL
theorem w72_5_ok (s h l : Int) (hALL : allB [(w72_c0 s h l, false), (w72_c1 s h l, false), (w72_c3 s h l, false)] = true) : (evFnT Try.prog (spOf []) (inlOf []) extD (cKD [] []) (fun _ => .unroll 0) Try.f56 [.agg [.int .i64 s, .int .i64 h, .int .i64 l]] [] (fun r _ => .ofOpt (some r))).run = some (Res.ret (AV.tup [AV.int IntKind.i64 (IntKind.i64.wrap (IntKind.i64.wrap (h * 1152921504606846976) + l)), AV.bool true]) : Res) := way (gs := [false, false, false, false, false, false, false, false, true]) (by kernel_rfl) hALL
theorem w72_cases (s h l : Int) {Q : Option (Res) → Prop} 
  (L0 : (decide (h > 1)) = true → Q (some (Res.ret (AV.tup [AV.int IntKind.i64 0, AV.bool false]))))
  (L1 : (decide (h > 1)) = false → (h == 1) = true → (decide (l > 0)) = true → Q (some (Res.ret (AV.tup [AV.int IntKind.i64 0, AV.bool false]))))
  (L2 : (decide (h > 1)) = false → (h == 1) = true → (decide (l > 0)) = false → (decide (s < 0)) = true → Q (some (Res.ret
  (AV.tup
    [AV.int IntKind.i64 (IntKind.i64.wrap (0 - IntKind.i64.wrap (IntKind.i64.wrap (h * 1152921504606846976) + l))),
      AV.bool true]))))
  (L3 : (decide (h > 1)) = false → (h == 1) = true → (decide (l > 0)) = false → (decide (s < 0)) = false → Q (some (Res.ret (AV.tup [AV.int IntKind.i64 (IntKind.i64.wrap (IntKind.i64.wrap (h * 1152921504606846976) + l)), AV.bool true]))))
  (L4 : (decide (h > 1)) = false → (h == 1) = false → (decide (s < 0)) = true → Q (some (Res.ret
  (AV.tup
    [AV.int IntKind.i64 (IntKind.i64.wrap (0 - IntKind.i64.wrap (IntKind.i64.wrap (h * 1152921504606846976) + l))),
      AV.bool true]))))
  (L5 : (decide (h > 1)) = false → (h == 1) = false → (decide (s < 0)) = false → Q (some (Res.ret (AV.tup [AV.int IntKind.i64 (IntKind.i64.wrap (IntKind.i64.wrap (h * 1152921504606846976) + l)), AV.bool true])))) : Q (evFnT Try.prog (spOf []) (inlOf []) extD (cKD [] []) (fun _ => .unroll 0) Try.f56 [.agg [.int .i64 s, .int .i64 h, .int .i64 l]] [] (fun r _ => .ofOpt (some r))).run := by
  cases k0 : w72_c0 s h l
  ·
    cases k1 : w72_c1 s h l
    ·
      cases k3 : w72_c3 s h l
      ·
        rw [w72_5_ok s h l (allB_f k0 (allB_f k1 (allB_f k3 allB_nil)))]
        exact L5 k0 k1 k3
      ·
        rw [w72_4_ok s h l (allB_f k0 (allB_f k1 (allB_t k3 allB_nil)))]
        exact L4 k0 k1 k3
    ·
      cases k2 : w72_c2 s h l
      ·
        cases k3 : w72_c3 s h l
        ·
          rw [w72_3_ok s h l (allB_f k0 (allB_t k1 (allB_f k2 (allB_f k3 allB_nil))))]
          exact L3 k0 k1 k2 k3
        ·
          rw [w72_2_ok s h l (allB_f k0 (allB_t k1 (allB_f k2 (allB_t k3 allB_nil))))]
          exact L2 k0 k1 k2 k3
      ·
        rw [w72_1_ok s h l (allB_f k0 (allB_t k1 (allB_t k2 allB_nil)))]
        exact L1 k0 k1 k2
  ·
    rw [w72_0_ok s h l (allB_t k0 allB_nil)]
    exact L0 k0
def w58_c0 (s h l _t _g _k : Int) : Bool := isW s h l
def w58_c1 (_s h l _t _g _k : Int) : Bool := decide (h * 1152921504606846976 + l ≤ 1152921504606846976)
def w58_c2 (_s _h _l t g k : Int) : Bool := isW t g k
def w58_c3 (_s _h _l _t g k : Int) : Bool := decide (g * 1152921504606846976 + k ≤ 1152921504606846976)
theorem w58_0_ok (s h l t g k : Int) (hALL : allB [(w58_c0 s h l t g k, true), (w58_c1 s h l t g k, true), (w58_c2 s h l t g k, true), (w58_c3 s h l t g k, true)] = true) : (evFnT Try.prog (spOf [e72]) (inlOf []) extD (cKD [e72] []) (fun _ => .unroll 0) Try.f40 [.agg [.int .i64 s, .int .i64 h, .int .i64 l], .agg [.int .i64 t, .int .i64 g, .int .i64 k]] [] (fun r _ => .ofOpt (some r))).run = some (Res.ret (AV.tup [AV.agg [AV.int IntKind.i64 (wvI s h l), AV.int IntKind.i64 (wvI t g k)], AV.int IntKind.i64 0]) : Res) := way (gs := [true, true, true, true, true, true, true, false, false, true, false, false]) (by kernel_rfl) hALL
theorem w58_1_ok (s h l t g k : Int) (hALL : allB [(w58_c0 s h l t g k, true), (w58_c1 s h l t g k, true), (w58_c2 s h l t g k, true), (w58_c3 s h l t g k, false)] = true) : (evFnT Try.prog (spOf [e72]) (inlOf []) extD (cKD [e72] []) (fun _ => .unroll 0) Try.f40 [.agg [.int .i64 s, .int .i64 h, .int .i64 l], .agg [.int .i64 t, .int .i64 g, .int .i64 k]] [] (fun r _ => .ofOpt (some r))).run = some (Res.ret (AV.tup [AV.agg [AV.int IntKind.i64 0, AV.int IntKind.i64 0], AV.int IntKind.i64 14]) : Res) := way (gs := [true, true, true, false, false, false, true, false, false, false, true, true]) (by kernel_rfl) hALL
theorem w58_2_ok (s h l t g k : Int) (hALL : allB [(w58_c0 s h l t g k, true), (w58_c1 s h l t g k, false), (w58_c2 s h l t g k, true), (w58_c3 s h l t g k, true)] = true) : (evFnT Try.prog (spOf [e72]) (inlOf []) extD (cKD [e72] []) (fun _ => .unroll 0) Try.f40 [.agg [.int .i64 s, .int .i64 h, .int .i64 l], .agg [.int .i64 t, .int .i64 g, .int .i64 k]] [] (fun r _ => .ofOpt (some r))).run = some (Res.ret (AV.tup [AV.agg [AV.int IntKind.i64 0, AV.int IntKind.i64 0], AV.int IntKind.i64 14]) : Res) := way (gs := [false, false, false, true, true, true, false, true, true, true]) (by kernel_rfl) hALL
theorem w58_3_ok (s h l t g k : Int) (hALL : allB [(w58_c0 s h l t g k, true), (w58_c1 s h l t g k, false), (w58_c2 s h l t g k, true), (w58_c3 s h l t g k, false)] = true) : (evFnT Try.prog (spOf [e72]) (inlOf []) extD (cKD [e72] []) (fun _ => .unroll 0) Try.f40 [.agg [.int .i64 s, .int .i64 h, .int .i64 l], .agg [.int .i64 t, .int .i64 g, .int .i64 k]] [] (fun r _ => .ofOpt (some r))).run = some (Res.ret (AV.tup [AV.agg [AV.int IntKind.i64 0, AV.int IntKind.i64 0], AV.int IntKind.i64 14]) : Res) := way (gs := [false, false, false, false, false, false, false, true, true, true]) (by kernel_rfl) hALL
theorem w58_cases (s h l t g k : Int) {Q : Option (Res) → Prop} (H0 : (isW s h l) = true) (H2 : (isW t g k) = true)
  (L0 : (decide (h * 1152921504606846976 + l ≤ 1152921504606846976)) = true → (decide (g * 1152921504606846976 + k ≤ 1152921504606846976)) = true → Q (some (Res.ret (AV.tup [AV.agg [AV.int IntKind.i64 (wvI s h l), AV.int IntKind.i64 (wvI t g k)], AV.int IntKind.i64 0]))))
  (L1 : (decide (h * 1152921504606846976 + l ≤ 1152921504606846976)) = true → (decide (g * 1152921504606846976 + k ≤ 1152921504606846976)) = false → Q (some (Res.ret (AV.tup [AV.agg [AV.int IntKind.i64 0, AV.int IntKind.i64 0], AV.int IntKind.i64 14]))))
  (L2 : (decide (h * 1152921504606846976 + l ≤ 1152921504606846976)) = false → (decide (g * 1152921504606846976 + k ≤ 1152921504606846976)) = true → Q (some (Res.ret (AV.tup [AV.agg [AV.int IntKind.i64 0, AV.int IntKind.i64 0], AV.int IntKind.i64 14]))))
  (L3 : (decide (h * 1152921504606846976 + l ≤ 1152921504606846976)) = false → (decide (g * 1152921504606846976 + k ≤ 1152921504606846976)) = false → Q (some (Res.ret (AV.tup [AV.agg [AV.int IntKind.i64 0, AV.int IntKind.i64 0], AV.int IntKind.i64 14])))) : Q (evFnT Try.prog (spOf [e72]) (inlOf []) extD (cKD [e72] []) (fun _ => .unroll 0) Try.f40 [.agg [.int .i64 s, .int .i64 h, .int .i64 l], .agg [.int .i64 t, .int .i64 g, .int .i64 k]] [] (fun r _ => .ofOpt (some r))).run := by
  have k0 : w58_c0 s h l t g k = true := H0 
  cases k1 : w58_c1 s h l t g k
  ·
    have k2 : w58_c2 s h l t g k = true := H2 
    cases k3 : w58_c3 s h l t g k
    ·
      rw [w58_3_ok s h l t g k (allB_t k0 (allB_f k1 (allB_t k2 (allB_f k3 allB_nil))))]
      exact L3 k1 k3
    ·
      rw [w58_2_ok s h l t g k (allB_t k0 (allB_f k1 (allB_t k2 (allB_t k3 allB_nil))))]
      exact L2 k1 k3
  ·
    have k2 : w58_c2 s h l t g k = true := H2 
    cases k3 : w58_c3 s h l t g k
    ·
      rw [w58_1_ok s h l t g k (allB_t k0 (allB_t k1 (allB_t k2 (allB_f k3 allB_nil))))]
      exact L1 k1 k3
    ·
      rw [w58_0_ok s h l t g k (allB_t k0 (allB_t k1 (allB_t k2 (allB_t k3 allB_nil))))]
      exact L0 k1 k3
end Go.Proofs.Ytebiafgcnmnacaa

/- The reference's wide numbers: contracts. Conditions: none beyond the context's. -/
namespace Go.Proofs.Ytebiafgcnmnacaa
open Go.Evl Go.RowKit

theorem inM_iff {x : Int} : inM x = true ↔ -1152921504606846976 ≤ x ∧ x ≤ 1152921504606846976 := by simp [inM]
theorem isW_iff {s h l : Int} : isW s h l = true ↔ 0 ≤ h ∧ h ≤ 2305843009213693952 ∧ 0 ≤ l ∧ l < 1152921504606846976 ∧ ((s = 0 ∧ h = 0 ∧ l = 0) ∨ ((s = 1 ∨ s = -1) ∧ 0 < h * 1152921504606846976 + l)) := by simp [isW]
theorem wide_mul {X Y : Int} (hx : 0 ≤ X) (hx1 : X ≤ 1152921504606846976) (hy : 0 ≤ Y) (hy1 : Y ≤ 1152921504606846976) :
    IntKind.i64.wrap (IntKind.i64.wrap (IntKind.i64.wrap (IntKind.i64.wrap (X.tdiv 1073741824) * IntKind.i64.wrap (Y.tdiv 1073741824)) +
      IntKind.i64.wrap ((IntKind.i64.wrap (IntKind.i64.wrap (IntKind.i64.wrap (X.tdiv 1073741824) * Y.tmod 1073741824) + IntKind.i64.wrap (X.tmod 1073741824 * IntKind.i64.wrap (Y.tdiv 1073741824)))).tdiv 1073741824)) +
      IntKind.i64.wrap ((IntKind.i64.wrap (IntKind.i64.wrap (X.tmod 1073741824 * Y.tmod 1073741824) + IntKind.i64.wrap ((IntKind.i64.wrap (IntKind.i64.wrap (IntKind.i64.wrap (X.tdiv 1073741824) * Y.tmod 1073741824) + IntKind.i64.wrap (X.tmod 1073741824 * IntKind.i64.wrap (Y.tdiv 1073741824)))).tmod 1073741824 * 1073741824))).tdiv 1152921504606846976))
      = X * Y / 1152921504606846976 ∧
    (IntKind.i64.wrap (IntKind.i64.wrap (X.tmod 1073741824 * Y.tmod 1073741824) + IntKind.i64.wrap ((IntKind.i64.wrap (IntKind.i64.wrap (IntKind.i64.wrap (X.tdiv 1073741824) * Y.tmod 1073741824) + IntKind.i64.wrap (X.tmod 1073741824 * IntKind.i64.wrap (Y.tdiv 1073741824)))).tmod 1073741824 * 1073741824))).tmod 1152921504606846976
      = X * Y % 1152921504606846976 := by
  rw [Int.tdiv_eq_ediv_of_nonneg hx, Int.tdiv_eq_ediv_of_nonneg hy, Int.tmod_eq_emod_of_nonneg hx, Int.tmod_eq_emod_of_nonneg hy]
  have ex : X = X / 1073741824 * 1073741824 + X % 1073741824 := by omega
  have ey : Y = Y / 1073741824 * 1073741824 + Y % 1073741824 := by omega
  have a0 : 0 ≤ X / 1073741824 ∧ X / 1073741824 ≤ 1073741824 := by omega
  have c0 : 0 ≤ Y / 1073741824 ∧ Y / 1073741824 ≤ 1073741824 := by omega
  have b0 : 0 ≤ X % 1073741824 ∧ X % 1073741824 < 1073741824 := by omega
  have d0 : 0 ≤ Y % 1073741824 ∧ Y % 1073741824 < 1073741824 := by omega
  generalize X / 1073741824 = a at *
  generalize Y / 1073741824 = c at *
  generalize X % 1073741824 = b at *
  generalize Y % 1073741824 = d at *
  have hP : X * Y = a * c * 1152921504606846976 + (a * d + b * c) * 1073741824 + b * d := by rw [ex, ey]; grind
  have bd : ∀ {p q : Int}, 0 ≤ p → p ≤ 1073741824 → 0 ≤ q → q ≤ 1073741824 → 0 ≤ p * q ∧ p * q ≤ 1152921504606846976 := fun h0 h1 h2 h3 =>
    ⟨Int.mul_nonneg h0 h2, Int.le_trans (Int.mul_le_mul_of_nonneg_right h1 h2) (by omega)⟩
  have hac := bd a0.1 a0.2 c0.1 c0.2
  have had := bd a0.1 a0.2 d0.1 (Int.le_of_lt d0.2)
  have hbc := bd b0.1 (Int.le_of_lt b0.2) c0.1 c0.2
  have hbd := bd b0.1 (Int.le_of_lt b0.2) d0.1 (Int.le_of_lt d0.2)
  rw [hP]
  rw [wrapI (x := a) (by omega) (by omega), wrapI (x := c) (by omega) (by omega)]
  generalize a * c = p at *
  generalize a * d = q at *
  generalize b * c = r at *
  generalize b * d = s at *
  rw [wrapI (x := p) (by omega) (by omega), wrapI (x := q) (by omega) (by omega), wrapI (x := r) (by omega) (by omega), wrapI (x := s) (by omega) (by omega), wrapI (x := q + r) (by omega) (by omega)]
  rw [Int.tdiv_eq_ediv_of_nonneg (show 0 ≤ q + r by omega), Int.tmod_eq_emod_of_nonneg (show 0 ≤ q + r by omega)]
  rw [wrapI (x := (q + r) / 1073741824) (by omega) (by omega), wrapI (x := (q + r) % 1073741824 * 1073741824) (by omega) (by omega)]
  rw [wrapI (x := s + (q + r) % 1073741824 * 1073741824) (by omega) (by omega)]
  rw [Int.tdiv_eq_ediv_of_nonneg (show 0 ≤ s + (q + r) % 1073741824 * 1073741824 by omega), Int.tmod_eq_emod_of_nonneg (show 0 ≤ s + (q + r) % 1073741824 * 1073741824 by omega)]
  rw [wrapI (x := (s + (q + r) % 1073741824 * 1073741824) / 1152921504606846976) (by omega) (by omega), wrapI (x := p + (q + r) / 1073741824) (by omega) (by omega), wrapI (by omega) (by omega)]
  constructor <;> omega
theorem absI_mul_abs (x y : Int) : absI (x * y) = absI x * absI y := by rw [absI_eq, absI_eq, absI_eq, Int.natAbs_mul, Int.natCast_mul]
theorem cx56 : (mkCx Try.prog (spOf [e41]) (inlOf []) extD).Ok InvD := cx_of [] (by kernel_rfl) (by
  intro p hp
  simp only [List.mem_cons, List.not_mem_nil, or_false] at hp
  subst hp
  exact e41_ok)
theorem e56_ok : SpecHolds Try.prog InvD 38 fun a => (e56.2 a).run := by
  refine specD cx56 Try.func38 (c := codeOf Try.prog 38) (by kernel_rfl) (fun _ => .unroll 0) (fun _ _ => trivial) fun args r h => ?_
  simp only [e56] at h
  split at h
  · rename_i x y
    obtain ⟨hc, h⟩ := chk_run h
    simp only [Bool.and_eq_true, inM_iff] at hc
    obtain ⟨⟨x0, x1⟩, y0, y1⟩ := hc
    refine ⟨by kernel_rfl, tr_ok (by rfl) h, ?_⟩
    refine Eq.trans ?_ h
    have hX0 := absI_nonneg x
    have hY0 := absI_nonneg y
    have hX1 : absI x ≤ 1152921504606846976 := by rw [absI_eq]; omega
    have hY1 : absI y ≤ 1152921504606846976 := by rw [absI_eq]; omega
    obtain ⟨m1, m2⟩ := wide_mul hX0 hX1 hY0 hY1
    have hz : absI 0 = 0 := by rw [absI_eq]; rfl
    refine w56_cases x y (Q := fun t => t = some (.ret (.agg [.int .i64 (sgnI (x * y)), .int .i64 (hiI (x * y)), .int .i64 (loI (x * y))]))) ?_ ?_ ?_ ?_ ?_ ?_ ?_ ?_
    · intro _ _; simp; omega
    · intro _ _; simp; omega
    · intro k; have : x = 0 := by simpa using k
      subst this; rw [Int.zero_mul]; unfold hiI loI sgnI; rw [hz]; rfl
    · intro _ k; have : y = 0 := by simpa using k
      subst this; rw [Int.mul_zero]; unfold hiI loI sgnI; rw [hz]; rfl
    all_goals
      intro k0 k1 k2 k3
      simp only [beq_eq_false_iff_ne, ne_eq, decide_eq_true_eq, decide_eq_false_iff_not] at k0 k1 k2 k3
      rw [m1, m2]
      unfold hiI loI
      rw [absI_mul_abs]
      congr 5
      unfold sgnI
    · have : 0 < x * y := Int.mul_pos_of_neg_of_neg k2 k3
      rw [if_neg (by omega), if_neg (by omega)]
    · have : x * y < 0 := Int.mul_neg_of_neg_of_pos k2 (by omega)
      rw [if_pos this]
    · have : x * y < 0 := Int.mul_neg_of_pos_of_neg (by omega) k3
      rw [if_pos this]
    · have : 0 < x * y := Int.mul_pos (by omega) (by omega)
      rw [if_neg (by omega), if_neg (by omega)]
  · simp [Tr.run] at h
end Go.Proofs.Ytebiafgcnmnacaa

/- The reference's sums of wide numbers: contracts. Conditions: none beyond the context's. -/
namespace Go.Proofs.Ytebiafgcnmnacaa
open Go.Evl Go.RowKit

theorem e71_ok : SpecHolds Try.prog InvD 55 fun a => (e71.2 a).run := by
  refine specD cx0 Try.func55 (c := codeOf Try.prog 55) (by kernel_rfl) (fun _ => .unroll 0) (fun _ _ => trivial) fun args r hh => ?_
  simp only [e71] at hh
  split at hh
  · rename_i s h l t g k
    obtain ⟨hc, hh⟩ := chk_run hh
    simp only [Bool.and_eq_true, isW_iff] at hc
    obtain ⟨⟨a1, a2, a3, a4, _⟩, b1, b2, b3, b4, _⟩ := hc
    refine ⟨by kernel_rfl, tr_ok (by rfl) hh, ?_⟩
    refine Eq.trans ?_ hh
    refine w71_cases s h l t g k (Q := fun q => q = some (.ret (.bool (decide (h * 1152921504606846976 + l < g * 1152921504606846976 + k))))) ?_ ?_ ?_ ?_
    all_goals
      intros
      simp only [beq_iff_eq, beq_eq_false_iff_ne, ne_eq, decide_eq_true_eq, decide_eq_false_iff_not] at *
      first
      | (rw [decide_eq_true (by omega)]; done)
      | (rw [decide_eq_false (by omega)]; done)
  · simp [Tr.run] at hh

/-- a wide number's parts are those of its value -/
theorem wide_leaf {S H L z : Int} (h0 : 0 ≤ H) (h1 : 0 ≤ L) (h2 : L < 1152921504606846976) (hs : (S = 0 ∧ H = 0 ∧ L = 0) ∨ ((S = 1 ∨ S = -1) ∧ 0 < H * 1152921504606846976 + L)) (hz : S * (H * 1152921504606846976 + L) = z) :
    sgnI z = S ∧ hiI z = H ∧ loI z = L := by
  subst hz
  unfold sgnI hiI loI
  rw [absI_eq]
  rcases hs with ⟨rfl, rfl, rfl⟩ | ⟨rfl | rfl, hp⟩
  · exact ⟨rfl, rfl, rfl⟩
  · rw [Int.one_mul]
    refine ⟨?_, by omega, by omega⟩
    rw [if_neg (by omega), if_neg (by omega)]
  · rw [Int.neg_mul, Int.one_mul]
    refine ⟨?_, by omega, by omega⟩
    rw [if_pos (by omega)]
theorem wide_res {S H L z : Int} (h0 : 0 ≤ H) (h1 : 0 ≤ L) (h2 : L < 1152921504606846976) (hs : (S = 0 ∧ H = 0 ∧ L = 0) ∨ ((S = 1 ∨ S = -1) ∧ 0 < H * 1152921504606846976 + L)) (hz : S * (H * 1152921504606846976 + L) = z) :
    some (Res.ret (.agg [.int .i64 S, .int .i64 H, .int .i64 L])) = some (Res.ret (.agg [.int .i64 (sgnI z), .int .i64 (hiI z), .int .i64 (loI z)])) := by
  obtain ⟨k1, k2, k3⟩ := wide_leaf h0 h1 h2 hs hz
  rw [k1, k2, k3]
theorem cx55 : (mkCx Try.prog (spOf [e71]) (inlOf []) extD).Ok InvD := cx_of [] (by kernel_rfl) (by
  intro p hp
  simp only [List.mem_cons, List.not_mem_nil, or_false] at hp
  subst hp
  exact e71_ok)
theorem e55_ok : SpecHolds Try.prog InvD 37 fun a => (e55.2 a).run := by
  refine specD cx55 Try.func37 (c := codeOf Try.prog 37) (by kernel_rfl) (fun _ => .unroll 0) (fun _ _ => trivial) fun args r hh => ?_
  simp only [e55] at hh
  split at hh
  · rename_i s h l t g k
    obtain ⟨hc, hh⟩ := chk_run hh
    have hc0 := hc
    simp only [Bool.and_eq_true, isW_iff] at hc
    obtain ⟨⟨a1, a2, a3, a4, a5⟩, b1, b2, b3, b4, b5⟩ := hc
    refine ⟨by kernel_rfl, tr_ok (by rfl) hh, ?_⟩
    refine Eq.trans ?_ hh
    have w1 : IntKind.i64.wrap (h + g) = h + g := wrapI (by omega) (by omega)
    have w2 : IntKind.i64.wrap (l + k) = l + k := wrapI (by omega) (by omega)
    have w3 : (l + k).tdiv 1152921504606846976 = (l + k) / 1152921504606846976 := Int.tdiv_eq_ediv_of_nonneg (by omega)
    have w4 : (l + k).tmod 1152921504606846976 = (l + k) % 1152921504606846976 := Int.tmod_eq_emod_of_nonneg (by omega)
    have w5 : IntKind.i64.wrap ((l + k) / 1152921504606846976) = (l + k) / 1152921504606846976 := wrapI (by omega) (by omega)
    have w6 : IntKind.i64.wrap (h + g + (l + k) / 1152921504606846976) = h + g + (l + k) / 1152921504606846976 := wrapI (by omega) (by omega)
    have w7 : IntKind.i64.wrap (k - l) = k - l := wrapI (by omega) (by omega)
    have w8 : IntKind.i64.wrap (g - h) = g - h := wrapI (by omega) (by omega)
    have w9 : IntKind.i64.wrap (g - h - 1) = g - h - 1 := wrapI (by omega) (by omega)
    have w10 : IntKind.i64.wrap (k - l + 1152921504606846976) = k - l + 1152921504606846976 := wrapI (by omega) (by omega)
    have w11 : IntKind.i64.wrap (l - k) = l - k := wrapI (by omega) (by omega)
    have w12 : IntKind.i64.wrap (h - g) = h - g := wrapI (by omega) (by omega)
    have w13 : IntKind.i64.wrap (h - g - 1) = h - g - 1 := wrapI (by omega) (by omega)
    have w14 : IntKind.i64.wrap (l - k + 1152921504606846976) = l - k + 1152921504606846976 := wrapI (by omega) (by omega)
    refine w55_cases s h l t g k (Q := fun q => q = some (.ret (.agg [.int .i64 (sgnI (wvI s h l + wvI t g k)), .int .i64 (hiI (wvI s h l + wvI t g k)), .int .i64 (loI (wvI s h l + wvI t g k))]))) (fun _ _ _ => hc0) ?_ ?_ ?_ ?_ ?_ ?_ ?_ ?_ ?_ ?_ ?_ ?_ ?_ ?_ ?_
    all_goals
      intros
      simp only [w1, w2, w3, w4, w5, w6, w7, w8, w9, w10, w11, w12, w13, w14] at *
      simp only [beq_iff_eq, beq_eq_false_iff_ne, ne_eq, decide_eq_true_eq, decide_eq_false_iff_not] at *
      unfold wvI
      rcases a5 with ⟨rfl, rfl, rfl⟩ | ⟨rfl | rfl, a5⟩ <;> rcases b5 with ⟨rfl, rfl, rfl⟩ | ⟨rfl | rfl, b5⟩ <;> first | omega | (exfalso; omega) | (refine wide_res ?_ ?_ ?_ ?_ ?_ <;> omega)
  · simp [Tr.run] at hh
end Go.Proofs.Ytebiafgcnmnacaa

/- The reference's quotient of a wide number, and what fits: contracts. Conditions: none beyond the context's. -/
namespace Go.Proofs.Ytebiafgcnmnacaa
open Go.Evl Go.RowKit

/-- powers of two -/
def pw (i : Int) : Int := 2 ^ (i + 1).toNat
def ovQ (q r i l n : Int) : Int := q + (r * pw i + l % pw i) / n
def ovR (r i l n : Int) : Int := (r * pw i + l % pw i) % n
def ovB (q r i l n : Int) : Bool := decide (1 ≤ n ∧ n ≤ 1152921504606846976 ∧ 0 ≤ r ∧ r < n ∧ 0 ≤ l ∧ l < 1152921504606846976 ∧ -1 ≤ i ∧ i ≤ 59 ∧ 0 ≤ q ∧ ovQ q r i l n < 4611686018427387904)
def heap57 (s h l : Int) : List Ob := [.cells [.int .i64 s, .int .i64 h, .int .i64 l] 56, .cells [.int .i64 0, .int .i64 0, .int .i64 0] 56]
def keep57 : List Nat := [1, 2, 4, 6, 7, 8]
def f57 : List AV → List Ob → Tr (Ex × List AV × List Ob)
  | [.int .i64 n, .ptr 0 0, .ptr 1 0, .int .i64 q, .int .i64 r, .int .i64 i], [.cells [.int .i64 s, .int .i64 h, .int .i64 l] 56, .cells [.int .i64 0, .int .i64 0, .int .i64 0] 56] =>
    .chk (ovB q r i l n) (.leaf (.exit 0, [.int .i64 n, .ptr 0 0, .ptr 1 0, .int .i64 (ovQ q r i l n), .int .i64 (ovR r i l n), .int .i64 (-1)], heap57 s h l))
  | _, _ => .non
def lp57 (i : Nat) : LT := bif Nat.beq i 0 then .sum keep57 f57 else .unroll 0
def e57 : Ent := ⟨39, fun
  | [.agg [.int .i64 s, .int .i64 h, .int .i64 l], .int .i64 n] => .chk (isW s h l && decide (1 ≤ n ∧ n ≤ 1152921504606846976))
      (.leaf (.ret (.tup [.agg [.int .i64 s, .int .i64 (h / n), .int .i64 ((h % n * 1152921504606846976 + l) / n)], .int .i64 ((h * 1152921504606846976 + l) % n)])))
  | _ => .non⟩
theorem pw_nat (j : Nat) : pw (j : Int) = 2 ^ j * 2 := by
  unfold pw
  rw [show ((j : Int) + 1).toNat = j + 1 by omega, Int.pow_succ]
theorem pw_pred (j : Nat) : pw ((j : Int) - 1) = 2 ^ j := by
  unfold pw
  rw [show ((j : Int) - 1 + 1).toNat = j by omega]
theorem mod_split {l : Int} (hl : 0 ≤ l) (j : Nat) : l % (2 ^ j * 2) = (l / 2 ^ j % 2) * 2 ^ j + l % 2 ^ j := by
  obtain ⟨L, rfl⟩ := Int.eq_ofNat_of_zero_le hl
  have e : (2 : Int) ^ j = ((2 ^ j : Nat) : Int) := by rw [Int.natCast_pow]; rfl
  rw [e]
  have h := Nat.mod_mul (x := L) (a := 2 ^ j) (b := 2)
  have h1 : ((L : Int) % (((2 ^ j : Nat) : Int) * 2)) = ((L % (2 ^ j * 2) : Nat) : Int) := rfl
  rw [h1, h, Int.natCast_add, Int.natCast_mul, Int.mul_comm (((2 ^ j : Nat) : Int)), Int.add_comm]
  rfl
/-- one round of the division bit by bit -/
theorem ov_round {q r l n : Int} {j : Nat} (hj : j ≤ 59) (hb : ovB q r j l n = true) :
    ((2 * r + l / 2 ^ j % 2 < n) → ovB q (2 * r + l / 2 ^ j % 2) ((j : Int) - 1) l n = true ∧ ovQ q (2 * r + l / 2 ^ j % 2) ((j : Int) - 1) l n = ovQ q r j l n ∧ ovR (2 * r + l / 2 ^ j % 2) ((j : Int) - 1) l n = ovR r j l n) ∧
    (¬ (2 * r + l / 2 ^ j % 2 < n) → ovB (q + 2 ^ j) (2 * r + l / 2 ^ j % 2 - n) ((j : Int) - 1) l n = true ∧ ovQ (q + 2 ^ j) (2 * r + l / 2 ^ j % 2 - n) ((j : Int) - 1) l n = ovQ q r j l n ∧ ovR (2 * r + l / 2 ^ j % 2 - n) ((j : Int) - 1) l n = ovR r j l n) ∧ q ≤ ovQ q r j l n ∧ 0 < (2 : Int) ^ j := by
  simp only [ovB, decide_eq_true_eq] at hb
  obtain ⟨n0, n1, r0, r1, l0, l1, i0, i1, q0, hQ⟩ := hb
  have hp := two_pow_pos j
  have hbit := Int.emod_nonneg (l / 2 ^ j) (show (2 : Int) ≠ 0 by omega)
  have hbit2 := Int.emod_lt_of_pos (l / 2 ^ j) (show (0 : Int) < 2 by omega)
  have hm := mod_split l0 j
  have hl0 := Int.emod_nonneg l (show (2 : Int) ^ j ≠ 0 by omega)
  have key : r * pw j + l % pw j = (2 * r + l / 2 ^ j % 2) * 2 ^ j + l % 2 ^ j := by
    rw [pw_nat, hm]; grind
  have kQ : ovQ q r j l n = q + ((2 * r + l / 2 ^ j % 2) * 2 ^ j + l % 2 ^ j) / n := by unfold ovQ; rw [key]
  have kR : ovR r j l n = ((2 * r + l / 2 ^ j % 2) * 2 ^ j + l % 2 ^ j) % n := by unfold ovR; rw [key]
  generalize l / 2 ^ j % 2 = bit at *
  have hx0 : 0 ≤ (2 * r + bit) * 2 ^ j + l % 2 ^ j := by
    have := Int.mul_nonneg (show 0 ≤ 2 * r + bit by omega) (show (0 : Int) ≤ 2 ^ j by omega); omega
  have hqQ : q ≤ ovQ q r j l n := by
    rw [kQ]; have := Int.ediv_nonneg hx0 (show 0 ≤ n by omega); omega
  refine ⟨fun hlt => ?_, fun hge => ?_, hqQ, hp⟩
  · have e1 : ovQ q (2 * r + bit) ((j : Int) - 1) l n = ovQ q r j l n := by rw [kQ]; unfold ovQ; rw [pw_pred]
    have e2 : ovR (2 * r + bit) ((j : Int) - 1) l n = ovR r j l n := by rw [kR]; unfold ovR; rw [pw_pred]
    refine ⟨?_, e1, e2⟩
    simp only [ovB, decide_eq_true_eq]
    rw [e1]
    omega
  · have es : (2 * r + bit) * 2 ^ j + l % 2 ^ j = (2 * r + bit - n) * 2 ^ j + l % 2 ^ j + n * 2 ^ j := by grind
    have e1 : ovQ (q + 2 ^ j) (2 * r + bit - n) ((j : Int) - 1) l n = ovQ q r j l n := by
      rw [kQ]; unfold ovQ; rw [pw_pred, es, Int.add_mul_ediv_left _ _ (by omega)]; omega
    have e2 : ovR (2 * r + bit - n) ((j : Int) - 1) l n = ovR r j l n := by
      rw [kR]; unfold ovR; rw [pw_pred, es, Int.add_mul_emod_self_left]
    refine ⟨?_, e1, e2⟩
    simp only [ovB, decide_eq_true_eq]
    rw [e1]
    omega
theorem loop57 (n q r i s h l : Int) : (evC (β := Ex × List AV × List Ob) Try.prog (spOf []) (inlOf []) extD (cKD [] []) lp57 (bodyOf Try.prog 39 0) ⟨mkF Try.f39.ntmps keep57 [.int .i64 n, .ptr 0 0, .ptr 1 0, .int .i64 q, .int .i64 r, .int .i64 i], heap57 s h l⟩ (fun e st => (cutBack keep57 (heap57 s h l).length st).map fun q => (e, q.1, q.2))) =
    bif decide (i ≥ 0) then
      bif !decide (i < 0) then
        bif decide (IntKind.i64.wrap (IntKind.i64.wrap (2 * r) + (l.fdiv (2 ^ min i.toNat 64)).tmod 2) ≥ n) then
          bif !decide (i < 0) then
            some (Ex.normal, [AV.int IntKind.i64 n, AV.ptr 0 0, AV.ptr 1 0, AV.int IntKind.i64 (IntKind.i64.wrap (q + IntKind.i64.wrap (1 * 2 ^ min i.toNat 64))),
                  AV.int IntKind.i64 (IntKind.i64.wrap (IntKind.i64.wrap (IntKind.i64.wrap (2 * r) + (l.fdiv (2 ^ min i.toNat 64)).tmod 2) - n)), AV.int IntKind.i64 (IntKind.i64.wrap (i - 1))], heap57 s h l)
          else none
        else some (Ex.normal, [AV.int IntKind.i64 n, AV.ptr 0 0, AV.ptr 1 0, AV.int IntKind.i64 q, AV.int IntKind.i64 (IntKind.i64.wrap (IntKind.i64.wrap (2 * r) + (l.fdiv (2 ^ min i.toNat 64)).tmod 2)), AV.int IntKind.i64 (IntKind.i64.wrap (i - 1))], heap57 s h l)
      else none
    else some (Ex.exit 0, [AV.int IntKind.i64 n, AV.ptr 0 0, AV.ptr 1 0, AV.int IntKind.i64 q, AV.int IntKind.i64 r, AV.int IntKind.i64 i], heap57 s h l) := by kernel_rfl
theorem tree57 (s h l n : Int) : evFn Try.prog (spOf []) (inlOf []) extD (cKD [] []) lp57 Try.f39 [.agg [.int .i64 s, .int .i64 h, .int .i64 l], .int .i64 n] [] (fun r _ => some r) =
    bif !decide (n = 0) then
      bif ovB 0 (h.tmod n) 59 l n then
        bif !decide (n = 0) then some (Res.ret (AV.tup [AV.agg [AV.int IntKind.i64 s, AV.int IntKind.i64 (IntKind.i64.wrap (h.tdiv n)), AV.int IntKind.i64 (ovQ 0 (h.tmod n) 59 l n)], AV.int IntKind.i64 (ovR (h.tmod n) 59 l n)]))
        else none
      else none
    else none := by kernel_rfl
theorem sum57 : SumOkT Try.prog (spOf []) (inlOf []) extD (cKD [] []) lp57 Try.f39.ntmps (bodyOf Try.prog 39 0) keep57 f57 := by
  refine ⟨fun vs _ => match vs with | [_, _, _, _, _, .int _ i] => (i + 1).toNat | _ => 0, fun vs H R hv hR => ?_⟩
  unfold f57 at hR
  split at hR
  · rename_i n q r i s h l
    obtain ⟨hc, hR⟩ := chk_run hR
    simp only [Tr.run, Option.some.injEq] at hR
    subst hR
    have hb := hc
    simp only [ovB, decide_eq_true_eq] at hb
    obtain ⟨n0, n1, r0, r1, l0, l1, i0, i1, q0, hQ⟩ := hb
    have ht := loop57 n q r i s h l
    by_cases hi : i ≥ 0
    · obtain ⟨j, rfl⟩ := Int.eq_ofNat_of_zero_le hi
      obtain ⟨k1, k2, k3, k4⟩ := ov_round (by omega) hc
      have c1 : decide ((j : Int) ≥ 0) = true := decide_eq_true hi
      have c2 : (!decide ((j : Int) < 0)) = true := by simp
      have hp59 : (2 : Int) ^ j ≤ 2 ^ 59 := by
        have : 2 ^ j ≤ 2 ^ 59 := Nat.pow_le_pow_right (by omega) (show j ≤ 59 by omega)
        have e : (2 : Int) ^ j = ((2 ^ j : Nat) : Int) := by rw [Int.natCast_pow]; rfl
        rw [e]; omega
      have e59 : (2 : Int) ^ 59 = 576460752303423488 := rfl
      have hbit := Int.emod_nonneg (l / 2 ^ j) (show (2 : Int) ≠ 0 by omega)
      have hbit2 := Int.emod_lt_of_pos (l / 2 ^ j) (show (0 : Int) < 2 by omega)
      have m1 : min ((j : Int)).toNat 64 = j := by simp; omega
      have m2 : l.fdiv (2 ^ j) = l / 2 ^ j := Int.fdiv_eq_ediv_of_nonneg _ (by omega)
      have m3 : (l / 2 ^ j).tmod 2 = l / 2 ^ j % 2 := Int.tmod_eq_emod_of_nonneg (Int.ediv_nonneg l0 (by omega))
      rw [c1, c2, m1, m2, m3, Int.one_mul, wrapI (x := 2 * r) (by omega) (by omega), wrapI (x := 2 * r + l / 2 ^ j % 2) (by omega) (by omega), wrapI (x := (2 : Int) ^ j) (by omega) (by omega), wrapI (x := (j : Int) - 1) (by omega) (by omega)] at ht
      by_cases hlt : 2 * r + l / 2 ^ j % 2 < n
      · obtain ⟨b1, b2, b3⟩ := k1 hlt
        rw [decide_eq_false (show ¬ 2 * r + l / 2 ^ j % 2 ≥ n by omega)] at ht
        refine ⟨_, _, _, ht, ?_, ?_⟩
        · simp only [f57, heap57, Tr.run, b1, b2, b3, cond_true]
        · dsimp only; omega
      · obtain ⟨b1, b2, b3⟩ := k2 hlt
        have hqn : q + 2 ^ j ≤ ovQ q r j l n := by
          rw [← b2]
          unfold ovQ
          have : 0 ≤ ((2 * r + l / 2 ^ j % 2 - n) * pw ((j : Int) - 1) + l % pw ((j : Int) - 1)) / n := by
            rw [pw_pred]
            have h1 := Int.mul_nonneg (show 0 ≤ 2 * r + l / 2 ^ j % 2 - n by omega) (show (0 : Int) ≤ 2 ^ j by omega)
            have h2 := Int.emod_nonneg l (show (2 : Int) ^ j ≠ 0 by omega)
            exact Int.ediv_nonneg (by omega) (by omega)
          omega
        rw [decide_eq_true (show 2 * r + l / 2 ^ j % 2 ≥ n by omega), wrapI (x := q + 2 ^ j) (by omega) (by omega), wrapI (x := 2 * r + l / 2 ^ j % 2 - n) (by omega) (by omega)] at ht
        refine ⟨_, _, _, ht, ?_, ?_⟩
        · simp only [f57, heap57, Tr.run, b1, b2, b3, cond_true]
        · dsimp only; omega
    · rw [decide_eq_false hi] at ht
      refine ⟨_, _, _, ht, ?_⟩
      have hi1 : i = -1 := by omega
      subst hi1
      have p1 : pw (-1) = 1 := rfl
      have e1 : ovQ q r (-1) l n = q := by
        unfold ovQ; rw [p1, Int.mul_one, Int.emod_one, Int.add_zero, Int.ediv_eq_zero_of_lt r0 r1]; omega
      have e2 : ovR r (-1) l n = r := by
        unfold ovR; rw [p1, Int.mul_one, Int.emod_one, Int.add_zero, Int.emod_eq_of_lt r0 r1]
      dsimp only
      rw [e1, e2]
  · simp [Tr.run] at hR
theorem e57_ok : SpecHolds Try.prog InvD 39 fun a => (e57.2 a).run := by
  refine specD cx0 Try.func39 (c := codeOf Try.prog 39) (by kernel_rfl) lp57 (fun p hp => ?_) fun args r hh => ?_
  · have hl : loops (codeOf Try.prog 39) = [(0, bodyOf Try.prog 39 0)] := by kernel_rfl
    rw [hl, List.mem_singleton] at hp
    subst hp
    dsimp only [LoopOkT, lp57]
    exact ⟨by decide, by decide, sum57⟩
  · simp only [e57] at hh
    split at hh
    · rename_i s h l n
      obtain ⟨hc, hh⟩ := chk_run hh
      simp only [Bool.and_eq_true, isW_iff, decide_eq_true_eq] at hc
      obtain ⟨⟨a1, a2, a3, a4, _⟩, n0, n1⟩ := hc
      refine ⟨by kernel_rfl, tr_ok (by rfl) hh, ?_⟩
      refine Eq.trans ?_ hh
      have c1 : (!decide (n = 0)) = true := by simp; omega
      have m0 := Int.emod_nonneg h (show n ≠ 0 by omega)
      have m1 := Int.emod_lt_of_pos h (show 0 < n by omega)
      have p59 : pw 59 = 1152921504606846976 := rfl
      have hl : l % 1152921504606846976 = l := Int.emod_eq_of_lt a3 a4
      have eQ : ovQ 0 (h % n) 59 l n = (h % n * 1152921504606846976 + l) / n := by unfold ovQ; rw [p59, hl]; omega
      have eR : ovR (h % n) 59 l n = (h * 1152921504606846976 + l) % n := by
        unfold ovR; rw [p59, hl]
        exact (two_digits (T := h) (d := l) (B := 1152921504606846976) (by omega)).2.symm
      have hQ1 : (h % n * 1152921504606846976 + l) / n < 1152921504606846976 := by
        rw [Int.ediv_lt_iff_lt_mul (by omega)]; omega
      have c2 : ovB 0 (h % n) 59 l n = true := by
        simp only [ovB, decide_eq_true_eq]; rw [eQ]; omega
      obtain ⟨d1, d2⟩ := div_le_self' a1 (show 0 < n by omega)
      rw [tree57, Int.tmod_eq_emod_of_nonneg a1, Int.tdiv_eq_ediv_of_nonneg a1, c1, c2, eQ, eR, wrapI (x := h / n) (by omega) (by omega)]
      rfl
    · simp [Tr.run] at hh

theorem e72_ok : SpecHolds Try.prog InvD 56 fun a => (e72.2 a).run := by
  refine specD cx0 Try.func56 (c := codeOf Try.prog 56) (by kernel_rfl) (fun _ => .unroll 0) (fun _ _ => trivial) fun args r hh => ?_
  simp only [e72] at hh
  split at hh
  · rename_i s h l
    obtain ⟨hc, hh⟩ := chk_run hh
    simp only [isW_iff] at hc
    obtain ⟨a1, a2, a3, a4, a5⟩ := hc
    refine ⟨by kernel_rfl, tr_ok (by rfl) hh, ?_⟩
    refine Eq.trans ?_ hh
    refine w72_cases s h l (Q := fun q => q = (Tr.node (decide (h * 1152921504606846976 + l ≤ 1152921504606846976)) (.leaf (.ret (.tup [.int .i64 (wvI s h l), .bool true]))) (.leaf (.ret (.tup [.int .i64 0, .bool false])))).run) ?_ ?_ ?_ ?_ ?_ ?_
    all_goals
      intros
      simp only [beq_iff_eq, beq_eq_false_iff_ne, ne_eq, decide_eq_true_eq, decide_eq_false_iff_not] at *
      first
      | (rw [decide_eq_false (by omega)]; rfl)
      | (rw [decide_eq_true (by omega), wrapI (x := h * 1152921504606846976) (by omega) (by omega), wrapI (x := h * 1152921504606846976 + l) (by omega) (by omega)]
         try rw [wrapI (by omega) (by omega)]
         simp only [Tr.run, cond_true, wvI]
         rcases a5 with ⟨rfl, rfl, rfl⟩ | ⟨rfl | rfl, _⟩ <;> first | (exfalso; omega) | (congr 5; omega) | (congr 5; done))
  · simp [Tr.run] at hh
theorem cx58 : (mkCx Try.prog (spOf [e72]) (inlOf []) extD).Ok InvD := cx_of [] (by kernel_rfl) (by
  intro p hp
  simp only [List.mem_cons, List.not_mem_nil, or_false] at hp
  subst hp
  exact e72_ok)
theorem e58_ok : SpecHolds Try.prog InvD 40 fun a => (e58.2 a).run := by
  refine specD cx58 Try.func40 (c := codeOf Try.prog 40) (by kernel_rfl) (fun _ => .unroll 0) (fun _ _ => trivial) fun args r hh => ?_
  simp only [e58] at hh
  split at hh
  · rename_i s h l t g k
    obtain ⟨hc, hh⟩ := chk_run hh
    simp only [Bool.and_eq_true] at hc
    refine ⟨by kernel_rfl, tr_ok (by rfl) hh, ?_⟩
    refine Eq.trans ?_ hh
    refine w58_cases s h l t g k (Q := fun q => q = (Tr.node (decide (h * 1152921504606846976 + l ≤ 1152921504606846976) && decide (g * 1152921504606846976 + k ≤ 1152921504606846976)) (.leaf (.ret (.tup [.agg [.int .i64 (wvI s h l), .int .i64 (wvI t g k)], .int .i64 0]))) (erR 14)).run) hc.1 hc.2 ?_ ?_ ?_ ?_
    all_goals
      intro c1 c2
      rw [c1, c2]
      rfl
  · simp [Tr.run] at hh
end Go.Proofs.Ytebiafgcnmnacaa

/- The ways of the reference operations. No condition. -/
namespace Go.Proofs.Ytebiafgcnmnacaa
open Go.Evl Go.RowKit
def w27_c0 (a b _c _d : Int) : Bool := ckI a b != 0
def w27_c1 (_a _b c d : Int) : Bool := ckI c d != 0
def w27_c2 (_a b _c d : Int) : Bool := decide (0 ≤ b) && decide (0 ≤ d)
def w27_c3 (_a b _c d : Int) : Bool := !decide (gcdI b d = 0)
def w27_c4 (a b _c d : Int) : Bool := inM a && inM (IntKind.i64.wrap (d.tdiv (gcdI b d)))
def w27_c5 (_a b c d : Int) : Bool := inM c && inM (IntKind.i64.wrap (b.tdiv (gcdI b d)))
def w27_c6 (a b c d : Int) : Bool := isW (sgnI (a * IntKind.i64.wrap (d.tdiv (gcdI b d)))) (hiI (a * IntKind.i64.wrap (d.tdiv (gcdI b d))))
    (loI (a * IntKind.i64.wrap (d.tdiv (gcdI b d)))) &&
  isW (sgnI (c * IntKind.i64.wrap (b.tdiv (gcdI b d)))) (hiI (c * IntKind.i64.wrap (b.tdiv (gcdI b d))))
    (loI (c * IntKind.i64.wrap (b.tdiv (gcdI b d))))
def w27_c7 (a b c d : Int) : Bool := isW
    (sgnI
      (wvI (sgnI (a * IntKind.i64.wrap (d.tdiv (gcdI b d)))) (hiI (a * IntKind.i64.wrap (d.tdiv (gcdI b d))))
          (loI (a * IntKind.i64.wrap (d.tdiv (gcdI b d)))) +
        wvI (sgnI (c * IntKind.i64.wrap (b.tdiv (gcdI b d)))) (hiI (c * IntKind.i64.wrap (b.tdiv (gcdI b d))))
          (loI (c * IntKind.i64.wrap (b.tdiv (gcdI b d))))))
    (hiI
      (wvI (sgnI (a * IntKind.i64.wrap (d.tdiv (gcdI b d)))) (hiI (a * IntKind.i64.wrap (d.tdiv (gcdI b d))))
          (loI (a * IntKind.i64.wrap (d.tdiv (gcdI b d)))) +
        wvI (sgnI (c * IntKind.i64.wrap (b.tdiv (gcdI b d)))) (hiI (c * IntKind.i64.wrap (b.tdiv (gcdI b d))))
          (loI (c * IntKind.i64.wrap (b.tdiv (gcdI b d))))))
    (loI
      (wvI (sgnI (a * IntKind.i64.wrap (d.tdiv (gcdI b d)))) (hiI (a * IntKind.i64.wrap (d.tdiv (gcdI b d))))
          (loI (a * IntKind.i64.wrap (d.tdiv (gcdI b d)))) +
        wvI (sgnI (c * IntKind.i64.wrap (b.tdiv (gcdI b d)))) (hiI (c * IntKind.i64.wrap (b.tdiv (gcdI b d))))
          (loI (c * IntKind.i64.wrap (b.tdiv (gcdI b d)))))) &&
  decide (1 ≤ gcdI b d ∧ gcdI b d ≤ 1152921504606846976)
def w27_c8 (a b c d : Int) : Bool := decide (0 ≤ gcdI b d) &&
  decide
    (0 ≤
      (hiI
              (wvI (sgnI (a * IntKind.i64.wrap (d.tdiv (gcdI b d)))) (hiI (a * IntKind.i64.wrap (d.tdiv (gcdI b d))))
                  (loI (a * IntKind.i64.wrap (d.tdiv (gcdI b d)))) +
                wvI (sgnI (c * IntKind.i64.wrap (b.tdiv (gcdI b d)))) (hiI (c * IntKind.i64.wrap (b.tdiv (gcdI b d))))
                  (loI (c * IntKind.i64.wrap (b.tdiv (gcdI b d))))) *
            1152921504606846976 +
          loI
            (wvI (sgnI (a * IntKind.i64.wrap (d.tdiv (gcdI b d)))) (hiI (a * IntKind.i64.wrap (d.tdiv (gcdI b d))))
                (loI (a * IntKind.i64.wrap (d.tdiv (gcdI b d)))) +
              wvI (sgnI (c * IntKind.i64.wrap (b.tdiv (gcdI b d)))) (hiI (c * IntKind.i64.wrap (b.tdiv (gcdI b d))))
                (loI (c * IntKind.i64.wrap (b.tdiv (gcdI b d)))))) %
        gcdI b d)
def w27_c9 (a b c d : Int) : Bool := isW
    (sgnI
      (wvI (sgnI (a * IntKind.i64.wrap (d.tdiv (gcdI b d)))) (hiI (a * IntKind.i64.wrap (d.tdiv (gcdI b d))))
          (loI (a * IntKind.i64.wrap (d.tdiv (gcdI b d)))) +
        wvI (sgnI (c * IntKind.i64.wrap (b.tdiv (gcdI b d)))) (hiI (c * IntKind.i64.wrap (b.tdiv (gcdI b d))))
          (loI (c * IntKind.i64.wrap (b.tdiv (gcdI b d))))))
    (hiI
      (wvI (sgnI (a * IntKind.i64.wrap (d.tdiv (gcdI b d)))) (hiI (a * IntKind.i64.wrap (d.tdiv (gcdI b d))))
          (loI (a * IntKind.i64.wrap (d.tdiv (gcdI b d)))) +
        wvI (sgnI (c * IntKind.i64.wrap (b.tdiv (gcdI b d)))) (hiI (c * IntKind.i64.wrap (b.tdiv (gcdI b d))))
          (loI (c * IntKind.i64.wrap (b.tdiv (gcdI b d))))))
    (loI
      (wvI (sgnI (a * IntKind.i64.wrap (d.tdiv (gcdI b d)))) (hiI (a * IntKind.i64.wrap (d.tdiv (gcdI b d))))
          (loI (a * IntKind.i64.wrap (d.tdiv (gcdI b d)))) +
        wvI (sgnI (c * IntKind.i64.wrap (b.tdiv (gcdI b d)))) (hiI (c * IntKind.i64.wrap (b.tdiv (gcdI b d))))
          (loI (c * IntKind.i64.wrap (b.tdiv (gcdI b d)))))) &&
  decide
    (1 ≤
        gcdI (gcdI b d)
          ((hiI
                  (wvI (sgnI (a * IntKind.i64.wrap (d.tdiv (gcdI b d))))
                      (hiI (a * IntKind.i64.wrap (d.tdiv (gcdI b d))))
                      (loI (a * IntKind.i64.wrap (d.tdiv (gcdI b d)))) +
                    wvI (sgnI (c * IntKind.i64.wrap (b.tdiv (gcdI b d))))
                      (hiI (c * IntKind.i64.wrap (b.tdiv (gcdI b d))))
                      (loI (c * IntKind.i64.wrap (b.tdiv (gcdI b d))))) *
                1152921504606846976 +
              loI
                (wvI (sgnI (a * IntKind.i64.wrap (d.tdiv (gcdI b d)))) (hiI (a * IntKind.i64.wrap (d.tdiv (gcdI b d))))
                    (loI (a * IntKind.i64.wrap (d.tdiv (gcdI b d)))) +
                  wvI (sgnI (c * IntKind.i64.wrap (b.tdiv (gcdI b d)))) (hiI (c * IntKind.i64.wrap (b.tdiv (gcdI b d))))
                    (loI (c * IntKind.i64.wrap (b.tdiv (gcdI b d)))))) %
            gcdI b d) ∧
      gcdI (gcdI b d)
          ((hiI
                  (wvI (sgnI (a * IntKind.i64.wrap (d.tdiv (gcdI b d))))
                      (hiI (a * IntKind.i64.wrap (d.tdiv (gcdI b d))))
                      (loI (a * IntKind.i64.wrap (d.tdiv (gcdI b d)))) +
                    wvI (sgnI (c * IntKind.i64.wrap (b.tdiv (gcdI b d))))
                      (hiI (c * IntKind.i64.wrap (b.tdiv (gcdI b d))))
                      (loI (c * IntKind.i64.wrap (b.tdiv (gcdI b d))))) *
                1152921504606846976 +
              loI
                (wvI (sgnI (a * IntKind.i64.wrap (d.tdiv (gcdI b d)))) (hiI (a * IntKind.i64.wrap (d.tdiv (gcdI b d))))
                    (loI (a * IntKind.i64.wrap (d.tdiv (gcdI b d)))) +
                  wvI (sgnI (c * IntKind.i64.wrap (b.tdiv (gcdI b d)))) (hiI (c * IntKind.i64.wrap (b.tdiv (gcdI b d))))
                    (loI (c * IntKind.i64.wrap (b.tdiv (gcdI b d)))))) %
            gcdI b d) ≤
        1152921504606846976)
def w27_c10 (a b c d : Int) : Bool := !decide
    (gcdI (gcdI b d)
        ((hiI
                (wvI (sgnI (a * IntKind.i64.wrap (d.tdiv (gcdI b d)))) (hiI (a * IntKind.i64.wrap (d.tdiv (gcdI b d))))
                    (loI (a * IntKind.i64.wrap (d.tdiv (gcdI b d)))) +
                  wvI (sgnI (c * IntKind.i64.wrap (b.tdiv (gcdI b d)))) (hiI (c * IntKind.i64.wrap (b.tdiv (gcdI b d))))
                    (loI (c * IntKind.i64.wrap (b.tdiv (gcdI b d))))) *
              1152921504606846976 +
            loI
              (wvI (sgnI (a * IntKind.i64.wrap (d.tdiv (gcdI b d)))) (hiI (a * IntKind.i64.wrap (d.tdiv (gcdI b d))))
                  (loI (a * IntKind.i64.wrap (d.tdiv (gcdI b d)))) +
                wvI (sgnI (c * IntKind.i64.wrap (b.tdiv (gcdI b d)))) (hiI (c * IntKind.i64.wrap (b.tdiv (gcdI b d))))
                  (loI (c * IntKind.i64.wrap (b.tdiv (gcdI b d)))))) %
          gcdI b d) =
      0)
def w27_c11 (a b c d : Int) : Bool := inM (IntKind.i64.wrap (b.tdiv (gcdI b d))) &&
  inM
    (IntKind.i64.wrap
      (d.tdiv
        (gcdI (gcdI b d)
          ((hiI
                  (wvI (sgnI (a * IntKind.i64.wrap (d.tdiv (gcdI b d))))
                      (hiI (a * IntKind.i64.wrap (d.tdiv (gcdI b d))))
                      (loI (a * IntKind.i64.wrap (d.tdiv (gcdI b d)))) +
                    wvI (sgnI (c * IntKind.i64.wrap (b.tdiv (gcdI b d))))
                      (hiI (c * IntKind.i64.wrap (b.tdiv (gcdI b d))))
                      (loI (c * IntKind.i64.wrap (b.tdiv (gcdI b d))))) *
                1152921504606846976 +
              loI
                (wvI (sgnI (a * IntKind.i64.wrap (d.tdiv (gcdI b d)))) (hiI (a * IntKind.i64.wrap (d.tdiv (gcdI b d))))
                    (loI (a * IntKind.i64.wrap (d.tdiv (gcdI b d)))) +
                  wvI (sgnI (c * IntKind.i64.wrap (b.tdiv (gcdI b d)))) (hiI (c * IntKind.i64.wrap (b.tdiv (gcdI b d))))
                    (loI (c * IntKind.i64.wrap (b.tdiv (gcdI b d)))))) %
            gcdI b d))))
def w27_c12 (a b c d : Int) : Bool := isW
    (sgnI
      (wvI (sgnI (a * IntKind.i64.wrap (d.tdiv (gcdI b d)))) (hiI (a * IntKind.i64.wrap (d.tdiv (gcdI b d))))
          (loI (a * IntKind.i64.wrap (d.tdiv (gcdI b d)))) +
        wvI (sgnI (c * IntKind.i64.wrap (b.tdiv (gcdI b d)))) (hiI (c * IntKind.i64.wrap (b.tdiv (gcdI b d))))
          (loI (c * IntKind.i64.wrap (b.tdiv (gcdI b d))))))
    (hiI
        (wvI (sgnI (a * IntKind.i64.wrap (d.tdiv (gcdI b d)))) (hiI (a * IntKind.i64.wrap (d.tdiv (gcdI b d))))
            (loI (a * IntKind.i64.wrap (d.tdiv (gcdI b d)))) +
          wvI (sgnI (c * IntKind.i64.wrap (b.tdiv (gcdI b d)))) (hiI (c * IntKind.i64.wrap (b.tdiv (gcdI b d))))
            (loI (c * IntKind.i64.wrap (b.tdiv (gcdI b d))))) /
      gcdI (gcdI b d)
        ((hiI
                (wvI (sgnI (a * IntKind.i64.wrap (d.tdiv (gcdI b d)))) (hiI (a * IntKind.i64.wrap (d.tdiv (gcdI b d))))
                    (loI (a * IntKind.i64.wrap (d.tdiv (gcdI b d)))) +
                  wvI (sgnI (c * IntKind.i64.wrap (b.tdiv (gcdI b d)))) (hiI (c * IntKind.i64.wrap (b.tdiv (gcdI b d))))
                    (loI (c * IntKind.i64.wrap (b.tdiv (gcdI b d))))) *
              1152921504606846976 +
            loI
              (wvI (sgnI (a * IntKind.i64.wrap (d.tdiv (gcdI b d)))) (hiI (a * IntKind.i64.wrap (d.tdiv (gcdI b d))))
                  (loI (a * IntKind.i64.wrap (d.tdiv (gcdI b d)))) +
                wvI (sgnI (c * IntKind.i64.wrap (b.tdiv (gcdI b d)))) (hiI (c * IntKind.i64.wrap (b.tdiv (gcdI b d))))
                  (loI (c * IntKind.i64.wrap (b.tdiv (gcdI b d)))))) %
          gcdI b d))
    ((hiI
              (wvI (sgnI (a * IntKind.i64.wrap (d.tdiv (gcdI b d)))) (hiI (a * IntKind.i64.wrap (d.tdiv (gcdI b d))))
                  (loI (a * IntKind.i64.wrap (d.tdiv (gcdI b d)))) +
                wvI (sgnI (c * IntKind.i64.wrap (b.tdiv (gcdI b d)))) (hiI (c * IntKind.i64.wrap (b.tdiv (gcdI b d))))
                  (loI (c * IntKind.i64.wrap (b.tdiv (gcdI b d))))) %
            gcdI (gcdI b d)
              ((hiI
                      (wvI (sgnI (a * IntKind.i64.wrap (d.tdiv (gcdI b d))))
                          (hiI (a * IntKind.i64.wrap (d.tdiv (gcdI b d))))
                          (loI (a * IntKind.i64.wrap (d.tdiv (gcdI b d)))) +
                        wvI (sgnI (c * IntKind.i64.wrap (b.tdiv (gcdI b d))))
                          (hiI (c * IntKind.i64.wrap (b.tdiv (gcdI b d))))
                          (loI (c * IntKind.i64.wrap (b.tdiv (gcdI b d))))) *
                    1152921504606846976 +
                  loI
                    (wvI (sgnI (a * IntKind.i64.wrap (d.tdiv (gcdI b d))))
                        (hiI (a * IntKind.i64.wrap (d.tdiv (gcdI b d))))
                        (loI (a * IntKind.i64.wrap (d.tdiv (gcdI b d)))) +
                      wvI (sgnI (c * IntKind.i64.wrap (b.tdiv (gcdI b d))))
                        (hiI (c * IntKind.i64.wrap (b.tdiv (gcdI b d))))
                        (loI (c * IntKind.i64.wrap (b.tdiv (gcdI b d)))))) %
                gcdI b d) *
          1152921504606846976 +
        loI
          (wvI (sgnI (a * IntKind.i64.wrap (d.tdiv (gcdI b d)))) (hiI (a * IntKind.i64.wrap (d.tdiv (gcdI b d))))
              (loI (a * IntKind.i64.wrap (d.tdiv (gcdI b d)))) +
            wvI (sgnI (c * IntKind.i64.wrap (b.tdiv (gcdI b d)))) (hiI (c * IntKind.i64.wrap (b.tdiv (gcdI b d))))
              (loI (c * IntKind.i64.wrap (b.tdiv (gcdI b d)))))) /
      gcdI (gcdI b d)
        ((hiI
                (wvI (sgnI (a * IntKind.i64.wrap (d.tdiv (gcdI b d)))) (hiI (a * IntKind.i64.wrap (d.tdiv (gcdI b d))))
                    (loI (a * IntKind.i64.wrap (d.tdiv (gcdI b d)))) +
                  wvI (sgnI (c * IntKind.i64.wrap (b.tdiv (gcdI b d)))) (hiI (c * IntKind.i64.wrap (b.tdiv (gcdI b d))))
                    (loI (c * IntKind.i64.wrap (b.tdiv (gcdI b d))))) *
              1152921504606846976 +
            loI
              (wvI (sgnI (a * IntKind.i64.wrap (d.tdiv (gcdI b d)))) (hiI (a * IntKind.i64.wrap (d.tdiv (gcdI b d))))
                  (loI (a * IntKind.i64.wrap (d.tdiv (gcdI b d)))) +
                wvI (sgnI (c * IntKind.i64.wrap (b.tdiv (gcdI b d)))) (hiI (c * IntKind.i64.wrap (b.tdiv (gcdI b d))))
                  (loI (c * IntKind.i64.wrap (b.tdiv (gcdI b d)))))) %
          gcdI b d)) &&
  isW
    (sgnI
      (IntKind.i64.wrap (b.tdiv (gcdI b d)) *
        IntKind.i64.wrap
          (d.tdiv
            (gcdI (gcdI b d)
              ((hiI
                      (wvI (sgnI (a * IntKind.i64.wrap (d.tdiv (gcdI b d))))
                          (hiI (a * IntKind.i64.wrap (d.tdiv (gcdI b d))))
                          (loI (a * IntKind.i64.wrap (d.tdiv (gcdI b d)))) +
                        wvI (sgnI (c * IntKind.i64.wrap (b.tdiv (gcdI b d))))
                          (hiI (c * IntKind.i64.wrap (b.tdiv (gcdI b d))))
                          (loI (c * IntKind.i64.wrap (b.tdiv (gcdI b d))))) *
                    1152921504606846976 +
                  loI
                    (wvI (sgnI (a * IntKind.i64.wrap (d.tdiv (gcdI b d))))
                        (hiI (a * IntKind.i64.wrap (d.tdiv (gcdI b d))))
                        (loI (a * IntKind.i64.wrap (d.tdiv (gcdI b d)))) +
                      wvI (sgnI (c * IntKind.i64.wrap (b.tdiv (gcdI b d))))
                        (hiI (c * IntKind.i64.wrap (b.tdiv (gcdI b d))))
                        (loI (c * IntKind.i64.wrap (b.tdiv (gcdI b d)))))) %
                gcdI b d)))))
    (hiI
      (IntKind.i64.wrap (b.tdiv (gcdI b d)) *
        IntKind.i64.wrap
          (d.tdiv
            (gcdI (gcdI b d)
              ((hiI
                      (wvI (sgnI (a * IntKind.i64.wrap (d.tdiv (gcdI b d))))
                          (hiI (a * IntKind.i64.wrap (d.tdiv (gcdI b d))))
                          (loI (a * IntKind.i64.wrap (d.tdiv (gcdI b d)))) +
                        wvI (sgnI (c * IntKind.i64.wrap (b.tdiv (gcdI b d))))
                          (hiI (c * IntKind.i64.wrap (b.tdiv (gcdI b d))))
                          (loI (c * IntKind.i64.wrap (b.tdiv (gcdI b d))))) *
                    1152921504606846976 +
                  loI
                    (wvI (sgnI (a * IntKind.i64.wrap (d.tdiv (gcdI b d))))
                        (hiI (a * IntKind.i64.wrap (d.tdiv (gcdI b d))))
                        (loI (a * IntKind.i64.wrap (d.tdiv (gcdI b d)))) +
                      wvI (sgnI (c * IntKind.i64.wrap (b.tdiv (gcdI b d))))
                        (hiI (c * IntKind.i64.wrap (b.tdiv (gcdI b d))))
                        (loI (c * IntKind.i64.wrap (b.tdiv (gcdI b d)))))) %
                gcdI b d)))))
    (loI
      (IntKind.i64.wrap (b.tdiv (gcdI b d)) *
        IntKind.i64.wrap
          (d.tdiv
            (gcdI (gcdI b d)
              ((hiI
                      (wvI (sgnI (a * IntKind.i64.wrap (d.tdiv (gcdI b d))))
                          (hiI (a * IntKind.i64.wrap (d.tdiv (gcdI b d))))
                          (loI (a * IntKind.i64.wrap (d.tdiv (gcdI b d)))) +
                        wvI (sgnI (c * IntKind.i64.wrap (b.tdiv (gcdI b d))))
                          (hiI (c * IntKind.i64.wrap (b.tdiv (gcdI b d))))
                          (loI (c * IntKind.i64.wrap (b.tdiv (gcdI b d))))) *
                    1152921504606846976 +
                  loI
                    (wvI (sgnI (a * IntKind.i64.wrap (d.tdiv (gcdI b d))))
                        (hiI (a * IntKind.i64.wrap (d.tdiv (gcdI b d))))
                        (loI (a * IntKind.i64.wrap (d.tdiv (gcdI b d)))) +
                      wvI (sgnI (c * IntKind.i64.wrap (b.tdiv (gcdI b d))))
                        (hiI (c * IntKind.i64.wrap (b.tdiv (gcdI b d))))
                        (loI (c * IntKind.i64.wrap (b.tdiv (gcdI b d)))))) %
                gcdI b d)))))
def w27_c13 (a b c d : Int) : Bool := decide
    (hiI
              (wvI (sgnI (a * IntKind.i64.wrap (d.tdiv (gcdI b d)))) (hiI (a * IntKind.i64.wrap (d.tdiv (gcdI b d))))
                  (loI (a * IntKind.i64.wrap (d.tdiv (gcdI b d)))) +
                wvI (sgnI (c * IntKind.i64.wrap (b.tdiv (gcdI b d)))) (hiI (c * IntKind.i64.wrap (b.tdiv (gcdI b d))))
                  (loI (c * IntKind.i64.wrap (b.tdiv (gcdI b d))))) /
            gcdI (gcdI b d)
              ((hiI
                      (wvI (sgnI (a * IntKind.i64.wrap (d.tdiv (gcdI b d))))
                          (hiI (a * IntKind.i64.wrap (d.tdiv (gcdI b d))))
                          (loI (a * IntKind.i64.wrap (d.tdiv (gcdI b d)))) +
                        wvI (sgnI (c * IntKind.i64.wrap (b.tdiv (gcdI b d))))
                          (hiI (c * IntKind.i64.wrap (b.tdiv (gcdI b d))))
                          (loI (c * IntKind.i64.wrap (b.tdiv (gcdI b d))))) *
                    1152921504606846976 +
                  loI
                    (wvI (sgnI (a * IntKind.i64.wrap (d.tdiv (gcdI b d))))
                        (hiI (a * IntKind.i64.wrap (d.tdiv (gcdI b d))))
                        (loI (a * IntKind.i64.wrap (d.tdiv (gcdI b d)))) +
                      wvI (sgnI (c * IntKind.i64.wrap (b.tdiv (gcdI b d))))
                        (hiI (c * IntKind.i64.wrap (b.tdiv (gcdI b d))))
                        (loI (c * IntKind.i64.wrap (b.tdiv (gcdI b d)))))) %
                gcdI b d) *
          1152921504606846976 +
        (hiI
                  (wvI (sgnI (a * IntKind.i64.wrap (d.tdiv (gcdI b d))))
                      (hiI (a * IntKind.i64.wrap (d.tdiv (gcdI b d))))
                      (loI (a * IntKind.i64.wrap (d.tdiv (gcdI b d)))) +
                    wvI (sgnI (c * IntKind.i64.wrap (b.tdiv (gcdI b d))))
                      (hiI (c * IntKind.i64.wrap (b.tdiv (gcdI b d))))
                      (loI (c * IntKind.i64.wrap (b.tdiv (gcdI b d))))) %
                gcdI (gcdI b d)
                  ((hiI
                          (wvI (sgnI (a * IntKind.i64.wrap (d.tdiv (gcdI b d))))
                              (hiI (a * IntKind.i64.wrap (d.tdiv (gcdI b d))))
                              (loI (a * IntKind.i64.wrap (d.tdiv (gcdI b d)))) +
                            wvI (sgnI (c * IntKind.i64.wrap (b.tdiv (gcdI b d))))
                              (hiI (c * IntKind.i64.wrap (b.tdiv (gcdI b d))))
                              (loI (c * IntKind.i64.wrap (b.tdiv (gcdI b d))))) *
                        1152921504606846976 +
                      loI
                        (wvI (sgnI (a * IntKind.i64.wrap (d.tdiv (gcdI b d))))
                            (hiI (a * IntKind.i64.wrap (d.tdiv (gcdI b d))))
                            (loI (a * IntKind.i64.wrap (d.tdiv (gcdI b d)))) +
                          wvI (sgnI (c * IntKind.i64.wrap (b.tdiv (gcdI b d))))
                            (hiI (c * IntKind.i64.wrap (b.tdiv (gcdI b d))))
                            (loI (c * IntKind.i64.wrap (b.tdiv (gcdI b d)))))) %
                    gcdI b d) *
              1152921504606846976 +
            loI
              (wvI (sgnI (a * IntKind.i64.wrap (d.tdiv (gcdI b d)))) (hiI (a * IntKind.i64.wrap (d.tdiv (gcdI b d))))
                  (loI (a * IntKind.i64.wrap (d.tdiv (gcdI b d)))) +
                wvI (sgnI (c * IntKind.i64.wrap (b.tdiv (gcdI b d)))) (hiI (c * IntKind.i64.wrap (b.tdiv (gcdI b d))))
                  (loI (c * IntKind.i64.wrap (b.tdiv (gcdI b d)))))) /
          gcdI (gcdI b d)
            ((hiI
                    (wvI (sgnI (a * IntKind.i64.wrap (d.tdiv (gcdI b d))))
                        (hiI (a * IntKind.i64.wrap (d.tdiv (gcdI b d))))
                        (loI (a * IntKind.i64.wrap (d.tdiv (gcdI b d)))) +
                      wvI (sgnI (c * IntKind.i64.wrap (b.tdiv (gcdI b d))))
                        (hiI (c * IntKind.i64.wrap (b.tdiv (gcdI b d))))
                        (loI (c * IntKind.i64.wrap (b.tdiv (gcdI b d))))) *
                  1152921504606846976 +
                loI
                  (wvI (sgnI (a * IntKind.i64.wrap (d.tdiv (gcdI b d))))
                      (hiI (a * IntKind.i64.wrap (d.tdiv (gcdI b d))))
                      (loI (a * IntKind.i64.wrap (d.tdiv (gcdI b d)))) +
                    wvI (sgnI (c * IntKind.i64.wrap (b.tdiv (gcdI b d))))
                      (hiI (c * IntKind.i64.wrap (b.tdiv (gcdI b d))))
                      (loI (c * IntKind.i64.wrap (b.tdiv (gcdI b d)))))) %
              gcdI b d) ≤
      1152921504606846976) &&
  decide
    (hiI
            (IntKind.i64.wrap (b.tdiv (gcdI b d)) *
              IntKind.i64.wrap
                (d.tdiv
                  (gcdI (gcdI b d)
                    ((hiI
                            (wvI (sgnI (a * IntKind.i64.wrap (d.tdiv (gcdI b d))))
                                (hiI (a * IntKind.i64.wrap (d.tdiv (gcdI b d))))
                                (loI (a * IntKind.i64.wrap (d.tdiv (gcdI b d)))) +
                              wvI (sgnI (c * IntKind.i64.wrap (b.tdiv (gcdI b d))))
                                (hiI (c * IntKind.i64.wrap (b.tdiv (gcdI b d))))
                                (loI (c * IntKind.i64.wrap (b.tdiv (gcdI b d))))) *
                          1152921504606846976 +
                        loI
                          (wvI (sgnI (a * IntKind.i64.wrap (d.tdiv (gcdI b d))))
                              (hiI (a * IntKind.i64.wrap (d.tdiv (gcdI b d))))
                              (loI (a * IntKind.i64.wrap (d.tdiv (gcdI b d)))) +
                            wvI (sgnI (c * IntKind.i64.wrap (b.tdiv (gcdI b d))))
                              (hiI (c * IntKind.i64.wrap (b.tdiv (gcdI b d))))
                              (loI (c * IntKind.i64.wrap (b.tdiv (gcdI b d)))))) %
                      gcdI b d)))) *
          1152921504606846976 +
        loI
          (IntKind.i64.wrap (b.tdiv (gcdI b d)) *
            IntKind.i64.wrap
              (d.tdiv
                (gcdI (gcdI b d)
                  ((hiI
                          (wvI (sgnI (a * IntKind.i64.wrap (d.tdiv (gcdI b d))))
                              (hiI (a * IntKind.i64.wrap (d.tdiv (gcdI b d))))
                              (loI (a * IntKind.i64.wrap (d.tdiv (gcdI b d)))) +
                            wvI (sgnI (c * IntKind.i64.wrap (b.tdiv (gcdI b d))))
                              (hiI (c * IntKind.i64.wrap (b.tdiv (gcdI b d))))
                              (loI (c * IntKind.i64.wrap (b.tdiv (gcdI b d))))) *
                        1152921504606846976 +
                      loI
                        (wvI (sgnI (a * IntKind.i64.wrap (d.tdiv (gcdI b d))))
                            (hiI (a * IntKind.i64.wrap (d.tdiv (gcdI b d))))
                            (loI (a * IntKind.i64.wrap (d.tdiv (gcdI b d)))) +
                          wvI (sgnI (c * IntKind.i64.wrap (b.tdiv (gcdI b d))))
                            (hiI (c * IntKind.i64.wrap (b.tdiv (gcdI b d))))
                            (loI (c * IntKind.i64.wrap (b.tdiv (gcdI b d)))))) %
                    gcdI b d)))) ≤
      1152921504606846976)
theorem w27_0_ok (a b c d : Int) (hALL : allB [(w27_c0 a b c d, false), (w27_c1 a b c d, false), (w27_c2 a b c d, true), (w27_c3 a b c d, true), (w27_c4 a b c d, true), (w27_c3 a b c d, true), (w27_c5 a b c d, true), (w27_c6 a b c d, true), (w27_c7 a b c d, true), (w27_c8 a b c d, true), (w27_c9 a b c d, true), (w27_c3 a b c d, true), (w27_c10 a b c d, true), (w27_c11 a b c d, true), (w27_c12 a b c d, true), (w27_c13 a b c d, true)] = true) : (evFnT Try.prog (spOf [e14m, e40, e55, e56, e57, e58]) (inlOf []) extD (cKD [e14m, e40, e55, e56, e57, e58] []) (fun _ => .unroll 0) Try.f14 [.agg [.int .i64 a, .int .i64 b], .agg [.int .i64 c, .int .i64 d]] [] (fun r _ => .ofOpt (some r))).run = some (Res.ret
  (AV.tup
    [AV.agg
        [AV.int IntKind.i64
            (wvI
              (sgnI
                (wvI (sgnI (a * IntKind.i64.wrap (d.tdiv (gcdI b d)))) (hiI (a * IntKind.i64.wrap (d.tdiv (gcdI b d))))
                    (loI (a * IntKind.i64.wrap (d.tdiv (gcdI b d)))) +
                  wvI (sgnI (c * IntKind.i64.wrap (b.tdiv (gcdI b d)))) (hiI (c * IntKind.i64.wrap (b.tdiv (gcdI b d))))
                    (loI (c * IntKind.i64.wrap (b.tdiv (gcdI b d))))))
              (hiI
                  (wvI (sgnI (a * IntKind.i64.wrap (d.tdiv (gcdI b d))))
                      (hiI (a * IntKind.i64.wrap (d.tdiv (gcdI b d))))
                      (loI (a * IntKind.i64.wrap (d.tdiv (gcdI b d)))) +
                    wvI (sgnI (c * IntKind.i64.wrap (b.tdiv (gcdI b d))))
                      (hiI (c * IntKind.i64.wrap (b.tdiv (gcdI b d))))
                      (loI (c * IntKind.i64.wrap (b.tdiv (gcdI b d))))) /
                gcdI (gcdI b d)
                  ((hiI
                          (wvI (sgnI (a * IntKind.i64.wrap (d.tdiv (gcdI b d))))
                              (hiI (a * IntKind.i64.wrap (d.tdiv (gcdI b d))))
                              (loI (a * IntKind.i64.wrap (d.tdiv (gcdI b d)))) +
                            wvI (sgnI (c * IntKind.i64.wrap (b.tdiv (gcdI b d))))
                              (hiI (c * IntKind.i64.wrap (b.tdiv (gcdI b d))))
                              (loI (c * IntKind.i64.wrap (b.tdiv (gcdI b d))))) *
                        1152921504606846976 +
                      loI
                        (wvI (sgnI (a * IntKind.i64.wrap (d.tdiv (gcdI b d))))
                            (hiI (a * IntKind.i64.wrap (d.tdiv (gcdI b d))))
                            (loI (a * IntKind.i64.wrap (d.tdiv (gcdI b d)))) +
                          wvI (sgnI (c * IntKind.i64.wrap (b.tdiv (gcdI b d))))
                            (hiI (c * IntKind.i64.wrap (b.tdiv (gcdI b d))))
                            (loI (c * IntKind.i64.wrap (b.tdiv (gcdI b d)))))) %
                    gcdI b d))
              ((hiI
                        (wvI (sgnI (a * IntKind.i64.wrap (d.tdiv (gcdI b d))))
                            (hiI (a * IntKind.i64.wrap (d.tdiv (gcdI b d))))
                            (loI (a * IntKind.i64.wrap (d.tdiv (gcdI b d)))) +
                          wvI (sgnI (c * IntKind.i64.wrap (b.tdiv (gcdI b d))))
                            (hiI (c * IntKind.i64.wrap (b.tdiv (gcdI b d))))
                            (loI (c * IntKind.i64.wrap (b.tdiv (gcdI b d))))) %
                      gcdI (gcdI b d)
                        ((hiI
                                (wvI (sgnI (a * IntKind.i64.wrap (d.tdiv (gcdI b d))))
                                    (hiI (a * IntKind.i64.wrap (d.tdiv (gcdI b d))))
                                    (loI (a * IntKind.i64.wrap (d.tdiv (gcdI b d)))) +
                                  wvI (sgnI (c * IntKind.i64.wrap (b.tdiv (gcdI b d))))
                                    (hiI (c * IntKind.i64.wrap (b.tdiv (gcdI b d))))
                                    (loI (c * IntKind.i64.wrap (b.tdiv (gcdI b d))))) *
                              1152921504606846976 +
                            loI
                              (wvI (sgnI (a * IntKind.i64.wrap (d.tdiv (gcdI b d))))
                                  (hiI (a * IntKind.i64.wrap (d.tdiv (gcdI b d))))
                                  (loI (a * IntKind.i64.wrap (d.tdiv (gcdI b d)))) +
                                wvI (sgnI (c * IntKind.i64.wrap (b.tdiv (gcdI b d))))
                                  (hiI (c * IntKind.i64.wrap (b.tdiv (gcdI b d))))
                                  (loI (c * IntKind.i64.wrap (b.tdiv (gcdI b d)))))) %
                          gcdI b d) *
                    1152921504606846976 +
                  loI
                    (wvI (sgnI (a * IntKind.i64.wrap (d.tdiv (gcdI b d))))
                        (hiI (a * IntKind.i64.wrap (d.tdiv (gcdI b d))))
                        (loI (a * IntKind.i64.wrap (d.tdiv (gcdI b d)))) +
                      wvI (sgnI (c * IntKind.i64.wrap (b.tdiv (gcdI b d))))
                        (hiI (c * IntKind.i64.wrap (b.tdiv (gcdI b d))))
                        (loI (c * IntKind.i64.wrap (b.tdiv (gcdI b d)))))) /
                gcdI (gcdI b d)
                  ((hiI
                          (wvI (sgnI (a * IntKind.i64.wrap (d.tdiv (gcdI b d))))
                              (hiI (a * IntKind.i64.wrap (d.tdiv (gcdI b d))))
                              (loI (a * IntKind.i64.wrap (d.tdiv (gcdI b d)))) +
                            wvI (sgnI (c * IntKind.i64.wrap (b.tdiv (gcdI b d))))
                              (hiI (c * IntKind.i64.wrap (b.tdiv (gcdI b d))))
                              (loI (c * IntKind.i64.wrap (b.tdiv (gcdI b d))))) *
                        1152921504606846976 +
                      loI
                        (wvI (sgnI (a * IntKind.i64.wrap (d.tdiv (gcdI b d))))
                            (hiI (a * IntKind.i64.wrap (d.tdiv (gcdI b d))))
                            (loI (a * IntKind.i64.wrap (d.tdiv (gcdI b d)))) +
                          wvI (sgnI (c * IntKind.i64.wrap (b.tdiv (gcdI b d))))
                            (hiI (c * IntKind.i64.wrap (b.tdiv (gcdI b d))))
                            (loI (c * IntKind.i64.wrap (b.tdiv (gcdI b d)))))) %
                    gcdI b d))),
          AV.int IntKind.i64
            (wvI
              (sgnI
                (IntKind.i64.wrap (b.tdiv (gcdI b d)) *
                  IntKind.i64.wrap
                    (d.tdiv
                      (gcdI (gcdI b d)
                        ((hiI
                                (wvI (sgnI (a * IntKind.i64.wrap (d.tdiv (gcdI b d))))
                                    (hiI (a * IntKind.i64.wrap (d.tdiv (gcdI b d))))
                                    (loI (a * IntKind.i64.wrap (d.tdiv (gcdI b d)))) +
                                  wvI (sgnI (c * IntKind.i64.wrap (b.tdiv (gcdI b d))))
                                    (hiI (c * IntKind.i64.wrap (b.tdiv (gcdI b d))))
                                    (loI (c * IntKind.i64.wrap (b.tdiv (gcdI b d))))) *
                              1152921504606846976 +
                            loI
                              (wvI (sgnI (a * IntKind.i64.wrap (d.tdiv (gcdI b d))))
                                  (hiI (a * IntKind.i64.wrap (d.tdiv (gcdI b d))))
                                  (loI (a * IntKind.i64.wrap (d.tdiv (gcdI b d)))) +
                                wvI (sgnI (c * IntKind.i64.wrap (b.tdiv (gcdI b d))))
                                  (hiI (c * IntKind.i64.wrap (b.tdiv (gcdI b d))))
                                  (loI (c * IntKind.i64.wrap (b.tdiv (gcdI b d)))))) %
                          gcdI b d)))))
              (hiI
                (IntKind.i64.wrap (b.tdiv (gcdI b d)) *
                  IntKind.i64.wrap
                    (d.tdiv
                      (gcdI (gcdI b d)
                        ((hiI
                                (wvI (sgnI (a * IntKind.i64.wrap (d.tdiv (gcdI b d))))
                                    (hiI (a * IntKind.i64.wrap (d.tdiv (gcdI b d))))
                                    (loI (a * IntKind.i64.wrap (d.tdiv (gcdI b d)))) +
                                  wvI (sgnI (c * IntKind.i64.wrap (b.tdiv (gcdI b d))))
                                    (hiI (c * IntKind.i64.wrap (b.tdiv (gcdI b d))))
                                    (loI (c * IntKind.i64.wrap (b.tdiv (gcdI b d))))) *
                              1152921504606846976 +
                            loI
                              (wvI (sgnI (a * IntKind.i64.wrap (d.tdiv (gcdI b d))))
                                  (hiI (a * IntKind.i64.wrap (d.tdiv (gcdI b d))))
                                  (loI (a * IntKind.i64.wrap (d.tdiv (gcdI b d)))) +
                                wvI (sgnI (c * IntKind.i64.wrap (b.tdiv (gcdI b d))))
                                  (hiI (c * IntKind.i64.wrap (b.tdiv (gcdI b d))))
                                  (loI (c * IntKind.i64.wrap (b.tdiv (gcdI b d)))))) %
                          gcdI b d)))))
              (loI
                (IntKind.i64.wrap (b.tdiv (gcdI b d)) *
                  IntKind.i64.wrap
                    (d.tdiv
                      (gcdI (gcdI b d)
                        ((hiI
                                (wvI (sgnI (a * IntKind.i64.wrap (d.tdiv (gcdI b d))))
                                    (hiI (a * IntKind.i64.wrap (d.tdiv (gcdI b d))))
                                    (loI (a * IntKind.i64.wrap (d.tdiv (gcdI b d)))) +
                                  wvI (sgnI (c * IntKind.i64.wrap (b.tdiv (gcdI b d))))
                                    (hiI (c * IntKind.i64.wrap (b.tdiv (gcdI b d))))
                                    (loI (c * IntKind.i64.wrap (b.tdiv (gcdI b d))))) *
                              1152921504606846976 +
                            loI
                              (wvI (sgnI (a * IntKind.i64.wrap (d.tdiv (gcdI b d))))
                                  (hiI (a * IntKind.i64.wrap (d.tdiv (gcdI b d))))
                                  (loI (a * IntKind.i64.wrap (d.tdiv (gcdI b d)))) +
                                wvI (sgnI (c * IntKind.i64.wrap (b.tdiv (gcdI b d))))
                                  (hiI (c * IntKind.i64.wrap (b.tdiv (gcdI b d))))
                                  (loI (c * IntKind.i64.wrap (b.tdiv (gcdI b d)))))) %
                          gcdI b d))))))],
      AV.int IntKind.i64 0]) : Res) := way (gs := [false, false, false, false, true, true, true]) (by kernel_rfl) hALL
theorem w27_1_ok (a b c d : Int) (hALL : allB [(w27_c0 a b c d, false), (w27_c1 a b c d, false), (w27_c2 a b c d, true), (w27_c3 a b c d, true), (w27_c4 a b c d, true), (w27_c3 a b c d, true), (w27_c5 a b c d, true), (w27_c6 a b c d, true), (w27_c7 a b c d, true), (w27_c8 a b c d, true), (w27_c9 a b c d, true), (w27_c3 a b c d, true), (w27_c10 a b c d, true), (w27_c11 a b c d, true), (w27_c12 a b c d, true), (w27_c13 a b c d, false)] = true) : (evFnT Try.prog (spOf [e14m, e40, e55, e56, e57, e58]) (inlOf []) extD (cKD [e14m, e40, e55, e56, e57, e58] []) (fun _ => .unroll 0) Try.f14 [.agg [.int .i64 a, .int .i64 b], .agg [.int .i64 c, .int .i64 d]] [] (fun r _ => .ofOpt (some r))).run = some (Res.ret (AV.tup [AV.agg [AV.int IntKind.i64 0, AV.int IntKind.i64 0], AV.int IntKind.i64 14]) : Res) := way (gs := [false, false, false, false, true, true, false]) (by kernel_rfl) hALL
theorem w27_cases (a b c d : Int) {Q : Option (Res) → Prop} (H0 : (ckI a b != 0) = false) (H1 : (ckI c d != 0) = false) (H2 : (decide (0 ≤ b) && decide (0 ≤ d)) = true) (H3 : (!decide (gcdI b d = 0)) = true) (H4 : (inM a && inM (IntKind.i64.wrap (d.tdiv (gcdI b d)))) = true) (H5 : (inM c && inM (IntKind.i64.wrap (b.tdiv (gcdI b d)))) = true) (H6 : (isW (sgnI (a * IntKind.i64.wrap (d.tdiv (gcdI b d)))) (hiI (a * IntKind.i64.wrap (d.tdiv (gcdI b d))))
    (loI (a * IntKind.i64.wrap (d.tdiv (gcdI b d)))) &&
  isW (sgnI (c * IntKind.i64.wrap (b.tdiv (gcdI b d)))) (hiI (c * IntKind.i64.wrap (b.tdiv (gcdI b d))))
    (loI (c * IntKind.i64.wrap (b.tdiv (gcdI b d))))) = true) (H7 : (isW
    (sgnI
      (wvI (sgnI (a * IntKind.i64.wrap (d.tdiv (gcdI b d)))) (hiI (a * IntKind.i64.wrap (d.tdiv (gcdI b d))))
          (loI (a * IntKind.i64.wrap (d.tdiv (gcdI b d)))) +
        wvI (sgnI (c * IntKind.i64.wrap (b.tdiv (gcdI b d)))) (hiI (c * IntKind.i64.wrap (b.tdiv (gcdI b d))))
          (loI (c * IntKind.i64.wrap (b.tdiv (gcdI b d))))))
    (hiI
      (wvI (sgnI (a * IntKind.i64.wrap (d.tdiv (gcdI b d)))) (hiI (a * IntKind.i64.wrap (d.tdiv (gcdI b d))))
          (loI (a * IntKind.i64.wrap (d.tdiv (gcdI b d)))) +
        wvI (sgnI (c * IntKind.i64.wrap (b.tdiv (gcdI b d)))) (hiI (c * IntKind.i64.wrap (b.tdiv (gcdI b d))))
          (loI (c * IntKind.i64.wrap (b.tdiv (gcdI b d))))))
    (loI
      (wvI (sgnI (a * IntKind.i64.wrap (d.tdiv (gcdI b d)))) (hiI (a * IntKind.i64.wrap (d.tdiv (gcdI b d))))
          (loI (a * IntKind.i64.wrap (d.tdiv (gcdI b d)))) +
        wvI (sgnI (c * IntKind.i64.wrap (b.tdiv (gcdI b d)))) (hiI (c * IntKind.i64.wrap (b.tdiv (gcdI b d))))
          (loI (c * IntKind.i64.wrap (b.tdiv (gcdI b d)))))) &&
  decide (1 ≤ gcdI b d ∧ gcdI b d ≤ 1152921504606846976)) = true) (H8 : (decide (0 ≤ gcdI b d) &&
  decide
    (0 ≤
      (hiI
              (wvI (sgnI (a * IntKind.i64.wrap (d.tdiv (gcdI b d)))) (hiI (a * IntKind.i64.wrap (d.tdiv (gcdI b d))))
                  (loI (a * IntKind.i64.wrap (d.tdiv (gcdI b d)))) +
                wvI (sgnI (c * IntKind.i64.wrap (b.tdiv (gcdI b d)))) (hiI (c * IntKind.i64.wrap (b.tdiv (gcdI b d))))
                  (loI (c * IntKind.i64.wrap (b.tdiv (gcdI b d))))) *
            1152921504606846976 +
          loI
            (wvI (sgnI (a * IntKind.i64.wrap (d.tdiv (gcdI b d)))) (hiI (a * IntKind.i64.wrap (d.tdiv (gcdI b d))))
                (loI (a * IntKind.i64.wrap (d.tdiv (gcdI b d)))) +
              wvI (sgnI (c * IntKind.i64.wrap (b.tdiv (gcdI b d)))) (hiI (c * IntKind.i64.wrap (b.tdiv (gcdI b d))))
                (loI (c * IntKind.i64.wrap (b.tdiv (gcdI b d)))))) %
        gcdI b d)) = true) (H9 : (isW
    (sgnI
      (wvI (sgnI (a * IntKind.i64.wrap (d.tdiv (gcdI b d)))) (hiI (a * IntKind.i64.wrap (d.tdiv (gcdI b d))))
          (loI (a * IntKind.i64.wrap (d.tdiv (gcdI b d)))) +
        wvI (sgnI (c * IntKind.i64.wrap (b.tdiv (gcdI b d)))) (hiI (c * IntKind.i64.wrap (b.tdiv (gcdI b d))))
          (loI (c * IntKind.i64.wrap (b.tdiv (gcdI b d))))))
    (hiI
      (wvI (sgnI (a * IntKind.i64.wrap (d.tdiv (gcdI b d)))) (hiI (a * IntKind.i64.wrap (d.tdiv (gcdI b d))))
          (loI (a * IntKind.i64.wrap (d.tdiv (gcdI b d)))) +
        wvI (sgnI (c * IntKind.i64.wrap (b.tdiv (gcdI b d)))) (hiI (c * IntKind.i64.wrap (b.tdiv (gcdI b d))))
          (loI (c * IntKind.i64.wrap (b.tdiv (gcdI b d))))))
    (loI
      (wvI (sgnI (a * IntKind.i64.wrap (d.tdiv (gcdI b d)))) (hiI (a * IntKind.i64.wrap (d.tdiv (gcdI b d))))
          (loI (a * IntKind.i64.wrap (d.tdiv (gcdI b d)))) +
        wvI (sgnI (c * IntKind.i64.wrap (b.tdiv (gcdI b d)))) (hiI (c * IntKind.i64.wrap (b.tdiv (gcdI b d))))
          (loI (c * IntKind.i64.wrap (b.tdiv (gcdI b d)))))) &&
  decide
    (1 ≤
        gcdI (gcdI b d)
          ((hiI
                  (wvI (sgnI (a * IntKind.i64.wrap (d.tdiv (gcdI b d))))
                      (hiI (a * IntKind.i64.wrap (d.tdiv (gcdI b d))))
                      (loI (a * IntKind.i64.wrap (d.tdiv (gcdI b d)))) +
                    wvI (sgnI (c * IntKind.i64.wrap (b.tdiv (gcdI b d))))
                      (hiI (c * IntKind.i64.wrap (b.tdiv (gcdI b d))))
                      (loI (c * IntKind.i64.wrap (b.tdiv (gcdI b d))))) *
                1152921504606846976 +
              loI
                (wvI (sgnI (a * IntKind.i64.wrap (d.tdiv (gcdI b d)))) (hiI (a * IntKind.i64.wrap (d.tdiv (gcdI b d))))
                    (loI (a * IntKind.i64.wrap (d.tdiv (gcdI b d)))) +
                  wvI (sgnI (c * IntKind.i64.wrap (b.tdiv (gcdI b d)))) (hiI (c * IntKind.i64.wrap (b.tdiv (gcdI b d))))
                    (loI (c * IntKind.i64.wrap (b.tdiv (gcdI b d)))))) %
            gcdI b d) ∧
      gcdI (gcdI b d)
          ((hiI
                  (wvI (sgnI (a * IntKind.i64.wrap (d.tdiv (gcdI b d))))
                      (hiI (a * IntKind.i64.wrap (d.tdiv (gcdI b d))))
                      (loI (a * IntKind.i64.wrap (d.tdiv (gcdI b d)))) +
                    wvI (sgnI (c * IntKind.i64.wrap (b.tdiv (gcdI b d))))
                      (hiI (c * IntKind.i64.wrap (b.tdiv (gcdI b d))))
                      (loI (c * IntKind.i64.wrap (b.tdiv (gcdI b d))))) *
                1152921504606846976 +
              loI
                (wvI (sgnI (a * IntKind.i64.wrap (d.tdiv (gcdI b d)))) (hiI (a * IntKind.i64.wrap (d.tdiv (gcdI b d))))
                    (loI (a * IntKind.i64.wrap (d.tdiv (gcdI b d)))) +
                  wvI (sgnI (c * IntKind.i64.wrap (b.tdiv (gcdI b d)))) (hiI (c * IntKind.i64.wrap (b.tdiv (gcdI b d))))
                    (loI (c * IntKind.i64.wrap (b.tdiv (gcdI b d)))))) %
            gcdI b d) ≤
        1152921504606846976)) = true) (H10 : (!decide
    (gcdI (gcdI b d)
        ((hiI
                (wvI (sgnI (a * IntKind.i64.wrap (d.tdiv (gcdI b d)))) (hiI (a * IntKind.i64.wrap (d.tdiv (gcdI b d))))
                    (loI (a * IntKind.i64.wrap (d.tdiv (gcdI b d)))) +
                  wvI (sgnI (c * IntKind.i64.wrap (b.tdiv (gcdI b d)))) (hiI (c * IntKind.i64.wrap (b.tdiv (gcdI b d))))
                    (loI (c * IntKind.i64.wrap (b.tdiv (gcdI b d))))) *
              1152921504606846976 +
            loI
              (wvI (sgnI (a * IntKind.i64.wrap (d.tdiv (gcdI b d)))) (hiI (a * IntKind.i64.wrap (d.tdiv (gcdI b d))))
                  (loI (a * IntKind.i64.wrap (d.tdiv (gcdI b d)))) +
                wvI (sgnI (c * IntKind.i64.wrap (b.tdiv (gcdI b d)))) (hiI (c * IntKind.i64.wrap (b.tdiv (gcdI b d))))
                  (loI (c * IntKind.i64.wrap (b.tdiv (gcdI b d)))))) %
          gcdI b d) =
      0)) = true) (H11 : (inM (IntKind.i64.wrap (b.tdiv (gcdI b d))) &&
  inM
    (IntKind.i64.wrap
      (d.tdiv
        (gcdI (gcdI b d)
          ((hiI
                  (wvI (sgnI (a * IntKind.i64.wrap (d.tdiv (gcdI b d))))
                      (hiI (a * IntKind.i64.wrap (d.tdiv (gcdI b d))))
                      (loI (a * IntKind.i64.wrap (d.tdiv (gcdI b d)))) +
                    wvI (sgnI (c * IntKind.i64.wrap (b.tdiv (gcdI b d))))
                      (hiI (c * IntKind.i64.wrap (b.tdiv (gcdI b d))))
                      (loI (c * IntKind.i64.wrap (b.tdiv (gcdI b d))))) *
                1152921504606846976 +
              loI
                (wvI (sgnI (a * IntKind.i64.wrap (d.tdiv (gcdI b d)))) (hiI (a * IntKind.i64.wrap (d.tdiv (gcdI b d))))
                    (loI (a * IntKind.i64.wrap (d.tdiv (gcdI b d)))) +
                  wvI (sgnI (c * IntKind.i64.wrap (b.tdiv (gcdI b d)))) (hiI (c * IntKind.i64.wrap (b.tdiv (gcdI b d))))
                    (loI (c * IntKind.i64.wrap (b.tdiv (gcdI b d)))))) %
            gcdI b d))))) = true) (H12 : (isW
    (sgnI
      (wvI (sgnI (a * IntKind.i64.wrap (d.tdiv (gcdI b d)))) (hiI (a * IntKind.i64.wrap (d.tdiv (gcdI b d))))
          (loI (a * IntKind.i64.wrap (d.tdiv (gcdI b d)))) +
        wvI (sgnI (c * IntKind.i64.wrap (b.tdiv (gcdI b d)))) (hiI (c * IntKind.i64.wrap (b.tdiv (gcdI b d))))
          (loI (c * IntKind.i64.wrap (b.tdiv (gcdI b d))))))
    (hiI
        (wvI (sgnI (a * IntKind.i64.wrap (d.tdiv (gcdI b d)))) (hiI (a * IntKind.i64.wrap (d.tdiv (gcdI b d))))
            (loI (a * IntKind.i64.wrap (d.tdiv (gcdI b d)))) +
          wvI (sgnI (c * IntKind.i64.wrap (b.tdiv (gcdI b d)))) (hiI (c * IntKind.i64.wrap (b.tdiv (gcdI b d))))
            (loI (c * IntKind.i64.wrap (b.tdiv (gcdI b d))))) /
      gcdI (gcdI b d)
        ((hiI
                (wvI (sgnI (a * IntKind.i64.wrap (d.tdiv (gcdI b d)))) (hiI (a * IntKind.i64.wrap (d.tdiv (gcdI b d))))
                    (loI (a * IntKind.i64.wrap (d.tdiv (gcdI b d)))) +
                  wvI (sgnI (c * IntKind.i64.wrap (b.tdiv (gcdI b d)))) (hiI (c * IntKind.i64.wrap (b.tdiv (gcdI b d))))
                    (loI (c * IntKind.i64.wrap (b.tdiv (gcdI b d))))) *
              1152921504606846976 +
            loI
              (wvI (sgnI (a * IntKind.i64.wrap (d.tdiv (gcdI b d)))) (hiI (a * IntKind.i64.wrap (d.tdiv (gcdI b d))))
                  (loI (a * IntKind.i64.wrap (d.tdiv (gcdI b d)))) +
                wvI (sgnI (c * IntKind.i64.wrap (b.tdiv (gcdI b d)))) (hiI (c * IntKind.i64.wrap (b.tdiv (gcdI b d))))
                  (loI (c * IntKind.i64.wrap (b.tdiv (gcdI b d)))))) %
          gcdI b d))
    ((hiI
              (wvI (sgnI (a * IntKind.i64.wrap (d.tdiv (gcdI b d)))) (hiI (a * IntKind.i64.wrap (d.tdiv (gcdI b d))))
                  (loI (a * IntKind.i64.wrap (d.tdiv (gcdI b d)))) +
                wvI (sgnI (c * IntKind.i64.wrap (b.tdiv (gcdI b d)))) (hiI (c * IntKind.i64.wrap (b.tdiv (gcdI b d))))
                  (loI (c * IntKind.i64.wrap (b.tdiv (gcdI b d))))) %
            gcdI (gcdI b d)
              ((hiI
                      (wvI (sgnI (a * IntKind.i64.wrap (d.tdiv (gcdI b d))))
                          (hiI (a * IntKind.i64.wrap (d.tdiv (gcdI b d))))
                          (loI (a * IntKind.i64.wrap (d.tdiv (gcdI b d)))) +
                        wvI (sgnI (c * IntKind.i64.wrap (b.tdiv (gcdI b d))))
                          (hiI (c * IntKind.i64.wrap (b.tdiv (gcdI b d))))
                          (loI (c * IntKind.i64.wrap (b.tdiv (gcdI b d))))) *
                    1152921504606846976 +
                  loI
                    (wvI (sgnI (a * IntKind.i64.wrap (d.tdiv (gcdI b d))))
                        (hiI (a * IntKind.i64.wrap (d.tdiv (gcdI b d))))
                        (loI (a * IntKind.i64.wrap (d.tdiv (gcdI b d)))) +
                      wvI (sgnI (c * IntKind.i64.wrap (b.tdiv (gcdI b d))))
                        (hiI (c * IntKind.i64.wrap (b.tdiv (gcdI b d))))
                        (loI (c * IntKind.i64.wrap (b.tdiv (gcdI b d)))))) %
                gcdI b d) *
          1152921504606846976 +
        loI
          (wvI (sgnI (a * IntKind.i64.wrap (d.tdiv (gcdI b d)))) (hiI (a * IntKind.i64.wrap (d.tdiv (gcdI b d))))
              (loI (a * IntKind.i64.wrap (d.tdiv (gcdI b d)))) +
            wvI (sgnI (c * IntKind.i64.wrap (b.tdiv (gcdI b d)))) (hiI (c * IntKind.i64.wrap (b.tdiv (gcdI b d))))
              (loI (c * IntKind.i64.wrap (b.tdiv (gcdI b d)))))) /
      gcdI (gcdI b d)
        ((hiI
                (wvI (sgnI (a * IntKind.i64.wrap (d.tdiv (gcdI b d)))) (hiI (a * IntKind.i64.wrap (d.tdiv (gcdI b d))))
                    (loI (a * IntKind.i64.wrap (d.tdiv (gcdI b d)))) +
                  wvI (sgnI (c * IntKind.i64.wrap (b.tdiv (gcdI b d)))) (hiI (c * IntKind.i64.wrap (b.tdiv (gcdI b d))))
                    (loI (c * IntKind.i64.wrap (b.tdiv (gcdI b d))))) *
              1152921504606846976 +
            loI
              (wvI (sgnI (a * IntKind.i64.wrap (d.tdiv (gcdI b d)))) (hiI (a * IntKind.i64.wrap (d.tdiv (gcdI b d))))
                  (loI (a * IntKind.i64.wrap (d.tdiv (gcdI b d)))) +
                wvI (sgnI (c * IntKind.i64.wrap (b.tdiv (gcdI b d)))) (hiI (c * IntKind.i64.wrap (b.tdiv (gcdI b d))))
                  (loI (c * IntKind.i64.wrap (b.tdiv (gcdI b d)))))) %
          gcdI b d)) &&
  isW
    (sgnI
      (IntKind.i64.wrap (b.tdiv (gcdI b d)) *
        IntKind.i64.wrap
          (d.tdiv
            (gcdI (gcdI b d)
              ((hiI
                      (wvI (sgnI (a * IntKind.i64.wrap (d.tdiv (gcdI b d))))
                          (hiI (a * IntKind.i64.wrap (d.tdiv (gcdI b d))))
                          (loI (a * IntKind.i64.wrap (d.tdiv (gcdI b d)))) +
                        wvI (sgnI (c * IntKind.i64.wrap (b.tdiv (gcdI b d))))
                          (hiI (c * IntKind.i64.wrap (b.tdiv (gcdI b d))))
                          (loI (c * IntKind.i64.wrap (b.tdiv (gcdI b d))))) *
                    1152921504606846976 +
                  loI
                    (wvI (sgnI (a * IntKind.i64.wrap (d.tdiv (gcdI b d))))
                        (hiI (a * IntKind.i64.wrap (d.tdiv (gcdI b d))))
                        (loI (a * IntKind.i64.wrap (d.tdiv (gcdI b d)))) +
                      wvI (sgnI (c * IntKind.i64.wrap (b.tdiv (gcdI b d))))
                        (hiI (c * IntKind.i64.wrap (b.tdiv (gcdI b d))))
                        (loI (c * IntKind.i64.wrap (b.tdiv (gcdI b d)))))) %
                gcdI b d)))))
    (hiI
      (IntKind.i64.wrap (b.tdiv (gcdI b d)) *
        IntKind.i64.wrap
          (d.tdiv
            (gcdI (gcdI b d)
              ((hiI
                      (wvI (sgnI (a * IntKind.i64.wrap (d.tdiv (gcdI b d))))
                          (hiI (a * IntKind.i64.wrap (d.tdiv (gcdI b d))))
                          (loI (a * IntKind.i64.wrap (d.tdiv (gcdI b d)))) +
                        wvI (sgnI (c * IntKind.i64.wrap (b.tdiv (gcdI b d))))
                          (hiI (c * IntKind.i64.wrap (b.tdiv (gcdI b d))))
                          (loI (c * IntKind.i64.wrap (b.tdiv (gcdI b d))))) *
                    1152921504606846976 +
                  loI
                    (wvI (sgnI (a * IntKind.i64.wrap (d.tdiv (gcdI b d))))
                        (hiI (a * IntKind.i64.wrap (d.tdiv (gcdI b d))))
                        (loI (a * IntKind.i64.wrap (d.tdiv (gcdI b d)))) +
                      wvI (sgnI (c * IntKind.i64.wrap (b.tdiv (gcdI b d))))
                        (hiI (c * IntKind.i64.wrap (b.tdiv (gcdI b d))))
                        (loI (c * IntKind.i64.wrap (b.tdiv (gcdI b d)))))) %
                gcdI b d)))))
    (loI
      (IntKind.i64.wrap (b.tdiv (gcdI b d)) *
        IntKind.i64.wrap
          (d.tdiv
            (gcdI (gcdI b d)
              ((hiI
                      (wvI (sgnI (a * IntKind.i64.wrap (d.tdiv (gcdI b d))))
                          (hiI (a * IntKind.i64.wrap (d.tdiv (gcdI b d))))
                          (loI (a * IntKind.i64.wrap (d.tdiv (gcdI b d)))) +
                        wvI (sgnI (c * IntKind.i64.wrap (b.tdiv (gcdI b d))))
                          (hiI (c * IntKind.i64.wrap (b.tdiv (gcdI b d))))
                          (loI (c * IntKind.i64.wrap (b.tdiv (gcdI b d))))) *
                    1152921504606846976 +
                  loI
                    (wvI (sgnI (a * IntKind.i64.wrap (d.tdiv (gcdI b d))))
                        (hiI (a * IntKind.i64.wrap (d.tdiv (gcdI b d))))
                        (loI (a * IntKind.i64.wrap (d.tdiv (gcdI b d)))) +
                      wvI (sgnI (c * IntKind.i64.wrap (b.tdiv (gcdI b d))))
                        (hiI (c * IntKind.i64.wrap (b.tdiv (gcdI b d))))
                        (loI (c * IntKind.i64.wrap (b.tdiv (gcdI b d)))))) %
                gcdI b d)))))) = true)
  (L0 : (decide
    (hiI
              (wvI (sgnI (a * IntKind.i64.wrap (d.tdiv (gcdI b d)))) (hiI (a * IntKind.i64.wrap (d.tdiv (gcdI b d))))
                  (loI (a * IntKind.i64.wrap (d.tdiv (gcdI b d)))) +
                wvI (sgnI (c * IntKind.i64.wrap (b.tdiv (gcdI b d)))) (hiI (c * IntKind.i64.wrap (b.tdiv (gcdI b d))))
                  (loI (c * IntKind.i64.wrap (b.tdiv (gcdI b d))))) /
            gcdI (gcdI b d)
              ((hiI
                      (wvI (sgnI (a * IntKind.i64.wrap (d.tdiv (gcdI b d))))
                          (hiI (a * IntKind.i64.wrap (d.tdiv (gcdI b d))))
                          (loI (a * IntKind.i64.wrap (d.tdiv (gcdI b d)))) +
                        wvI (sgnI (c * IntKind.i64.wrap (b.tdiv (gcdI b d))))
                          (hiI (c * IntKind.i64.wrap (b.tdiv (gcdI b d))))
                          (loI (c * IntKind.i64.wrap (b.tdiv (gcdI b d))))) *
                    1152921504606846976 +
                  loI
                    (wvI (sgnI (a * IntKind.i64.wrap (d.tdiv (gcdI b d))))
                        (hiI (a * IntKind.i64.wrap (d.tdiv (gcdI b d))))
                        (loI (a * IntKind.i64.wrap (d.tdiv (gcdI b d)))) +
                      wvI (sgnI (c * IntKind.i64.wrap (b.tdiv (gcdI b d))))
                        (hiI (c * IntKind.i64.wrap (b.tdiv (gcdI b d))))
                        (loI (c * IntKind.i64.wrap (b.tdiv (gcdI b d)))))) %
                gcdI b d) *
          1152921504606846976 +
        (hiI
                  (wvI (sgnI (a * IntKind.i64.wrap (d.tdiv (gcdI b d))))
                      (hiI (a * IntKind.i64.wrap (d.tdiv (gcdI b d))))
                      (loI (a * IntKind.i64.wrap (d.tdiv (gcdI b d)))) +
                    wvI (sgnI (c * IntKind.i64.wrap (b.tdiv (gcdI b d))))
                      (hiI (c * IntKind.i64.wrap (b.tdiv (gcdI b d))))
                      (loI (c * IntKind.i64.wrap (b.tdiv (gcdI b d))))) %
                gcdI (gcdI b d)
                  ((hiI
                          (wvI (sgnI (a * IntKind.i64.wrap (d.tdiv (gcdI b d))))
                              (hiI (a * IntKind.i64.wrap (d.tdiv (gcdI b d))))
                              (loI (a * IntKind.i64.wrap (d.tdiv (gcdI b d)))) +
                            wvI (sgnI (c * IntKind.i64.wrap (b.tdiv (gcdI b d))))
                              (hiI (c * IntKind.i64.wrap (b.tdiv (gcdI b d))))
                              (loI (c * IntKind.i64.wrap (b.tdiv (gcdI b d))))) *
                        1152921504606846976 +
                      loI
                        (wvI (sgnI (a * IntKind.i64.wrap (d.tdiv (gcdI b d))))
                            (hiI (a * IntKind.i64.wrap (d.tdiv (gcdI b d))))
                            (loI (a * IntKind.i64.wrap (d.tdiv (gcdI b d)))) +
                          wvI (sgnI (c * IntKind.i64.wrap (b.tdiv (gcdI b d))))
                            (hiI (c * IntKind.i64.wrap (b.tdiv (gcdI b d))))
                            (loI (c * IntKind.i64.wrap (b.tdiv (gcdI b d)))))) %
                    gcdI b d) *
              1152921504606846976 +
            loI
              (wvI (sgnI (a * IntKind.i64.wrap (d.tdiv (gcdI b d)))) (hiI (a * IntKind.i64.wrap (d.tdiv (gcdI b d))))
                  (loI (a * IntKind.i64.wrap (d.tdiv (gcdI b d)))) +
                wvI (sgnI (c * IntKind.i64.wrap (b.tdiv (gcdI b d)))) (hiI (c * IntKind.i64.wrap (b.tdiv (gcdI b d))))
                  (loI (c * IntKind.i64.wrap (b.tdiv (gcdI b d)))))) /
          gcdI (gcdI b d)
            ((hiI
                    (wvI (sgnI (a * IntKind.i64.wrap (d.tdiv (gcdI b d))))
                        (hiI (a * IntKind.i64.wrap (d.tdiv (gcdI b d))))
                        (loI (a * IntKind.i64.wrap (d.tdiv (gcdI b d)))) +
                      wvI (sgnI (c * IntKind.i64.wrap (b.tdiv (gcdI b d))))
                        (hiI (c * IntKind.i64.wrap (b.tdiv (gcdI b d))))
                        (loI (c * IntKind.i64.wrap (b.tdiv (gcdI b d))))) *
                  1152921504606846976 +
                loI
                  (wvI (sgnI (a * IntKind.i64.wrap (d.tdiv (gcdI b d))))
                      (hiI (a * IntKind.i64.wrap (d.tdiv (gcdI b d))))
                      (loI (a * IntKind.i64.wrap (d.tdiv (gcdI b d)))) +
                    wvI (sgnI (c * IntKind.i64.wrap (b.tdiv (gcdI b d))))
                      (hiI (c * IntKind.i64.wrap (b.tdiv (gcdI b d))))
                      (loI (c * IntKind.i64.wrap (b.tdiv (gcdI b d)))))) %
              gcdI b d) ≤
      1152921504606846976) &&
  decide
    (hiI
            (IntKind.i64.wrap (b.tdiv (gcdI b d)) *
              IntKind.i64.wrap
                (d.tdiv
                  (gcdI (gcdI b d)
                    ((hiI
                            (wvI (sgnI (a * IntKind.i64.wrap (d.tdiv (gcdI b d))))
                                (hiI (a * IntKind.i64.wrap (d.tdiv (gcdI b d))))
                                (loI (a * IntKind.i64.wrap (d.tdiv (gcdI b d)))) +
                              wvI (sgnI (c * IntKind.i64.wrap (b.tdiv (gcdI b d))))
                                (hiI (c * IntKind.i64.wrap (b.tdiv (gcdI b d))))
                                (loI (c * IntKind.i64.wrap (b.tdiv (gcdI b d))))) *
                          1152921504606846976 +
                        loI
                          (wvI (sgnI (a * IntKind.i64.wrap (d.tdiv (gcdI b d))))
                              (hiI (a * IntKind.i64.wrap (d.tdiv (gcdI b d))))
                              (loI (a * IntKind.i64.wrap (d.tdiv (gcdI b d)))) +
                            wvI (sgnI (c * IntKind.i64.wrap (b.tdiv (gcdI b d))))
                              (hiI (c * IntKind.i64.wrap (b.tdiv (gcdI b d))))
                              (loI (c * IntKind.i64.wrap (b.tdiv (gcdI b d)))))) %
                      gcdI b d)))) *
          1152921504606846976 +
        loI
          (IntKind.i64.wrap (b.tdiv (gcdI b d)) *
            IntKind.i64.wrap
              (d.tdiv
                (gcdI (gcdI b d)
                  ((hiI
                          (wvI (sgnI (a * IntKind.i64.wrap (d.tdiv (gcdI b d))))
                              (hiI (a * IntKind.i64.wrap (d.tdiv (gcdI b d))))
                              (loI (a * IntKind.i64.wrap (d.tdiv (gcdI b d)))) +
                            wvI (sgnI (c * IntKind.i64.wrap (b.tdiv (gcdI b d))))
                              (hiI (c * IntKind.i64.wrap (b.tdiv (gcdI b d))))
                              (loI (c * IntKind.i64.wrap (b.tdiv (gcdI b d))))) *
                        1152921504606846976 +
                      loI
                        (wvI (sgnI (a * IntKind.i64.wrap (d.tdiv (gcdI b d))))
                            (hiI (a * IntKind.i64.wrap (d.tdiv (gcdI b d))))
                            (loI (a * IntKind.i64.wrap (d.tdiv (gcdI b d)))) +
                          wvI (sgnI (c * IntKind.i64.wrap (b.tdiv (gcdI b d))))
                            (hiI (c * IntKind.i64.wrap (b.tdiv (gcdI b d))))
                            (loI (c * IntKind.i64.wrap (b.tdiv (gcdI b d)))))) %
                    gcdI b d)))) ≤
      1152921504606846976)) = true → Q (some (Res.ret
  (AV.tup
    [AV.agg
        [AV.int IntKind.i64
            (wvI
              (sgnI
                (wvI (sgnI (a * IntKind.i64.wrap (d.tdiv (gcdI b d)))) (hiI (a * IntKind.i64.wrap (d.tdiv (gcdI b d))))
                    (loI (a * IntKind.i64.wrap (d.tdiv (gcdI b d)))) +
                  wvI (sgnI (c * IntKind.i64.wrap (b.tdiv (gcdI b d)))) (hiI (c * IntKind.i64.wrap (b.tdiv (gcdI b d))))
                    (loI (c * IntKind.i64.wrap (b.tdiv (gcdI b d))))))
              (hiI
                  (wvI (sgnI (a * IntKind.i64.wrap (d.tdiv (gcdI b d))))
                      (hiI (a * IntKind.i64.wrap (d.tdiv (gcdI b d))))
                      (loI (a * IntKind.i64.wrap (d.tdiv (gcdI b d)))) +
                    wvI (sgnI (c * IntKind.i64.wrap (b.tdiv (gcdI b d))))
                      (hiI (c * IntKind.i64.wrap (b.tdiv (gcdI b d))))
                      (loI (c * IntKind.i64.wrap (b.tdiv (gcdI b d))))) /
                gcdI (gcdI b d)
                  ((hiI
                          (wvI (sgnI (a * IntKind.i64.wrap (d.tdiv (gcdI b d))))
                              (hiI (a * IntKind.i64.wrap (d.tdiv (gcdI b d))))
                              (loI (a * IntKind.i64.wrap (d.tdiv (gcdI b d)))) +
                            wvI (sgnI (c * IntKind.i64.wrap (b.tdiv (gcdI b d))))
                              (hiI (c * IntKind.i64.wrap (b.tdiv (gcdI b d))))
                              (loI (c * IntKind.i64.wrap (b.tdiv (gcdI b d))))) *
                        1152921504606846976 +
                      loI
                        (wvI (sgnI (a * IntKind.i64.wrap (d.tdiv (gcdI b d))))
                            (hiI (a * IntKind.i64.wrap (d.tdiv (gcdI b d))))
                            (loI (a * IntKind.i64.wrap (d.tdiv (gcdI b d)))) +
                          wvI (sgnI (c * IntKind.i64.wrap (b.tdiv (gcdI b d))))
                            (hiI (c * IntKind.i64.wrap (b.tdiv (gcdI b d))))
                            (loI (c * IntKind.i64.wrap (b.tdiv (gcdI b d)))))) %
                    gcdI b d))
              ((hiI
                        (wvI (sgnI (a * IntKind.i64.wrap (d.tdiv (gcdI b d))))
                            (hiI (a * IntKind.i64.wrap (d.tdiv (gcdI b d))))
                            (loI (a * IntKind.i64.wrap (d.tdiv (gcdI b d)))) +
                          wvI (sgnI (c * IntKind.i64.wrap (b.tdiv (gcdI b d))))
                            (hiI (c * IntKind.i64.wrap (b.tdiv (gcdI b d))))
                            (loI (c * IntKind.i64.wrap (b.tdiv (gcdI b d))))) %
                      gcdI (gcdI b d)
                        ((hiI
                                (wvI (sgnI (a * IntKind.i64.wrap (d.tdiv (gcdI b d))))
                                    (hiI (a * IntKind.i64.wrap (d.tdiv (gcdI b d))))
                                    (loI (a * IntKind.i64.wrap (d.tdiv (gcdI b d)))) +
                                  wvI (sgnI (c * IntKind.i64.wrap (b.tdiv (gcdI b d))))
                                    (hiI (c * IntKind.i64.wrap (b.tdiv (gcdI b d))))
                                    (loI (c * IntKind.i64.wrap (b.tdiv (gcdI b d))))) *
                              1152921504606846976 +
                            loI
                              (wvI (sgnI (a * IntKind.i64.wrap (d.tdiv (gcdI b d))))
                                  (hiI (a * IntKind.i64.wrap (d.tdiv (gcdI b d))))
                                  (loI (a * IntKind.i64.wrap (d.tdiv (gcdI b d)))) +
                                wvI (sgnI (c * IntKind.i64.wrap (b.tdiv (gcdI b d))))
                                  (hiI (c * IntKind.i64.wrap (b.tdiv (gcdI b d))))
                                  (loI (c * IntKind.i64.wrap (b.tdiv (gcdI b d)))))) %
                          gcdI b d) *
                    1152921504606846976 +
                  loI
                    (wvI (sgnI (a * IntKind.i64.wrap (d.tdiv (gcdI b d))))
                        (hiI (a * IntKind.i64.wrap (d.tdiv (gcdI b d))))
                        (loI (a * IntKind.i64.wrap (d.tdiv (gcdI b d)))) +
                      wvI (sgnI (c * IntKind.i64.wrap (b.tdiv (gcdI b d))))
                        (hiI (c * IntKind.i64.wrap (b.tdiv (gcdI b d))))
                        (loI (c * IntKind.i64.wrap (b.tdiv (gcdI b d)))))) /
                gcdI (gcdI b d)
                  ((hiI
                          (wvI (sgnI (a * IntKind.i64.wrap (d.tdiv (gcdI b d))))
                              (hiI (a * IntKind.i64.wrap (d.tdiv (gcdI b d))))
                              (loI (a * IntKind.i64.wrap (d.tdiv (gcdI b d)))) +
                            wvI (sgnI (c * IntKind.i64.wrap (b.tdiv (gcdI b d))))
                              (hiI (c * IntKind.i64.wrap (b.tdiv (gcdI b d))))
                              (loI (c * IntKind.i64.wrap (b.tdiv (gcdI b d))))) *
                        1152921504606846976 +
                      loI
                        (wvI (sgnI (a * IntKind.i64.wrap (d.tdiv (gcdI b d))))
                            (hiI (a * IntKind.i64.wrap (d.tdiv (gcdI b d))))
                            (loI (a * IntKind.i64.wrap (d.tdiv (gcdI b d)))) +
                          wvI (sgnI (c * IntKind.i64.wrap (b.tdiv (gcdI b d))))
                            (hiI (c * IntKind.i64.wrap (b.tdiv (gcdI b d))))
                            (loI (c * IntKind.i64.wrap (b.tdiv (gcdI b d)))))) %
                    gcdI b d))),
          AV.int IntKind.i64
            (wvI
              (sgnI
                (IntKind.i64.wrap (b.tdiv (gcdI b d)) *
                  IntKind.i64.wrap
                    (d.tdiv
                      (gcdI (gcdI b d)
                        ((hiI
                                (wvI (sgnI (a * IntKind.i64.wrap (d.tdiv (gcdI b d))))
                                    (hiI (a * IntKind.i64.wrap (d.tdiv (gcdI b d))))
                                    (loI (a * IntKind.i64.wrap (d.tdiv (gcdI b d)))) +
                                  wvI (sgnI (c * IntKind.i64.wrap (b.tdiv (gcdI b d))))
                                    (hiI (c * IntKind.i64.wrap (b.tdiv (gcdI b d))))
                                    (loI (c * IntKind.i64.wrap (b.tdiv (gcdI b d))))) *
                              1152921504606846976 +
                            loI
                              (wvI (sgnI (a * IntKind.i64.wrap (d.tdiv (gcdI b d))))
                                  (hiI (a * IntKind.i64.wrap (d.tdiv (gcdI b d))))
                                  (loI (a * IntKind.i64.wrap (d.tdiv (gcdI b d)))) +
                                wvI (sgnI (c * IntKind.i64.wrap (b.tdiv (gcdI b d))))
                                  (hiI (c * IntKind.i64.wrap (b.tdiv (gcdI b d))))
                                  (loI (c * IntKind.i64.wrap (b.tdiv (gcdI b d)))))) %
                          gcdI b d)))))
              (hiI
                (IntKind.i64.wrap (b.tdiv (gcdI b d)) *
                  IntKind.i64.wrap
                    (d.tdiv
                      (gcdI (gcdI b d)
                        ((hiI
                                (wvI (sgnI (a * IntKind.i64.wrap (d.tdiv (gcdI b d))))
                                    (hiI (a * IntKind.i64.wrap (d.tdiv (gcdI b d))))
                                    (loI (a * IntKind.i64.wrap (d.tdiv (gcdI b d)))) +
                                  wvI (sgnI (c * IntKind.i64.wrap (b.tdiv (gcdI b d))))
                                    (hiI (c * IntKind.i64.wrap (b.tdiv (gcdI b d))))
                                    (loI (c * IntKind.i64.wrap (b.tdiv (gcdI b d))))) *
                              1152921504606846976 +
                            loI
                              (wvI (sgnI (a * IntKind.i64.wrap (d.tdiv (gcdI b d))))
                                  (hiI (a * IntKind.i64.wrap (d.tdiv (gcdI b d))))
                                  (loI (a * IntKind.i64.wrap (d.tdiv (gcdI b d)))) +
                                wvI (sgnI (c * IntKind.i64.wrap (b.tdiv (gcdI b d))))
                                  (hiI (c * IntKind.i64.wrap (b.tdiv (gcdI b d))))
                                  (loI (c * IntKind.i64.wrap (b.tdiv (gcdI b d)))))) %
                          gcdI b d)))))
              (loI
                (IntKind.i64.wrap (b.tdiv (gcdI b d)) *
                  IntKind.i64.wrap
                    (d.tdiv
                      (gcdI (gcdI b d)
                        ((hiI
                                (wvI (sgnI (a * IntKind.i64.wrap (d.tdiv (gcdI b d))))
                                    (hiI (a * IntKind.i64.wrap (d.tdiv (gcdI b d))))
                                    (loI (a * IntKind.i64.wrap (d.tdiv (gcdI b d)))) +
                                  wvI (sgnI (c * IntKind.i64.wrap (b.tdiv (gcdI b d))))
                                    (hiI (c * IntKind.i64.wrap (b.tdiv (gcdI b d))))
                                    (loI (c * IntKind.i64.wrap (b.tdiv (gcdI b d))))) *
                              1152921504606846976 +
                            loI
                              (wvI (sgnI (a * IntKind.i64.wrap (d.tdiv (gcdI b d))))
                                  (hiI (a * IntKind.i64.wrap (d.tdiv (gcdI b d))))
                                  (loI (a * IntKind.i64.wrap (d.tdiv (gcdI b d)))) +
                                wvI (sgnI (c * IntKind.i64.wrap (b.tdiv (gcdI b d))))
                                  (hiI (c * IntKind.i64.wrap (b.tdiv (gcdI b d))))
                                  (loI (c * IntKind.i64.wrap (b.tdiv (gcdI b d)))))) %
                          gcdI b d))))))],
      AV.int IntKind.i64 0]))))
  (L1 : (decide
    (hiI
              (wvI (sgnI (a * IntKind.i64.wrap (d.tdiv (gcdI b d)))) (hiI (a * IntKind.i64.wrap (d.tdiv (gcdI b d))))
                  (loI (a * IntKind.i64.wrap (d.tdiv (gcdI b d)))) +
                wvI (sgnI (c * IntKind.i64.wrap (b.tdiv (gcdI b d)))) (hiI (c * IntKind.i64.wrap (b.tdiv (gcdI b d))))
                  (loI (c * IntKind.i64.wrap (b.tdiv (gcdI b d))))) /
            gcdI (gcdI b d)
              ((hiI
                      (wvI (sgnI (a * IntKind.i64.wrap (d.tdiv (gcdI b d))))
                          (hiI (a * IntKind.i64.wrap (d.tdiv (gcdI b d))))
                          (loI (a * IntKind.i64.wrap (d.tdiv (gcdI b d)))) +
                        wvI (sgnI (c * IntKind.i64.wrap (b.tdiv (gcdI b d))))
                          (hiI (c * IntKind.i64.wrap (b.tdiv (gcdI b d))))
                          (loI (c * IntKind.i64.wrap (b.tdiv (gcdI b d))))) *
                    1152921504606846976 +
                  loI
                    (wvI (sgnI (a * IntKind.i64.wrap (d.tdiv (gcdI b d))))
                        (hiI (a * IntKind.i64.wrap (d.tdiv (gcdI b d))))
                        (loI (a * IntKind.i64.wrap (d.tdiv (gcdI b d)))) +
                      wvI (sgnI (c * IntKind.i64.wrap (b.tdiv (gcdI b d))))
                        (hiI (c * IntKind.i64.wrap (b.tdiv (gcdI b d))))
                        (loI (c * IntKind.i64.wrap (b.tdiv (gcdI b d)))))) %
                gcdI b d) *
          1152921504606846976 +
        (hiI
                  (wvI (sgnI (a * IntKind.i64.wrap (d.tdiv (gcdI b d))))
                      (hiI (a * IntKind.i64.wrap (d.tdiv (gcdI b d))))
                      (loI (a * IntKind.i64.wrap (d.tdiv (gcdI b d)))) +
                    wvI (sgnI (c * IntKind.i64.wrap (b.tdiv (gcdI b d))))
                      (hiI (c * IntKind.i64.wrap (b.tdiv (gcdI b d))))
                      (loI (c * IntKind.i64.wrap (b.tdiv (gcdI b d))))) %
                gcdI (gcdI b d)
                  ((hiI
                          (wvI (sgnI (a * IntKind.i64.wrap (d.tdiv (gcdI b d))))
                              (hiI (a * IntKind.i64.wrap (d.tdiv (gcdI b d))))
                              (loI (a * IntKind.i64.wrap (d.tdiv (gcdI b d)))) +
                            wvI (sgnI (c * IntKind.i64.wrap (b.tdiv (gcdI b d))))
                              (hiI (c * IntKind.i64.wrap (b.tdiv (gcdI b d))))
                              (loI (c * IntKind.i64.wrap (b.tdiv (gcdI b d))))) *
                        1152921504606846976 +
                      loI
                        (wvI (sgnI (a * IntKind.i64.wrap (d.tdiv (gcdI b d))))
                            (hiI (a * IntKind.i64.wrap (d.tdiv (gcdI b d))))
                            (loI (a * IntKind.i64.wrap (d.tdiv (gcdI b d)))) +
                          wvI (sgnI (c * IntKind.i64.wrap (b.tdiv (gcdI b d))))
                            (hiI (c * IntKind.i64.wrap (b.tdiv (gcdI b d))))
                            (loI (c * IntKind.i64.wrap (b.tdiv (gcdI b d)))))) %
                    gcdI b d) *
              1152921504606846976 +
            loI
              (wvI (sgnI (a * IntKind.i64.wrap (d.tdiv (gcdI b d)))) (hiI (a * IntKind.i64.wrap (d.tdiv (gcdI b d))))
                  (loI (a * IntKind.i64.wrap (d.tdiv (gcdI b d)))) +
                wvI (sgnI (c * IntKind.i64.wrap (b.tdiv (gcdI b d)))) (hiI (c * IntKind.i64.wrap (b.tdiv (gcdI b d))))
                  (loI (c * IntKind.i64.wrap (b.tdiv (gcdI b d)))))) /
          gcdI (gcdI b d)
            ((hiI
                    (wvI (sgnI (a * IntKind.i64.wrap (d.tdiv (gcdI b d))))
                        (hiI (a * IntKind.i64.wrap (d.tdiv (gcdI b d))))
                        (loI (a * IntKind.i64.wrap (d.tdiv (gcdI b d)))) +
                      wvI (sgnI (c * IntKind.i64.wrap (b.tdiv (gcdI b d))))
                        (hiI (c * IntKind.i64.wrap (b.tdiv (gcdI b d))))
                        (loI (c * IntKind.i64.wrap (b.tdiv (gcdI b d))))) *
                  1152921504606846976 +
                loI
                  (wvI (sgnI (a * IntKind.i64.wrap (d.tdiv (gcdI b d))))
                      (hiI (a * IntKind.i64.wrap (d.tdiv (gcdI b d))))
                      (loI (a * IntKind.i64.wrap (d.tdiv (gcdI b d)))) +
                    wvI (sgnI (c * IntKind.i64.wrap (b.tdiv (gcdI b d))))
                      (hiI (c * IntKind.i64.wrap (b.tdiv (gcdI b d))))
                      (loI (c * IntKind.i64.wrap (b.tdiv (gcdI b d)))))) %
              gcdI b d) ≤
      1152921504606846976) &&
  decide
    (hiI
            (IntKind.i64.wrap (b.tdiv (gcdI b d)) *
              IntKind.i64.wrap
                (d.tdiv
                  (gcdI (gcdI b d)
                    ((hiI
                            (wvI (sgnI (a * IntKind.i64.wrap (d.tdiv (gcdI b d))))
                                (hiI (a * IntKind.i64.wrap (d.tdiv (gcdI b d))))
                                (loI (a * IntKind.i64.wrap (d.tdiv (gcdI b d)))) +
                              wvI (sgnI (c * IntKind.i64.wrap (b.tdiv (gcdI b d))))
                                (hiI (c * IntKind.i64.wrap (b.tdiv (gcdI b d))))
                                (loI (c * IntKind.i64.wrap (b.tdiv (gcdI b d))))) *
                          1152921504606846976 +
                        loI
                          (wvI (sgnI (a * IntKind.i64.wrap (d.tdiv (gcdI b d))))
                              (hiI (a * IntKind.i64.wrap (d.tdiv (gcdI b d))))
                              (loI (a * IntKind.i64.wrap (d.tdiv (gcdI b d)))) +
                            wvI (sgnI (c * IntKind.i64.wrap (b.tdiv (gcdI b d))))
                              (hiI (c * IntKind.i64.wrap (b.tdiv (gcdI b d))))
                              (loI (c * IntKind.i64.wrap (b.tdiv (gcdI b d)))))) %
                      gcdI b d)))) *
          1152921504606846976 +
        loI
          (IntKind.i64.wrap (b.tdiv (gcdI b d)) *
            IntKind.i64.wrap
              (d.tdiv
                (gcdI (gcdI b d)
                  ((hiI
                          (wvI (sgnI (a * IntKind.i64.wrap (d.tdiv (gcdI b d))))
                              (hiI (a * IntKind.i64.wrap (d.tdiv (gcdI b d))))
                              (loI (a * IntKind.i64.wrap (d.tdiv (gcdI b d)))) +
                            wvI (sgnI (c * IntKind.i64.wrap (b.tdiv (gcdI b d))))
                              (hiI (c * IntKind.i64.wrap (b.tdiv (gcdI b d))))
                              (loI (c * IntKind.i64.wrap (b.tdiv (gcdI b d))))) *
                        1152921504606846976 +
                      loI
                        (wvI (sgnI (a * IntKind.i64.wrap (d.tdiv (gcdI b d))))
                            (hiI (a * IntKind.i64.wrap (d.tdiv (gcdI b d))))
                            (loI (a * IntKind.i64.wrap (d.tdiv (gcdI b d)))) +
                          wvI (sgnI (c * IntKind.i64.wrap (b.tdiv (gcdI b d))))
                            (hiI (c * IntKind.i64.wrap (b.tdiv (gcdI b d))))
                            (loI (c * IntKind.i64.wrap (b.tdiv (gcdI b d)))))) %
                    gcdI b d)))) ≤
      1152921504606846976)) = false → Q (some (Res.ret (AV.tup [AV.agg [AV.int IntKind.i64 0, AV.int IntKind.i64 0], AV.int IntKind.i64 14])))) : Q (evFnT Try.prog (spOf [e14m, e40, e55, e56, e57, e58]) (inlOf []) extD (cKD [e14m, e40, e55, e56, e57, e58] []) (fun _ => .unroll 0) Try.f14 [.agg [.int .i64 a, .int .i64 b], .agg [.int .i64 c, .int .i64 d]] [] (fun r _ => .ofOpt (some r))).run := by
  have k0 : w27_c0 a b c d = false := H0 
  have k1 : w27_c1 a b c d = false := H1 
  have k2 : w27_c2 a b c d = true := H2 
  have k3 : w27_c3 a b c d = true := H3 
  have k4 : w27_c4 a b c d = true := H4 
  have k5 : w27_c5 a b c d = true := H5 
  have k6 : w27_c6 a b c d = true := H6 
  have k7 : w27_c7 a b c d = true := H7 
  have k8 : w27_c8 a b c d = true := H8 
  have k9 : w27_c9 a b c d = true := H9 
  have k10 : w27_c10 a b c d = true := H10 
  have k11 : w27_c11 a b c d = true := H11 
  have k12 : w27_c12 a b c d = true := H12 
  cases k13 : w27_c13 a b c d
  ·
    rw [w27_1_ok a b c d (allB_f k0 (allB_f k1 (allB_t k2 (allB_t k3 (allB_t k4 (allB_t k3 (allB_t k5 (allB_t k6 (allB_t k7 (allB_t k8 (allB_t k9 (allB_t k3 (allB_t k10 (allB_t k11 (allB_t k12 (allB_f k13 allB_nil))))))))))))))))]
    exact L1 k13
  ·
    rw [w27_0_ok a b c d (allB_f k0 (allB_f k1 (allB_t k2 (allB_t k3 (allB_t k4 (allB_t k3 (allB_t k5 (allB_t k6 (allB_t k7 (allB_t k8 (allB_t k9 (allB_t k3 (allB_t k10 (allB_t k11 (allB_t k12 (allB_t k13 allB_nil))))))))))))))))]
    exact L0 k13
def w27x_c0 (a b _c _d : Int) : Bool := ckI a b != 0
theorem w27x_0_ok (a b c d : Int) (hALL : allB [(w27x_c0 a b c d, true)] = true) : (evFnT Try.prog (spOf [e14m, e40, e55, e56, e57, e58]) (inlOf []) extD (cKD [e14m, e40, e55, e56, e57, e58] []) (fun _ => .unroll 0) Try.f14 [.agg [.int .i64 a, .int .i64 b], .agg [.int .i64 c, .int .i64 d]] [] (fun r _ => .ofOpt (some r))).run = some (Res.ret (AV.tup [AV.agg [AV.int IntKind.i64 0, AV.int IntKind.i64 0], AV.int IntKind.i64 1]) : Res) := way (gs := [true, true, true]) (by kernel_rfl) hALL
theorem w27x_vc (a b c d : Int) (H0 : w27x_c0 a b c d = true) : (evFnT Try.prog (spOf [e14m, e40, e55, e56, e57, e58]) (inlOf []) extD (cKD [e14m, e40, e55, e56, e57, e58] []) (fun _ => .unroll 0) Try.f14 [.agg [.int .i64 a, .int .i64 b], .agg [.int .i64 c, .int .i64 d]] [] (fun r _ => .ofOpt (some r))).run = some (Res.ret (AV.tup [AV.agg [AV.int IntKind.i64 0, AV.int IntKind.i64 0], AV.int IntKind.i64 1]) : Res) := by
  have k0 := H0 
  exact w27x_0_ok a b c d (allB_t k0 allB_nil)
def w27y_c0 (a b _c _d : Int) : Bool := ckI a b != 0
def w27y_c1 (_a _b c d : Int) : Bool := ckI c d != 0
theorem w27y_0_ok (a b c d : Int) (hALL : allB [(w27y_c0 a b c d, false), (w27y_c1 a b c d, true)] = true) : (evFnT Try.prog (spOf [e14m, e40, e55, e56, e57, e58]) (inlOf []) extD (cKD [e14m, e40, e55, e56, e57, e58] []) (fun _ => .unroll 0) Try.f14 [.agg [.int .i64 a, .int .i64 b], .agg [.int .i64 c, .int .i64 d]] [] (fun r _ => .ofOpt (some r))).run = some (Res.ret (AV.tup [AV.agg [AV.int IntKind.i64 0, AV.int IntKind.i64 0], AV.int IntKind.i64 1]) : Res) := way (gs := [false, false, true, true]) (by kernel_rfl) hALL
theorem w27y_vc (a b c d : Int) (H0 : w27y_c0 a b c d = false) (H1 : w27y_c1 a b c d = true) : (evFnT Try.prog (spOf [e14m, e40, e55, e56, e57, e58]) (inlOf []) extD (cKD [e14m, e40, e55, e56, e57, e58] []) (fun _ => .unroll 0) Try.f14 [.agg [.int .i64 a, .int .i64 b], .agg [.int .i64 c, .int .i64 d]] [] (fun r _ => .ofOpt (some r))).run = some (Res.ret (AV.tup [AV.agg [AV.int IntKind.i64 0, AV.int IntKind.i64 0], AV.int IntKind.i64 1]) : Res) := by
  have k0 := H0 
  have k1 := H1 
  exact w27y_0_ok a b c d (allB_f k0 (allB_t k1 allB_nil))
def w29_c0 (a b _c _d : Int) : Bool := ckI a b != 0
def w29_c1 (_a _b c d : Int) : Bool := ckI c d != 0
def w29_c2 (a _b _c _d : Int) : Bool := decide (-9223372036854775808 < a) && decide (a < 9223372036854775808)
def w29_c3 (a _b _c d : Int) : Bool := decide (0 ≤ absI a) && decide (0 ≤ d)
def w29_c4 (_a _b c _d : Int) : Bool := decide (-9223372036854775808 < c) && decide (c < 9223372036854775808)
def w29_c5 (_a b c _d : Int) : Bool := decide (0 ≤ absI c) && decide (0 ≤ b)
def w29_c6 (a _b _c d : Int) : Bool := !decide (gcdI (absI a) d = 0)
def w29_c7 (_a b c _d : Int) : Bool := !decide (gcdI (absI c) b = 0)
def w29_c8 (a b c d : Int) : Bool := inM (IntKind.i64.wrap (a.tdiv (gcdI (absI a) d))) && inM (IntKind.i64.wrap (c.tdiv (gcdI (absI c) b)))
def w29_c9 (a b c d : Int) : Bool := inM (IntKind.i64.wrap (b.tdiv (gcdI (absI c) b))) && inM (IntKind.i64.wrap (d.tdiv (gcdI (absI a) d)))
def w29_c10 (a b c d : Int) : Bool := isW (sgnI (IntKind.i64.wrap (a.tdiv (gcdI (absI a) d)) * IntKind.i64.wrap (c.tdiv (gcdI (absI c) b))))
    (hiI (IntKind.i64.wrap (a.tdiv (gcdI (absI a) d)) * IntKind.i64.wrap (c.tdiv (gcdI (absI c) b))))
    (loI (IntKind.i64.wrap (a.tdiv (gcdI (absI a) d)) * IntKind.i64.wrap (c.tdiv (gcdI (absI c) b)))) &&
  isW (sgnI (IntKind.i64.wrap (b.tdiv (gcdI (absI c) b)) * IntKind.i64.wrap (d.tdiv (gcdI (absI a) d))))
    (hiI (IntKind.i64.wrap (b.tdiv (gcdI (absI c) b)) * IntKind.i64.wrap (d.tdiv (gcdI (absI a) d))))
    (loI (IntKind.i64.wrap (b.tdiv (gcdI (absI c) b)) * IntKind.i64.wrap (d.tdiv (gcdI (absI a) d))))
def w29_c11 (a b c d : Int) : Bool := decide
    (hiI (IntKind.i64.wrap (a.tdiv (gcdI (absI a) d)) * IntKind.i64.wrap (c.tdiv (gcdI (absI c) b))) *
          1152921504606846976 +
        loI (IntKind.i64.wrap (a.tdiv (gcdI (absI a) d)) * IntKind.i64.wrap (c.tdiv (gcdI (absI c) b))) ≤
      1152921504606846976) &&
  decide
    (hiI (IntKind.i64.wrap (b.tdiv (gcdI (absI c) b)) * IntKind.i64.wrap (d.tdiv (gcdI (absI a) d))) *
          1152921504606846976 +
        loI (IntKind.i64.wrap (b.tdiv (gcdI (absI c) b)) * IntKind.i64.wrap (d.tdiv (gcdI (absI a) d))) ≤
      1152921504606846976)
theorem w29_0_ok (a b c d : Int) (hALL : allB [(w29_c0 a b c d, false), (w29_c1 a b c d, false), (w29_c2 a b c d, true), (w29_c3 a b c d, true), (w29_c4 a b c d, true), (w29_c5 a b c d, true), (w29_c6 a b c d, true), (w29_c7 a b c d, true), (w29_c8 a b c d, true), (w29_c7 a b c d, true), (w29_c6 a b c d, true), (w29_c9 a b c d, true), (w29_c10 a b c d, true), (w29_c11 a b c d, true)] = true) : (evFnT Try.prog (spOf [e14m, e40, e41, e56, e58]) (inlOf []) extD (cKD [e14m, e40, e41, e56, e58] []) (fun _ => .unroll 0) Try.f15 [.agg [.int .i64 a, .int .i64 b], .agg [.int .i64 c, .int .i64 d]] [] (fun r _ => .ofOpt (some r))).run = some (Res.ret
  (AV.tup
    [AV.agg
        [AV.int IntKind.i64
            (wvI (sgnI (IntKind.i64.wrap (a.tdiv (gcdI (absI a) d)) * IntKind.i64.wrap (c.tdiv (gcdI (absI c) b))))
              (hiI (IntKind.i64.wrap (a.tdiv (gcdI (absI a) d)) * IntKind.i64.wrap (c.tdiv (gcdI (absI c) b))))
              (loI (IntKind.i64.wrap (a.tdiv (gcdI (absI a) d)) * IntKind.i64.wrap (c.tdiv (gcdI (absI c) b))))),
          AV.int IntKind.i64
            (wvI (sgnI (IntKind.i64.wrap (b.tdiv (gcdI (absI c) b)) * IntKind.i64.wrap (d.tdiv (gcdI (absI a) d))))
              (hiI (IntKind.i64.wrap (b.tdiv (gcdI (absI c) b)) * IntKind.i64.wrap (d.tdiv (gcdI (absI a) d))))
              (loI (IntKind.i64.wrap (b.tdiv (gcdI (absI c) b)) * IntKind.i64.wrap (d.tdiv (gcdI (absI a) d)))))],
      AV.int IntKind.i64 0]) : Res) := way (gs := [false, false, false, false, true, true, true, true, true]) (by kernel_rfl) hALL
theorem w29_1_ok (a b c d : Int) (hALL : allB [(w29_c0 a b c d, false), (w29_c1 a b c d, false), (w29_c2 a b c d, true), (w29_c3 a b c d, true), (w29_c4 a b c d, true), (w29_c5 a b c d, true), (w29_c6 a b c d, true), (w29_c7 a b c d, true), (w29_c8 a b c d, true), (w29_c7 a b c d, true), (w29_c6 a b c d, true), (w29_c9 a b c d, true), (w29_c10 a b c d, true), (w29_c11 a b c d, false)] = true) : (evFnT Try.prog (spOf [e14m, e40, e41, e56, e58]) (inlOf []) extD (cKD [e14m, e40, e41, e56, e58] []) (fun _ => .unroll 0) Try.f15 [.agg [.int .i64 a, .int .i64 b], .agg [.int .i64 c, .int .i64 d]] [] (fun r _ => .ofOpt (some r))).run = some (Res.ret (AV.tup [AV.agg [AV.int IntKind.i64 0, AV.int IntKind.i64 0], AV.int IntKind.i64 14]) : Res) := way (gs := [false, false, false, false, true, true, true, true, false]) (by kernel_rfl) hALL
theorem w29_cases (a b c d : Int) {Q : Option (Res) → Prop} (H0 : (ckI a b != 0) = false) (H1 : (ckI c d != 0) = false) (H2 : (decide (-9223372036854775808 < a) && decide (a < 9223372036854775808)) = true) (H3 : (decide (0 ≤ absI a) && decide (0 ≤ d)) = true) (H4 : (decide (-9223372036854775808 < c) && decide (c < 9223372036854775808)) = true) (H5 : (decide (0 ≤ absI c) && decide (0 ≤ b)) = true) (H6 : (!decide (gcdI (absI a) d = 0)) = true) (H7 : (!decide (gcdI (absI c) b = 0)) = true) (H8 : (inM (IntKind.i64.wrap (a.tdiv (gcdI (absI a) d))) && inM (IntKind.i64.wrap (c.tdiv (gcdI (absI c) b)))) = true) (H9 : (inM (IntKind.i64.wrap (b.tdiv (gcdI (absI c) b))) && inM (IntKind.i64.wrap (d.tdiv (gcdI (absI a) d)))) = true) (H10 : (isW (sgnI (IntKind.i64.wrap (a.tdiv (gcdI (absI a) d)) * IntKind.i64.wrap (c.tdiv (gcdI (absI c) b))))
    (hiI (IntKind.i64.wrap (a.tdiv (gcdI (absI a) d)) * IntKind.i64.wrap (c.tdiv (gcdI (absI c) b))))
    (loI (IntKind.i64.wrap (a.tdiv (gcdI (absI a) d)) * IntKind.i64.wrap (c.tdiv (gcdI (absI c) b)))) &&
  isW (sgnI (IntKind.i64.wrap (b.tdiv (gcdI (absI c) b)) * IntKind.i64.wrap (d.tdiv (gcdI (absI a) d))))
    (hiI (IntKind.i64.wrap (b.tdiv (gcdI (absI c) b)) * IntKind.i64.wrap (d.tdiv (gcdI (absI a) d))))
    (loI (IntKind.i64.wrap (b.tdiv (gcdI (absI c) b)) * IntKind.i64.wrap (d.tdiv (gcdI (absI a) d))))) = true)
  (L0 : (decide
    (hiI (IntKind.i64.wrap (a.tdiv (gcdI (absI a) d)) * IntKind.i64.wrap (c.tdiv (gcdI (absI c) b))) *
          1152921504606846976 +
        loI (IntKind.i64.wrap (a.tdiv (gcdI (absI a) d)) * IntKind.i64.wrap (c.tdiv (gcdI (absI c) b))) ≤
      1152921504606846976) &&
  decide
    (hiI (IntKind.i64.wrap (b.tdiv (gcdI (absI c) b)) * IntKind.i64.wrap (d.tdiv (gcdI (absI a) d))) *
          1152921504606846976 +
        loI (IntKind.i64.wrap (b.tdiv (gcdI (absI c) b)) * IntKind.i64.wrap (d.tdiv (gcdI (absI a) d))) ≤
      1152921504606846976)) = true → Q (some (Res.ret
  (AV.tup
    [AV.agg
        [AV.int IntKind.i64
            (wvI (sgnI (IntKind.i64.wrap (a.tdiv (gcdI (absI a) d)) * IntKind.i64.wrap (c.tdiv (gcdI (absI c) b))))
              (hiI (IntKind.i64.wrap (a.tdiv (gcdI (absI a) d)) * IntKind.i64.wrap (c.tdiv (gcdI (absI c) b))))
              (loI (IntKind.i64.wrap (a.tdiv (gcdI (absI a) d)) * IntKind.i64.wrap (c.tdiv (gcdI (absI c) b))))),
          AV.int IntKind.i64
            (wvI (sgnI (IntKind.i64.wrap (b.tdiv (gcdI (absI c) b)) * IntKind.i64.wrap (d.tdiv (gcdI (absI a) d))))
              (hiI (IntKind.i64.wrap (b.tdiv (gcdI (absI c) b)) * IntKind.i64.wrap (d.tdiv (gcdI (absI a) d))))
              (loI (IntKind.i64.wrap (b.tdiv (gcdI (absI c) b)) * IntKind.i64.wrap (d.tdiv (gcdI (absI a) d)))))],
      AV.int IntKind.i64 0]))))
  (L1 : (decide
    (hiI (IntKind.i64.wrap (a.tdiv (gcdI (absI a) d)) * IntKind.i64.wrap (c.tdiv (gcdI (absI c) b))) *
          1152921504606846976 +
        loI (IntKind.i64.wrap (a.tdiv (gcdI (absI a) d)) * IntKind.i64.wrap (c.tdiv (gcdI (absI c) b))) ≤
      1152921504606846976) &&
  decide
    (hiI (IntKind.i64.wrap (b.tdiv (gcdI (absI c) b)) * IntKind.i64.wrap (d.tdiv (gcdI (absI a) d))) *
          1152921504606846976 +
        loI (IntKind.i64.wrap (b.tdiv (gcdI (absI c) b)) * IntKind.i64.wrap (d.tdiv (gcdI (absI a) d))) ≤
      1152921504606846976)) = false → Q (some (Res.ret (AV.tup [AV.agg [AV.int IntKind.i64 0, AV.int IntKind.i64 0], AV.int IntKind.i64 14])))) : Q (evFnT Try.prog (spOf [e14m, e40, e41, e56, e58]) (inlOf []) extD (cKD [e14m, e40, e41, e56, e58] []) (fun _ => .unroll 0) Try.f15 [.agg [.int .i64 a, .int .i64 b], .agg [.int .i64 c, .int .i64 d]] [] (fun r _ => .ofOpt (some r))).run := by
  have k0 : w29_c0 a b c d = false := H0 
  have k1 : w29_c1 a b c d = false := H1 
  have k2 : w29_c2 a b c d = true := H2 
  have k3 : w29_c3 a b c d = true := H3 
  have k4 : w29_c4 a b c d = true := H4 
  have k5 : w29_c5 a b c d = true := H5 
  have k6 : w29_c6 a b c d = true := H6 
  have k7 : w29_c7 a b c d = true := H7 
  have k8 : w29_c8 a b c d = true := H8 
  have k9 : w29_c9 a b c d = true := H9 
  have k10 : w29_c10 a b c d = true := H10 
  cases k11 : w29_c11 a b c d
  ·
    rw [w29_1_ok a b c d (allB_f k0 (allB_f k1 (allB_t k2 (allB_t k3 (allB_t k4 (allB_t k5 (allB_t k6 (allB_t k7 (allB_t k8 (allB_t k7 (allB_t k6 (allB_t k9 (allB_t k10 (allB_f k11 allB_nil))))))))))))))]
    exact L1 k11
  ·
    rw [w29_0_ok a b c d (allB_f k0 (allB_f k1 (allB_t k2 (allB_t k3 (allB_t k4 (allB_t k5 (allB_t k6 (allB_t k7 (allB_t k8 (allB_t k7 (allB_t k6 (allB_t k9 (allB_t k10 (allB_t k11 allB_nil))))))))))))))]
    exact L0 k11
def w29x_c0 (a b _c _d : Int) : Bool := ckI a b != 0
theorem w29x_0_ok (a b c d : Int) (hALL : allB [(w29x_c0 a b c d, true)] = true) : (evFnT Try.prog (spOf [e14m, e40, e41, e56, e58]) (inlOf []) extD (cKD [e14m, e40, e41, e56, e58] []) (fun _ => .unroll 0) Try.f15 [.agg [.int .i64 a, .int .i64 b], .agg [.int .i64 c, .int .i64 d]] [] (fun r _ => .ofOpt (some r))).run = some (Res.ret (AV.tup [AV.agg [AV.int IntKind.i64 0, AV.int IntKind.i64 0], AV.int IntKind.i64 1]) : Res) := way (gs := [true, true, true]) (by kernel_rfl) hALL
theorem w29x_vc (a b c d : Int) (H0 : w29x_c0 a b c d = true) : (evFnT Try.prog (spOf [e14m, e40, e41, e56, e58]) (inlOf []) extD (cKD [e14m, e40, e41, e56, e58] []) (fun _ => .unroll 0) Try.f15 [.agg [.int .i64 a, .int .i64 b], .agg [.int .i64 c, .int .i64 d]] [] (fun r _ => .ofOpt (some r))).run = some (Res.ret (AV.tup [AV.agg [AV.int IntKind.i64 0, AV.int IntKind.i64 0], AV.int IntKind.i64 1]) : Res) := by
  have k0 := H0 
  exact w29x_0_ok a b c d (allB_t k0 allB_nil)
def w29y_c0 (a b _c _d : Int) : Bool := ckI a b != 0
def w29y_c1 (_a _b c d : Int) : Bool := ckI c d != 0
theorem w29y_0_ok (a b c d : Int) (hALL : allB [(w29y_c0 a b c d, false), (w29y_c1 a b c d, true)] = true) : (evFnT Try.prog (spOf [e14m, e40, e41, e56, e58]) (inlOf []) extD (cKD [e14m, e40, e41, e56, e58] []) (fun _ => .unroll 0) Try.f15 [.agg [.int .i64 a, .int .i64 b], .agg [.int .i64 c, .int .i64 d]] [] (fun r _ => .ofOpt (some r))).run = some (Res.ret (AV.tup [AV.agg [AV.int IntKind.i64 0, AV.int IntKind.i64 0], AV.int IntKind.i64 1]) : Res) := way (gs := [false, false, true, true]) (by kernel_rfl) hALL
theorem w29y_vc (a b c d : Int) (H0 : w29y_c0 a b c d = false) (H1 : w29y_c1 a b c d = true) : (evFnT Try.prog (spOf [e14m, e40, e41, e56, e58]) (inlOf []) extD (cKD [e14m, e40, e41, e56, e58] []) (fun _ => .unroll 0) Try.f15 [.agg [.int .i64 a, .int .i64 b], .agg [.int .i64 c, .int .i64 d]] [] (fun r _ => .ofOpt (some r))).run = some (Res.ret (AV.tup [AV.agg [AV.int IntKind.i64 0, AV.int IntKind.i64 0], AV.int IntKind.i64 1]) : Res) := by
  have k0 := H0 
  have k1 := H1 
  exact w29y_0_ok a b c d (allB_f k0 (allB_t k1 allB_nil))
def w31_c0 (a b _c _d : Int) : Bool := ckI a b != 0
def w31_c1 (_a _b c d : Int) : Bool := ckI c d != 0
def w31_c2 (a _b _c d : Int) : Bool := inM a && inM d
def w31_c3 (_a b c _d : Int) : Bool := inM (IntKind.i64.wrap (0 - c)) && inM b
def w31_c4 (a b c d : Int) : Bool := isW (sgnI (a * d)) (hiI (a * d)) (loI (a * d)) &&
  isW (sgnI (IntKind.i64.wrap (0 - c) * b)) (hiI (IntKind.i64.wrap (0 - c) * b)) (loI (IntKind.i64.wrap (0 - c) * b))
def w31x_c0 (a b _c _d : Int) : Bool := ckI a b != 0
def w31y_c0 (a b _c _d : Int) : Bool := ckI a b != 0
def w31y_c1 (_a _b c d : Int) : Bool := ckI c d != 0
end Go.Proofs.Ytebiafgcnmnacaa

/- The reference's operations: contracts. Conditions: none beyond the context's. -/
namespace Go.Proofs.Ytebiafgcnmnacaa
open Go.Evl Go.RowKit

theorem hl_of (z : Int) : hiI z * 1152921504606846976 + loI z = absI z := by unfold hiI loI; omega
theorem sgn_abs (z : Int) : sgnI z * absI z = z := by
  unfold sgnI
  rw [absI_eq]
  split
  · rw [Int.neg_mul, Int.one_mul]; omega
  · split
    · subst_vars; rfl
    · rw [Int.one_mul]; omega
theorem wv_of (z : Int) : wvI (sgnI z) (hiI z) (loI z) = z := by unfold wvI; rw [hl_of, sgn_abs]
theorem sgnI_cases (z : Int) : (z = 0 ∧ sgnI z = 0) ∨ (0 < absI z ∧ (sgnI z = 1 ∨ sgnI z = -1)) := by
  unfold sgnI
  rw [absI_eq]
  split
  · right; omega
  · split
    · left; omega
    · right; omega
theorem isW_of {z : Int} (h : absI z ≤ 2658455991569831745807614120560689152) : isW (sgnI z) (hiI z) (loI z) = true := by
  have h0 := absI_nonneg z
  have hl := hl_of z
  rw [isW_iff]
  have e1 : hiI z = absI z / 1152921504606846976 := rfl
  have e2 : loI z = absI z % 1152921504606846976 := rfl
  refine ⟨by omega, by omega, by omega, by omega, ?_⟩
  rcases sgnI_cases z with ⟨hz, hs⟩ | ⟨hz, hs⟩
  · left
    have : absI z = 0 := by rw [absI_eq, hz]; rfl
    omega
  · right
    rw [hl]; exact ⟨hs, hz⟩
theorem isW_pos {z : Int} (h0 : 0 ≤ z) : sgnI z * absI z = z ∧ absI z = z := ⟨sgn_abs z, by rw [absI_eq]; omega⟩
/-- a wide number divided -/
theorem wide_over {T R : Int} (hR : 0 < R) (hd : absI T / R * R = absI T) (hT : absI T ≤ 2658455991569831745807614120560689152) :
    isW (sgnI T) (hiI T / R) ((hiI T % R * 1152921504606846976 + loI T) / R) = true ∧ hiI T / R * 1152921504606846976 + (hiI T % R * 1152921504606846976 + loI T) / R = absI T / R := by
  have h0 := absI_nonneg T
  have e1 : hiI T = absI T / 1152921504606846976 := rfl
  have e2 : loI T = absI T % 1152921504606846976 := rfl
  have hq := (two_digits (T := hiI T) (d := loI T) (B := 1152921504606846976) hR).1
  rw [hl_of] at hq
  have m0 := Int.emod_nonneg (hiI T) (show R ≠ 0 by omega)
  have m1 := Int.emod_lt_of_pos (hiI T) hR
  have l0 : 0 ≤ (hiI T % R * 1152921504606846976 + loI T) / R := Int.ediv_nonneg (by omega) (by omega)
  have l1 : (hiI T % R * 1152921504606846976 + loI T) / R < 1152921504606846976 := by
    rw [Int.ediv_lt_iff_lt_mul hR]; omega
  obtain ⟨d1, d2⟩ := div_le_self' (a := hiI T) (by omega) hR
  refine ⟨?_, hq.symm⟩
  rw [isW_iff]
  refine ⟨by omega, by omega, l0, l1, ?_⟩
  rcases sgnI_cases T with ⟨hz, hs⟩ | ⟨hz, hs⟩
  · left
    have hA : absI T = 0 := by rw [absI_eq, hz]; rfl
    have hh : hiI T = 0 := by omega
    have hlo : loI T = 0 := by omega
    rw [hh, hlo]
    refine ⟨hs, by simp, by simp⟩
  · right
    refine ⟨hs, ?_⟩
    rw [← hq]
    rcases Int.lt_or_le 0 (absI T / R) with h' | h'
    · exact h'
    · have : absI T / R * R ≤ 0 := Int.mul_nonpos_of_nonpos_of_nonneg h' (by omega)
      omega
theorem gcd_mod_comm {N g : Int} (hN : 0 ≤ N) (hg : 0 ≤ g) : gcdI g (N % g) = gcdI N g := by
  obtain ⟨n, rfl⟩ := Int.eq_ofNat_of_zero_le hN
  obtain ⟨g, rfl⟩ := Int.eq_ofNat_of_zero_le hg
  have e1 : ((n : Int) % (g : Int)) = ((n % g : Nat) : Int) := rfl
  rw [e1, gcdI_eq, gcdI_eq]
  congr 1
  rw [Nat.gcd_comm n g, Nat.gcd_rec g n, Nat.gcd_comm]

def e27m : Ent := ⟨14, fun
  | [.agg [.int .i64 a, .int .i64 b], .agg [.int .i64 c, .int .i64 d]] => opV (okB a b && okB c d) (a * d + c * b) (b * d)
  | _ => .non⟩
def e29m : Ent := ⟨15, fun
  | [.agg [.int .i64 a, .int .i64 b], .agg [.int .i64 c, .int .i64 d]] => opV (okB a b && okB c d) (a * c) (b * d)
  | _ => .non⟩
theorem opV_t {n m : Int} : (opV true n m).run = if mkFits n m then some (.ret (.tup [.agg [.int .i64 (mkN n m), .int .i64 (mkD n m)], .int .i64 0])) else some (.ret (.tup [.agg [.int .i64 0, .int .i64 0], .int .i64 14])) := by
  simp only [opV, Tr.run, opN, opD, opE, if_true, Bool.true_and]
  cases mkFits n m <;> rfl
theorem cxR {l : List Ent} (h : ∀ p ∈ l, p = e14m ∨ p = e40 ∨ p = e41 ∨ p = e55 ∨ p = e56 ∨ p = e57 ∨ p = e58) : ∀ p ∈ l, EntHolds Try.prog InvD p := by
  intro p hp
  rcases h p hp with rfl | rfl | rfl | rfl | rfl | rfl | rfl
  · exact e14m_ok
  · exact e40_ok
  · exact e41_ok
  · exact e55_ok
  · exact e56_ok
  · exact e57_ok
  · exact e58_ok
theorem cx31 : (mkCx Try.prog (spOf [e14m, e55, e56]) (inlOf []) extD).Ok InvD := cx_of [] (by kernel_rfl) (cxR (by simp))
theorem cx29 : (mkCx Try.prog (spOf [e14m, e40, e41, e56, e58]) (inlOf []) extD).Ok InvD := cx_of [] (by kernel_rfl) (cxR (by simp))
theorem cx27 : (mkCx Try.prog (spOf [e14m, e40, e55, e56, e57, e58]) (inlOf []) extD).Ok InvD := cx_of [] (by kernel_rfl) (cxR (by simp))
theorem tdiv_exact {a P : Int} (h : absI a / P * P = absI a) (hP : 0 < P) : a.tdiv P * P = a ∧ absI (a.tdiv P) = absI a / P := by
  have e : a.tdiv P = if 0 ≤ a then absI a / P else -(absI a / P) := by
    split
    · rename_i h0
      rw [Int.tdiv_eq_ediv_of_nonneg h0, show absI a = a by rw [absI_eq]; omega]
    · rename_i h0
      have ea : a = -(absI a) := by rw [absI_eq]; omega
      conv => lhs; rw [ea]
      rw [Int.neg_tdiv, Int.tdiv_eq_ediv_of_nonneg (absI_nonneg a)]
  have hq : 0 ≤ absI a / P := Int.ediv_nonneg (absI_nonneg a) (by omega)
  rw [e]
  split
  · exact ⟨by rw [h, absI_eq]; omega, by rw [absI_eq]; omega⟩
  · exact ⟨by rw [Int.neg_mul, h, absI_eq]; omega, by rw [absI_eq]; omega⟩
theorem e29m_ok : SpecHolds Try.prog InvD 15 fun a => (e29m.2 a).run := by
  refine specD cx29 Try.func15 (c := codeOf Try.prog 15) (by kernel_rfl) (fun _ => .unroll 0) (fun _ _ => trivial) fun args r h => ?_
  simp only [e29m] at h
  split at h
  · rename_i a b c d
    refine ⟨by kernel_rfl, tr_ok (by rfl) h, ?_⟩
    refine Eq.trans ?_ h
    cases h1 : okB a b with
    | false => exact (w29x_vc a b c d (by rw [w29x_c0, ckI_ne, h1]; rfl)).trans (by rfl)
    | true =>
    cases h2 : okB c d with
    | false => exact (w29y_vc a b c d (by rw [w29y_c0, ckI_ne, h1]; rfl) (by rw [w29y_c1, ckI_ne, h2]; rfl)).trans (by rfl)
    | true =>
      obtain ⟨b1, b2, a1, a2, hab⟩ := okB_iff.1 h1
      obtain ⟨d1, d2, c1, c2, hcd⟩ := okB_iff.1 h2
      obtain ⟨l1, l2, l3, l4, l5, l6, l7, l8⟩ := mul_law b1 d1 hab hcd
      have hm : 0 < b * d := Int.mul_pos (by omega) (by omega)
      have hA0 := absI_nonneg a
      have hC0 := absI_nonneg c
      have hA1 : absI a ≤ 1152921504606846976 := by rw [absI_eq]; omega
      have hC1 : absI c ≤ 1152921504606846976 := by rw [absI_eq]; omega
      have hN := mkN_mul (n := a * c) hm
      have hGm : mkG (a * c) (b * d) = gcdI (absI a) d * gcdI (absI c) b := by
        have hD := mkD_mul (n := a * c) hm
        rw [l8] at hD
        have hq : 0 < b / gcdI (absI c) b * (d / gcdI (absI a) d) := Int.mul_pos (quo_pos l6 (by omega) l2) (quo_pos l4 (by omega) l1)
        refine Int.eq_of_mul_eq_mul_left (show b / gcdI (absI c) b * (d / gcdI (absI a) d) ≠ 0 by omega) ?_
        rw [hD]
        conv => lhs; rw [← l6, ← l4]
        simp only [l6, l4]
        grind
      simp only [Bool.and_self]
      rw [opV_t]
      have hf : mkFits (a * c) (b * d) = (decide (mkA (a * c) (b * d) ≤ 1152921504606846976) && decide (mkD (a * c) (b * d) ≤ 1152921504606846976)) := rfl
      generalize hP : gcdI (absI a) d = P at *
      generalize hQ : gcdI (absI c) b = R at *
      obtain ⟨ta, ta2⟩ := tdiv_exact l3 l1
      obtain ⟨tc, tc2⟩ := tdiv_exact l5 l2
      have tB : b.tdiv R = b / R := Int.tdiv_eq_ediv_of_nonneg (by omega)
      have tD : d.tdiv P = d / P := Int.tdiv_eq_ediv_of_nonneg (by omega)
      generalize hA' : a.tdiv P = A' at *
      generalize hC' : c.tdiv R = C' at *
      obtain ⟨p0, p1⟩ := quo_le l3 hA0 l1
      obtain ⟨q0, q1⟩ := quo_le l5 hC0 l2
      obtain ⟨b0, b3⟩ := quo_le l6 (by omega) l2
      obtain ⟨d0, d3⟩ := quo_le l4 (by omega) l1
      have eN : A' * C' = mkN (a * c) (b * d) := by
        have hPR : 0 < P * R := Int.mul_pos l1 l2
        refine Int.eq_of_mul_eq_mul_right (show P * R ≠ 0 by omega) ?_
        rw [← hGm, hN, hGm]
        conv => rhs; rw [← ta, ← tc]
        grind
      have eA : absI (A' * C') = mkA (a * c) (b * d) := by rw [absI_mul_abs, ta2, tc2, l7]
      generalize hB' : b / R = B' at *
      generalize hD' : d / P = D' at *
      have iA : -1152921504606846976 ≤ A' ∧ A' ≤ 1152921504606846976 := by have := ta2; rw [absI_eq] at this; omega
      have iC : -1152921504606846976 ≤ C' ∧ C' ≤ 1152921504606846976 := by have := tc2; rw [absI_eq] at this; omega
      have wA : IntKind.i64.wrap A' = A' := wrapI (by omega) (by omega)
      have wC : IntKind.i64.wrap C' = C' := wrapI (by omega) (by omega)
      have wB : IntKind.i64.wrap B' = B' := wrapI (by omega) (by omega)
      have wD : IntKind.i64.wrap D' = D' := wrapI (by omega) (by omega)
      have bd : ∀ {x y : Int}, -1152921504606846976 ≤ x → x ≤ 1152921504606846976 → -1152921504606846976 ≤ y → y ≤ 1152921504606846976 → absI (x * y) ≤ 2658455991569831745807614120560689152 := by
        intro x y k1 k2 k3 k4
        rw [absI_mul_abs]
        have hx : absI x ≤ 1152921504606846976 := by rw [absI_eq]; omega
        have hy : absI y ≤ 1152921504606846976 := by rw [absI_eq]; omega
        exact Int.le_trans (Int.mul_le_mul_of_nonneg_right hx (absI_nonneg y)) (Int.le_trans (Int.mul_le_mul_of_nonneg_left hy (by omega)) (by omega))
      have hBD : absI (B' * D') = B' * D' := by have := Int.mul_nonneg b0 d0; rw [absI_eq]; omega
      have hBD2 : absI (mkD (a * c) (b * d)) = mkD (a * c) (b * d) := by rw [l8]; exact hBD
      refine w29_cases a b c d (Q := fun q => q = if mkFits (a * c) (b * d) then some (.ret (.tup [.agg [.int .i64 (mkN (a * c) (b * d)), .int .i64 (mkD (a * c) (b * d))], .int .i64 0])) else some (.ret (.tup [.agg [.int .i64 0, .int .i64 0], .int .i64 14])))
        ?_ ?_ ?_ ?_ ?_ ?_ ?_ ?_ ?_ ?_ ?_ ?_ ?_
      · rw [ckI_ne, h1]; rfl
      · rw [ckI_ne, h2]; rfl
      · simp; omega
      · simp; omega
      · simp; omega
      · simp; omega
      · rw [hP]; simp; omega
      · rw [hQ]; simp; omega
      · rw [hP, hQ, hA', hC', wA, wC, Bool.and_eq_true, inM_iff, inM_iff]; omega
      · rw [hP, hQ, tB, tD, wB, wD, Bool.and_eq_true, inM_iff, inM_iff]; omega
      · rw [hP, hQ, hA', hC', tB, tD, wA, wC, wB, wD, isW_of (bd (by omega) (by omega) (by omega) (by omega)), isW_of (bd (by omega) (by omega) (by omega) (by omega))]; rfl
      all_goals
        intro hc
        simp only [hP, hQ, hA', hC', tB, tD, wA, wC, wB, wD, hl_of, eA, hBD2, ← l8] at hc
        rw [← hf] at hc
        simp only [hP, hQ, hA', hC', tB, tD, wA, wC, wB, wD, wv_of, eN, ← l8, hc, if_true, Bool.false_eq_true, if_false]
  · simp [Tr.run] at h
theorem e27m_ok : SpecHolds Try.prog InvD 14 fun a => (e27m.2 a).run := by
  refine specD cx27 Try.func14 (c := codeOf Try.prog 14) (by kernel_rfl) (fun _ => .unroll 0) (fun _ _ => trivial) fun args r h => ?_
  simp only [e27m] at h
  split at h
  · rename_i a b c d
    refine ⟨by kernel_rfl, tr_ok (by rfl) h, ?_⟩
    refine Eq.trans ?_ h
    cases h1 : okB a b with
    | false => exact (w27x_vc a b c d (by rw [w27x_c0, ckI_ne, h1]; rfl)).trans (by rfl)
    | true =>
    cases h2 : okB c d with
    | false => exact (w27y_vc a b c d (by rw [w27y_c0, ckI_ne, h1]; rfl) (by rw [w27y_c1, ckI_ne, h2]; rfl)).trans (by rfl)
    | true =>
      obtain ⟨b1, b2, a1, a2, hab⟩ := okB_iff.1 h1
      obtain ⟨d1, d2, c1, c2, hcd⟩ := okB_iff.1 h2
      obtain ⟨l1, l2, l3, l4, l5, l6, l7, l8⟩ := sum_law b1 d1 hab hcd _ rfl
      have hm : 0 < b * d := Int.mul_pos (by omega) (by omega)
      have hN := mkN_mul (n := a * d + c * b) hm
      have hA := mkA_of (n := a * d + c * b) hm
      have hAm := mkA_mul (n := a * d + c * b) hm
      have hD := mkD_mul (n := a * d + c * b) hm
      simp only [Bool.and_self]
      rw [opV_t]
      have hf : mkFits (a * d + c * b) (b * d) = (decide (mkA (a * d + c * b) (b * d) ≤ 1152921504606846976) && decide (mkD (a * d + c * b) (b * d) ≤ 1152921504606846976)) := rfl
      generalize hG : gcdI b d = G at *
      have tB : b.tdiv G = b / G := Int.tdiv_eq_ediv_of_nonneg (by omega)
      have tD : d.tdiv G = d / G := Int.tdiv_eq_ediv_of_nonneg (by omega)
      generalize hB' : b / G = B' at *
      generalize hD' : d / G = D' at *
      obtain ⟨b0, b3⟩ := quo_le l2 (by omega) l1
      obtain ⟨d0, d3⟩ := quo_le l3 (by omega) l1
      have wB : IntKind.i64.wrap B' = B' := wrapI (by omega) (by omega)
      have wD : IntKind.i64.wrap D' = D' := wrapI (by omega) (by omega)
      have bd : ∀ {x y : Int}, -1152921504606846976 ≤ x → x ≤ 1152921504606846976 → 0 ≤ y → y ≤ 1152921504606846976 → absI (x * y) ≤ 1329227995784915872903807060280344576 := by
        intro x y k1 k2 k3 k4
        rw [absI_mul_abs]
        have hx : absI x ≤ 1152921504606846976 := by rw [absI_eq]; omega
        have hy : absI y ≤ 1152921504606846976 := by rw [absI_eq]; omega
        exact Int.le_trans (Int.mul_le_mul_of_nonneg_right hx (absI_nonneg y)) (Int.le_trans (Int.mul_le_mul_of_nonneg_left hy (by omega)) (by omega))
      have v1 := bd a1 a2 d0 (by omega)
      have v2 := bd c1 c2 b0 (by omega)
      have hG1 : G ≤ b := (quo_le (x := b) (p := B') (q := G) (by rw [Int.mul_comm]; exact l2) (by omega) (quo_pos l2 (by omega) l1)).2
      generalize hT : a * D' + c * B' = T at *
      have vT : absI T ≤ 2658455991569831745807614120560689152 := by
        rw [← hT]
        have e1 := absI_eq (a * D')
        have e2 := absI_eq (c * B')
        rw [absI_eq]; omega
      have hgm : gcdI G (absI T % G) = gcdI (absI T) G := gcd_mod_comm (absI_nonneg T) (by omega)
      generalize hR : gcdI (absI T) G = R at *
      have tD2 : d.tdiv R = d / R := Int.tdiv_eq_ediv_of_nonneg (by omega)
      have hdv : absI T / R * R = absI T := by
        have := Int.ediv_mul_cancel (a := absI T) (b := R) (by
          rw [← hR, gcdI_abs (by omega), ← gcd_absI]; exact Int.gcd_dvd_left ..)
        exact this
      obtain ⟨o1, o2⟩ := wide_over l4 hdv vT
      generalize hD2 : d / R = D2 at *
      obtain ⟨e0, e3⟩ := quo_le l5 (by omega) l4
      have hR1 : R ≤ d := (quo_le (x := d) (p := D2) (q := R) (by rw [Int.mul_comm]; exact l5) (by omega) (quo_pos l5 (by omega) l4)).2
      have wD2 : IntKind.i64.wrap D2 = D2 := wrapI (by omega) (by omega)
      have v3 := bd (x := B') (y := D2) (by omega) (by omega) e0 (by omega)
      have hBD : absI (mkD (a * d + c * b) (b * d)) = mkD (a * d + c * b) (b * d) := by
        have := Int.mul_nonneg b0 e0; rw [l8, absI_eq]; omega
      have eN : sgnI T * (hiI T / R * 1152921504606846976 + (hiI T % R * 1152921504606846976 + loI T) / R) = mkN (a * d + c * b) (b * d) := by
        rw [o2, ← l7]
        have hpos : 0 < mkG (a * d + c * b) (b * d) := mkG_pos2 hm
        have hs : sgnI T * absI (a * d + c * b) = a * d + c * b := by
          rw [l6, absI_mul _ _ (by omega), ← Int.mul_assoc, sgn_abs]
        refine Int.eq_of_mul_eq_mul_right (show mkG (a * d + c * b) (b * d) ≠ 0 by omega) ?_
        rw [Int.mul_assoc, hAm, hN, hs]
      have i1 := isW_of (z := a * D') (by omega)
      have i2 := isW_of (z := c * B') (by omega)
      have i3 := isW_of vT
      have i4 := isW_of (z := B' * D2) (by omega)
      refine w27_cases a b c d (Q := fun q => q = if mkFits (a * d + c * b) (b * d) then some (.ret (.tup [.agg [.int .i64 (mkN (a * d + c * b) (b * d)), .int .i64 (mkD (a * d + c * b) (b * d))], .int .i64 0])) else some (.ret (.tup [.agg [.int .i64 0, .int .i64 0], .int .i64 14])))
        ?_ ?_ ?_ ?_ ?_ ?_ ?_ ?_ ?_ ?_ ?_ ?_ ?_ ?_ ?_
      · rw [ckI_ne, h1]; rfl
      · rw [ckI_ne, h2]; rfl
      · simp; omega
      · rw [hG]; simp; omega
      · rw [hG, tD, wD, Bool.and_eq_true, inM_iff, inM_iff]; omega
      · rw [hG, tB, wB, Bool.and_eq_true, inM_iff, inM_iff]; omega
      · rw [hG, tB, tD, wB, wD, i1, i2]; rfl
      · simp only [hG, tB, tD, wB, wD, wv_of, hT, i3, Bool.true_and, decide_eq_true_eq]; omega
      · simp only [hG, tB, tD, wB, wD, wv_of, hT, hl_of, Bool.and_eq_true, decide_eq_true_eq]
        exact ⟨by omega, Int.emod_nonneg _ (by omega)⟩
      · simp only [hG, tB, tD, wB, wD, wv_of, hT, hl_of, hgm, i3, Bool.true_and, decide_eq_true_eq]; omega
      · simp only [hG, tB, tD, wB, wD, wv_of, hT, hl_of, hgm]; simp; omega
      · simp only [hG, tB, tD, wB, wD, wv_of, hT, hl_of, hgm, tD2, wD2, Bool.and_eq_true, inM_iff]; omega
      · simp only [hG, tB, tD, wB, wD, wv_of, hT, hl_of, hgm, tD2, wD2, o1, i4, Bool.and_self]
      all_goals
        intro hc
        simp only [hG, tB, tD, wB, wD, wv_of, hT, hl_of, hgm, tD2, wD2, o2, ← l7, ← l8, hBD] at hc
        rw [← hf] at hc
        simp only [hG, tB, tD, wB, wD, wv_of, hT, hl_of, hgm, tD2, wD2, ← l8, hc, if_true, Bool.false_eq_true, if_false]
        try rw [show wvI (sgnI T) (hiI T / R) ((hiI T % R * 1152921504606846976 + loI T) / R) = mkN (a * d + c * b) (b * d) from eN]
  · simp [Tr.run] at h
end Go.Proofs.Ytebiafgcnmnacaa

/- The reference's Sub and Div: contracts. Conditions: none beyond the context's. -/
namespace Go.Proofs.Ytebiafgcnmnacaa
open Go.Evl Go.RowKit
def w28_c0 (a b _c _d : Int) : Bool := ckI a b != 0
def w28_c1 (_a _b c d : Int) : Bool := ckI c d != 0
theorem w28_0_ok (a b c d : Int) (hALL : allB [(w28_c0 a b c d, false), (w28_c1 a b c d, false)] = true) : (evFnT Try.prog (spOf [e14m, e27m]) (inlOf []) extD (cKD [e14m, e27m] []) (fun _ => .unroll 0) Try.f16 [.agg [.int .i64 a, .int .i64 b], .agg [.int .i64 c, .int .i64 d]] [] (fun r _ => .ofOpt (some r))).run = some (Res.ret
  (AV.tup
    [AV.agg
        [AV.int IntKind.i64
            (opN (okB a b && okB (IntKind.i64.wrap (0 - c)) d) (a * d + IntKind.i64.wrap (0 - c) * b) (b * d)),
          AV.int IntKind.i64
            (opD (okB a b && okB (IntKind.i64.wrap (0 - c)) d) (a * d + IntKind.i64.wrap (0 - c) * b) (b * d))],
      AV.int IntKind.i64
        (opE (okB a b && okB (IntKind.i64.wrap (0 - c)) d) (a * d + IntKind.i64.wrap (0 - c) * b) (b * d))]) : Res) := way (gs := [false, false, false, false]) (by kernel_rfl) hALL
theorem w28_vc (a b c d : Int) (H0 : w28_c0 a b c d = false) (H1 : w28_c1 a b c d = false) : (evFnT Try.prog (spOf [e14m, e27m]) (inlOf []) extD (cKD [e14m, e27m] []) (fun _ => .unroll 0) Try.f16 [.agg [.int .i64 a, .int .i64 b], .agg [.int .i64 c, .int .i64 d]] [] (fun r _ => .ofOpt (some r))).run = some (Res.ret
  (AV.tup
    [AV.agg
        [AV.int IntKind.i64
            (opN (okB a b && okB (IntKind.i64.wrap (0 - c)) d) (a * d + IntKind.i64.wrap (0 - c) * b) (b * d)),
          AV.int IntKind.i64
            (opD (okB a b && okB (IntKind.i64.wrap (0 - c)) d) (a * d + IntKind.i64.wrap (0 - c) * b) (b * d))],
      AV.int IntKind.i64
        (opE (okB a b && okB (IntKind.i64.wrap (0 - c)) d) (a * d + IntKind.i64.wrap (0 - c) * b) (b * d))]) : Res) := by
  have k0 := H0 
  have k1 := H1 
  exact w28_0_ok a b c d (allB_f k0 (allB_f k1 allB_nil))
def w28x_c0 (a b _c _d : Int) : Bool := ckI a b != 0
theorem w28x_0_ok (a b c d : Int) (hALL : allB [(w28x_c0 a b c d, true)] = true) : (evFnT Try.prog (spOf [e14m, e27m]) (inlOf []) extD (cKD [e14m, e27m] []) (fun _ => .unroll 0) Try.f16 [.agg [.int .i64 a, .int .i64 b], .agg [.int .i64 c, .int .i64 d]] [] (fun r _ => .ofOpt (some r))).run = some (Res.ret (AV.tup [AV.agg [AV.int IntKind.i64 0, AV.int IntKind.i64 0], AV.int IntKind.i64 1]) : Res) := way (gs := [true, true, true]) (by kernel_rfl) hALL
theorem w28x_vc (a b c d : Int) (H0 : w28x_c0 a b c d = true) : (evFnT Try.prog (spOf [e14m, e27m]) (inlOf []) extD (cKD [e14m, e27m] []) (fun _ => .unroll 0) Try.f16 [.agg [.int .i64 a, .int .i64 b], .agg [.int .i64 c, .int .i64 d]] [] (fun r _ => .ofOpt (some r))).run = some (Res.ret (AV.tup [AV.agg [AV.int IntKind.i64 0, AV.int IntKind.i64 0], AV.int IntKind.i64 1]) : Res) := by
  have k0 := H0 
  exact w28x_0_ok a b c d (allB_t k0 allB_nil)
def w28y_c0 (a b _c _d : Int) : Bool := ckI a b != 0
def w28y_c1 (_a _b c d : Int) : Bool := ckI c d != 0
theorem w28y_0_ok (a b c d : Int) (hALL : allB [(w28y_c0 a b c d, false), (w28y_c1 a b c d, true)] = true) : (evFnT Try.prog (spOf [e14m, e27m]) (inlOf []) extD (cKD [e14m, e27m] []) (fun _ => .unroll 0) Try.f16 [.agg [.int .i64 a, .int .i64 b], .agg [.int .i64 c, .int .i64 d]] [] (fun r _ => .ofOpt (some r))).run = some (Res.ret (AV.tup [AV.agg [AV.int IntKind.i64 0, AV.int IntKind.i64 0], AV.int IntKind.i64 1]) : Res) := way (gs := [false, false, true, true]) (by kernel_rfl) hALL
theorem w28y_vc (a b c d : Int) (H0 : w28y_c0 a b c d = false) (H1 : w28y_c1 a b c d = true) : (evFnT Try.prog (spOf [e14m, e27m]) (inlOf []) extD (cKD [e14m, e27m] []) (fun _ => .unroll 0) Try.f16 [.agg [.int .i64 a, .int .i64 b], .agg [.int .i64 c, .int .i64 d]] [] (fun r _ => .ofOpt (some r))).run = some (Res.ret (AV.tup [AV.agg [AV.int IntKind.i64 0, AV.int IntKind.i64 0], AV.int IntKind.i64 1]) : Res) := by
  have k0 := H0 
  have k1 := H1 
  exact w28y_0_ok a b c d (allB_f k0 (allB_t k1 allB_nil))
def w30_c0 (a b _c _d : Int) : Bool := ckI a b != 0
def w30_c1 (_a _b c d : Int) : Bool := ckI c d != 0
def w30_c2 (_a _b c _d : Int) : Bool := c == 0
def w30_c3 (_a _b c _d : Int) : Bool := decide (c < 0)
def w30x_c0 (a b _c _d : Int) : Bool := ckI a b != 0
def w30y_c0 (a b _c _d : Int) : Bool := ckI a b != 0
def w30y_c1 (_a _b c d : Int) : Bool := ckI c d != 0
def e28m : Ent := ⟨16, fun
  | [.agg [.int .i64 a, .int .i64 b], .agg [.int .i64 c, .int .i64 d]] => opV (okB a b && okB c d) (a * d - c * b) (b * d)
  | _ => .non⟩
theorem cx28 : (mkCx Try.prog (spOf [e14m, e27m]) (inlOf []) extD).Ok InvD := cx_of [] (by kernel_rfl) (by
  intro p hp
  simp only [List.mem_cons, List.not_mem_nil, or_false] at hp
  rcases hp with rfl | rfl
  · exact e14m_ok
  · exact e27m_ok)
theorem cx30 : (mkCx Try.prog (spOf [e14m, e29m]) (inlOf []) extD).Ok InvD := cx_of [] (by kernel_rfl) (by
  intro p hp
  simp only [List.mem_cons, List.not_mem_nil, or_false] at hp
  rcases hp with rfl | rfl
  · exact e14m_ok
  · exact e29m_ok)
theorem e28m_ok : SpecHolds Try.prog InvD 16 fun a => (e28m.2 a).run := by
  refine specD cx28 Try.func16 (c := codeOf Try.prog 16) (by kernel_rfl) (fun _ => .unroll 0) (fun _ _ => trivial) fun args r h => ?_
  simp only [e28m] at h
  split at h
  · rename_i a b c d
    refine ⟨by kernel_rfl, tr_ok (by rfl) h, ?_⟩
    refine Eq.trans ?_ h
    cases h1 : okB a b with
    | false => exact (w28x_vc a b c d (by rw [w28x_c0, ckI_ne, h1]; rfl)).trans (by rfl)
    | true =>
    cases h2 : okB c d with
    | false => exact (w28y_vc a b c d (by rw [w28y_c0, ckI_ne, h1]; rfl) (by rw [w28y_c1, ckI_ne, h2]; rfl)).trans (by rfl)
    | true =>
      obtain ⟨k1, k2, k3, k4, k5⟩ := okB_iff.1 h2
      have e1 : IntKind.i64.wrap (0 - c) = -c := by rw [wrapI (by omega) (by omega)]; omega
      have e2 : a * d + -c * b = a * d - c * b := by rw [Int.neg_mul]; omega
      refine (w28_vc a b c d (by rw [w28_c0, ckI_ne, h1]; rfl) (by rw [w28_c1, ckI_ne, h2]; rfl)).trans ?_
      rw [e1, e2, okB_neg h2, h1]
      rfl
  · simp [Tr.run] at h
end Go.Proofs.Ytebiafgcnmnacaa

/- The sampling seat's small functions: contracts. Conditions: none beyond the context's. -/
namespace Go.Proofs.Ytebiafgcnmnacaa
open Go.Evl Go.RowKit

abbrev RI (x : Int) : Option Res := some (.ret (.int .i64 x))
abbrev RB (b : Bool) : Option Res := some (.ret (.bool b))
theorem bif_rb (b : Bool) : (bif b then RB true else RB false) = RB b := by cases b <;> rfl
/-- a number in a range -/
def wiB (n lo hi : Int) : Bool := decide (lo ≤ n) && decide (n ≤ hi)
theorem wiB_iff {n lo hi : Int} : wiB n lo hi = true ↔ lo ≤ n ∧ n ≤ hi := by unfold wiB; rw [Bool.and_eq_true, decide_eq_true_eq, decide_eq_true_eq]
/-- a coin, a part and a whole that fit -/
def cpB (a b c : Int) : Bool := wiB c 1 1048576 && (wiB b 0 c && wiB a 0 (c - 1))
def cpI (a b c : Int) : Int := if cpB a b c then 0 else 2
/-- a size, a threshold and a number of coins that fit -/
def prB (s t n : Int) : Bool := wiB t 1 1099511627776 && (wiB n 1 1000 && wiB s 0 1099511627776)
theorem prB_iff {s t n : Int} : prB s t n = true ↔ (1 ≤ t ∧ t ≤ 1099511627776) ∧ (1 ≤ n ∧ n ≤ 1000) ∧ (0 ≤ s ∧ s ≤ 1099511627776) := by
  unfold prB; rw [Bool.and_eq_true, Bool.and_eq_true, wiB_iff, wiB_iff, wiB_iff]
theorem cpB_iff {a b c : Int} : cpB a b c = true ↔ (1 ≤ c ∧ c ≤ 1048576) ∧ (0 ≤ b ∧ b ≤ c) ∧ (0 ≤ a ∧ a ≤ c - 1) := by
  unfold cpB; rw [Bool.and_eq_true, Bool.and_eq_true, wiB_iff, wiB_iff, wiB_iff]
theorem sx0 : (mkCx Try.prog (spOf []) (inlOf []) extD).Ok InvD := cx_of [] (by kernel_rfl) (by
  intro p hp
  cases hp)
def i22 : Ent := ⟨22, fun
  | [.int .i64 a, .int .i64 b, .int .i64 c] => .leaf (.ret (.int .i64 (cpI a b c)))
  | _ => .non⟩
theorem vti22 (a b c : Int) : evFn Try.prog (spOf []) (inlOf []) extD (cKD [] []) (fun _ => .unroll 0) Try.f22 [.int .i64 a, .int .i64 b, .int .i64 c] [] (fun r _ => some r) =
    (bif decide (c < 1) then RI 2 else bif decide (c > 1048576) then RI 2 else bif decide (b < 0) then RI 2 else bif decide (b > c) then RI 2 else bif decide (a < 0) then RI 2 else bif decide (a ≥ c) then RI 2 else RI 0 : Option Res) := by kernel_rfl
theorem i22_ok : SpecHolds Try.prog InvD 22 fun a => (i22.2 a).run := by
  refine specD sx0 Try.func22 (c := codeOf Try.prog 22) (by kernel_rfl) (fun _ => .unroll 0) (fun _ _ => trivial) fun args r hh => ?_
  simp only [i22] at hh
  split at hh
  · rename_i a b c
    refine ⟨by kernel_rfl, tr_ok (by rfl) hh, ?_⟩
    refine (vti22 a b c).trans (Eq.trans ?_ hh)
    simp only [Tr.run, cpI]
    by_cases hb : cpB a b c = true
    · rw [if_pos hb]
      rw [cpB_iff] at hb
      rw [decide_eq_false (show ¬ c < 1 by omega), decide_eq_false (show ¬ c > 1048576 by omega), decide_eq_false (show ¬ b < 0 by omega), decide_eq_false (show ¬ b > c by omega), decide_eq_false (show ¬ a < 0 by omega), decide_eq_false (show ¬ a ≥ c by omega)]
      rfl
    · rw [if_neg hb]
      rw [cpB_iff] at hb
      by_cases k1 : c < 1
      · simp [k1]
      by_cases k2 : c > 1048576
      · simp [k1, k2]
      by_cases k3 : b < 0
      · simp [k1, k2, k3]
      by_cases k4 : b > c
      · simp [k1, k2, k3, k4]
      by_cases k5 : a < 0
      · simp [k1, k2, k3, k4, k5]
      have k6 : a ≥ c := by omega
      simp [k1, k2, k3, k4, k5, k6]
  · simp [Tr.run] at hh
def i25 : Ent := ⟨25, fun
  | [.int .i64 a, .int .i64 b, .int .i64 c] => .leaf (.ret (.bool (wiB a b c)))
  | _ => .non⟩
theorem vti25 (a b c : Int) : evFn Try.prog (spOf []) (inlOf []) extD (cKD [] []) (fun _ => .unroll 0) Try.f25 [.int .i64 a, .int .i64 b, .int .i64 c] [] (fun r _ => some r) =
    (bif decide (a ≥ b) then bif decide (a ≤ c) then RB true else RB false else RB false : Option Res) := by kernel_rfl
theorem i25_ok : SpecHolds Try.prog InvD 25 fun a => (i25.2 a).run := by
  refine specD sx0 Try.func25 (c := codeOf Try.prog 25) (by kernel_rfl) (fun _ => .unroll 0) (fun _ _ => trivial) fun args r hh => ?_
  simp only [i25] at hh
  split at hh
  · rename_i a b c
    refine ⟨by kernel_rfl, tr_ok (by rfl) hh, ?_⟩
    refine (vti25 a b c).trans (Eq.trans ?_ hh)
    simp only [Tr.run, wiB]
    by_cases k1 : b ≤ a <;> by_cases k2 : a ≤ c <;> simp [k1, k2]
  · simp [Tr.run] at hh
def i29 : Ent := ⟨29, fun
  | [.int .i64 a, .int .i64 b, .int .i64 c] => .leaf (.ret (.bool (prB a b c)))
  | _ => .non⟩
theorem vti29 (a b c : Int) : evFn Try.prog (spOf []) (inlOf []) extD (cKD [] []) (fun _ => .unroll 0) Try.f29 [.int .i64 a, .int .i64 b, .int .i64 c] [] (fun r _ => some r) =
    (bif decide (b < 1) then RB false else bif decide (b > 1099511627776) then RB false else bif decide (c < 1) then RB false else bif decide (c > 1000) then RB false else bif decide (a ≥ 0) then bif decide (a ≤ 1099511627776) then RB true else RB false else RB false : Option Res) := by kernel_rfl
theorem i29_ok : SpecHolds Try.prog InvD 29 fun a => (i29.2 a).run := by
  refine specD sx0 Try.func29 (c := codeOf Try.prog 29) (by kernel_rfl) (fun _ => .unroll 0) (fun _ _ => trivial) fun args r hh => ?_
  simp only [i29] at hh
  split at hh
  · rename_i a b c
    refine ⟨by kernel_rfl, tr_ok (by rfl) hh, ?_⟩
    refine (vti29 a b c).trans (Eq.trans ?_ hh)
    simp only [Tr.run]
    cases hb : prB a b c with
    | true =>
      rw [prB_iff] at hb
      rw [decide_eq_false (show ¬ b < 1 by omega), decide_eq_false (show ¬ b > 1099511627776 by omega), decide_eq_false (show ¬ c < 1 by omega), decide_eq_false (show ¬ c > 1000 by omega), decide_eq_true (show a ≥ 0 by omega), decide_eq_true (show a ≤ 1099511627776 by omega)]
      rfl
    | false =>
      have hb' : ¬ prB a b c = true := by rw [hb]; simp
      rw [prB_iff] at hb'
      by_cases k1 : b < 1
      · simp [k1]
      by_cases k2 : b > 1099511627776
      · simp [k1, k2]
      by_cases k3 : c < 1
      · simp [k1, k2, k3]
      by_cases k4 : c > 1000
      · simp [k1, k2, k3, k4]
      by_cases k5 : a ≥ 0
      · have k6 : ¬ a ≤ 1099511627776 := by omega
        simp [k1, k2, k3, k4, k5, k6]
      simp [k1, k2, k3, k4, k5]
  · simp [Tr.run] at hh
def i31 : Ent := ⟨31, fun
  | [.int .i64 a] => .leaf (.ret (.agg [.int .i64 a, .int .i64 1]))
  | _ => .non⟩
theorem vti31 (a : Int) : evFn Try.prog (spOf []) (inlOf []) extD (cKD [] []) (fun _ => .unroll 0) Try.f31 [.int .i64 a] [] (fun r _ => some r) =
    (some (.ret (.agg [.int .i64 a, .int .i64 1])) : Option Res) := by kernel_rfl
theorem i31_ok : SpecHolds Try.prog InvD 31 fun a => (i31.2 a).run := by
  refine specD sx0 Try.func31 (c := codeOf Try.prog 31) (by kernel_rfl) (fun _ => .unroll 0) (fun _ _ => trivial) fun args r hh => ?_
  simp only [i31] at hh
  split at hh
  · rename_i a
    refine ⟨by kernel_rfl, tr_ok (by rfl) hh, ?_⟩
    refine (vti31 a).trans (Eq.trans ?_ hh)
    rfl
  · simp [Tr.run] at hh
def i13 : Ent := ⟨13, fun
  | [.int .i64 a] => .leaf (.ret (.agg [.int .i64 a, .int .i64 1]))
  | _ => .non⟩
theorem vti13 (a : Int) : evFn Try.prog (spOf []) (inlOf []) extD (cKD [] []) (fun _ => .unroll 0) Try.f13 [.int .i64 a] [] (fun r _ => some r) =
    (some (.ret (.agg [.int .i64 a, .int .i64 1])) : Option Res) := by kernel_rfl
theorem i13_ok : SpecHolds Try.prog InvD 13 fun a => (i13.2 a).run := by
  refine specD sx0 Try.func13 (c := codeOf Try.prog 13) (by kernel_rfl) (fun _ => .unroll 0) (fun _ _ => trivial) fun args r hh => ?_
  simp only [i13] at hh
  split at hh
  · rename_i a
    refine ⟨by kernel_rfl, tr_ok (by rfl) hh, ?_⟩
    refine (vti13 a).trans (Eq.trans ?_ hh)
    rfl
  · simp [Tr.run] at hh
def i47 : Ent := ⟨47, fun
  | [] => .leaf (.ret (.agg [.int .i64 0, .int .i64 1]))
  | _ => .non⟩
theorem vti47  : evFn Try.prog (spOf []) (inlOf []) extD (cKD [] []) (fun _ => .unroll 0) Try.f47 [] [] (fun r _ => some r) =
    (some (.ret (.agg [.int .i64 0, .int .i64 1])) : Option Res) := by kernel_rfl
theorem i47_ok : SpecHolds Try.prog InvD 47 fun a => (i47.2 a).run := by
  refine specD sx0 Try.func47 (c := codeOf Try.prog 47) (by kernel_rfl) (fun _ => .unroll 0) (fun _ _ => trivial) fun args r hh => ?_
  simp only [i47] at hh
  split at hh
  · refine ⟨by kernel_rfl, tr_ok (by rfl) hh, ?_⟩
    refine (vti47 ).trans (Eq.trans ?_ hh)
    rfl
  · simp [Tr.run] at hh
theorem sx25 : (mkCx Try.prog (spOf [i25]) (inlOf []) extD).Ok InvD := cx_of [] (by kernel_rfl) (by
  intro p hp
  simp only [List.mem_cons, List.not_mem_nil, or_false] at hp
  rcases hp with rfl
  · exact i25_ok)
def i24 : Ent := ⟨24, fun
  | [.int .i64 a, .int .i64 b, .int .i64 c] => .leaf (.ret (.int .i64 (cpI a b c)))
  | _ => .non⟩
theorem vti24 (a b c : Int) : evFn Try.prog (spOf [i25]) (inlOf []) extD (cKD [i25] []) (fun _ => .unroll 0) Try.f24 [.int .i64 a, .int .i64 b, .int .i64 c] [] (fun r _ => some r) =
    (bif wiB c 1 1048576 then bif wiB b 0 c then bif wiB a 0 (IntKind.i64.wrap (c - 1)) then RI 0 else RI 2 else RI 2 else RI 2 : Option Res) := by kernel_rfl
theorem i24_ok : SpecHolds Try.prog InvD 24 fun a => (i24.2 a).run := by
  refine specD sx25 Try.func24 (c := codeOf Try.prog 24) (by kernel_rfl) (fun _ => .unroll 0) (fun _ _ => trivial) fun args r hh => ?_
  simp only [i24] at hh
  split at hh
  · rename_i a b c
    refine ⟨by kernel_rfl, tr_ok (by rfl) hh, ?_⟩
    refine (vti24 a b c).trans (Eq.trans ?_ hh)
    simp only [Tr.run, cpI, cpB]
    by_cases h1 : wiB c 1 1048576 = true
    · have h1' := wiB_iff.1 h1
      rw [wrapI (by omega) (by omega)]
      by_cases h2 : wiB b 0 c = true <;> by_cases h3 : wiB a 0 (c - 1) = true <;> simp [h1, h2, h3]
    · simp [h1]
  · simp [Tr.run] at hh
def i33 : Ent := ⟨33, fun
  | [.int .i64 a, .int .i64 b] => .leaf (.ret (.bool (wiB a 1 1099511627776 && wiB b 1 1000)))
  | _ => .non⟩
theorem vti33 (a b : Int) : evFn Try.prog (spOf [i25]) (inlOf []) extD (cKD [i25] []) (fun _ => .unroll 0) Try.f33 [.int .i64 a, .int .i64 b] [] (fun r _ => some r) =
    (bif wiB a 1 1099511627776 then bif wiB b 1 1000 then RB true else RB false else RB false : Option Res) := by kernel_rfl
theorem i33_ok : SpecHolds Try.prog InvD 33 fun a => (i33.2 a).run := by
  refine specD sx25 Try.func33 (c := codeOf Try.prog 33) (by kernel_rfl) (fun _ => .unroll 0) (fun _ _ => trivial) fun args r hh => ?_
  simp only [i33] at hh
  split at hh
  · rename_i a b
    refine ⟨by kernel_rfl, tr_ok (by rfl) hh, ?_⟩
    refine (vti33 a b).trans (Eq.trans ?_ hh)
    simp only [Tr.run]
    cases wiB a 1 1099511627776 <;> cases wiB b 1 1000 <;> rfl
  · simp [Tr.run] at hh
end Go.Proofs.Ytebiafgcnmnacaa

/- The reference's Make, and Make in merged form: contracts. Conditions: none beyond the context's. -/
namespace Go.Proofs.Ytebiafgcnmnacaa
open Go.Evl Go.RowKit

/-- what Make yields -/
def mkE (n m : Int) : Int := if m = 0 then 26 else if mkFits n m then 0 else 14
def mkX (n m : Int) : Int := if mkE n m = 0 then mkN n m else 0
def mkY (n m : Int) : Int := if mkE n m = 0 then mkD n m else 0
def i32 : Ent := ⟨32, fun
  | [.int .i64 n, .int .i64 m] => .chk (inI n && inI m) (.leaf (.ret (.tup [.agg [.int .i64 (mkX n m), .int .i64 (mkY n m)], .int .i64 (mkE n m)])))
  | _ => .non⟩
theorem i32_ok : SpecHolds Try.prog InvD 32 fun a => (i32.2 a).run := by
  refine spec_weak e11_ok fun args r h => ?_
  simp only [i32] at h
  split at h
  · rename_i n m
    obtain ⟨hg, h⟩ := chk_run h
    rw [← h]
    simp only [e11, hg, Tr.run, cond_true, mkX, mkY, mkE]
    by_cases h0 : m = 0
    · simp [h0]
    · by_cases hf : mkFits n m = true <;> simp [h0, hf]
  · simp [Tr.run] at h
def i63 : Ent := ⟨63, fun
  | [.int .i64 a] => .chk (inI a) (.leaf (.ret (.int .u64 (absI a))))
  | _ => .non⟩
theorem vti63 (a : Int) : evFn Try.prog (spOf []) (inlOf []) extD (cKD [] []) (fun _ => .unroll 0) Try.f63 [.int .i64 a] [] (fun r _ => some r) =
    (bif decide (a < 0) then some (.ret (.int .u64 (IntKind.u64.wrap (IntKind.u64.wrap (IntKind.i64.wrap (0 - IntKind.i64.wrap (a + 1))) + 1)))) else some (.ret (.int .u64 (IntKind.u64.wrap a))) : Option Res) := by kernel_rfl
theorem i63_ok : SpecHolds Try.prog InvD 63 fun a => (i63.2 a).run := by
  refine specD sx0 Try.func63 (c := codeOf Try.prog 63) (by kernel_rfl) (fun _ => .unroll 0) (fun _ _ => trivial) fun args r hh => ?_
  simp only [i63] at hh
  split at hh
  · rename_i a
    obtain ⟨hg, hh⟩ := chk_run hh
    refine ⟨by kernel_rfl, tr_ok (by rfl) hh, ?_⟩
    refine (vti63 a).trans (Eq.trans ?_ hh)
    simp only [Tr.run]
    simp only [inI, decide_eq_true_eq] at hg
    rw [absI_eq]
    by_cases h0 : a < 0
    · rw [decide_eq_true h0, wrapI (x := a + 1) (by omega) (by omega), wrapI (x := 0 - (a + 1)) (by omega) (by omega)]
      simp only [cond_true, Option.some.injEq, Res.ret.injEq, AV.int.injEq, true_and, IntKind.wrap_u64]
      omega
    · rw [decide_eq_false h0]
      simp only [cond_false, Option.some.injEq, Res.ret.injEq, AV.int.injEq, true_and, IntKind.wrap_u64]
      omega
  · simp [Tr.run] at hh
abbrev keep48 : List Nat := [0, 1, 4, 5, 6, 7, 8, 9]
abbrev vs48 (n m z a b x y : Int) : List AV := [.int .i64 n, .int .i64 m, .ptr 0 0, .int .i64 z, .int .u64 a, .int .u64 b, .int .u64 x, .int .u64 y]
def f48s : List AV → List Ob → Tr (Ex × List AV × List Ob)
  | [.int .i64 n, .int .i64 m, .ptr 0 0, .int .i64 z, .int .u64 a, .int .u64 b, .int .u64 x, .int .u64 y], [.cells [.int .i64 p, .int .i64 q] 23] =>
    .chk (decide (0 ≤ x) && decide (0 ≤ y)) (.leaf (.exit 0, vs48 n m z a b (gcdI x y) 0, [.cells [.int .i64 p, .int .i64 q] 23]))
  | _, _ => .non
abbrev lp48 (_ : Nat) : LT := .sum keep48 f48s
theorem loop48 (n m z a b x y p q : Int) : evC (β := Ex × List AV × List Ob) Try.prog (spOf [i63]) (inlOf []) extD (cKD [i63] []) lp48 (bodyOf Try.prog 48 0) ⟨mkF Try.f48.ntmps keep48 (vs48 n m z a b x y), [.cells [.int .i64 p, .int .i64 q] 23]⟩
      (fun e st => (cutBack keep48 1 st).map fun q => (e, q.1, q.2)) =
    bif decide (y > 0) then bif !decide (y = 0) then some (.normal, vs48 n m z a b y (x.tmod y), [.cells [.int .i64 p, .int .i64 q] 23]) else none else some (.exit 0, vs48 n m z a b x y, [.cells [.int .i64 p, .int .i64 q] 23]) := by kernel_rfl
theorem sum48 : LoopOkT Try.prog (spOf [i63]) (inlOf []) extD (cKD [i63] []) lp48 Try.f48.ntmps (bodyOf Try.prog 48 0) (.sum keep48 f48s) := by
  dsimp only [LoopOkT]
  refine ⟨by decide, by decide, fun vs _ => match vs with | [_, _, _, _, _, _, _, .int _ b] => b.toNat | _ => 0, fun vs H R hv hR => ?_⟩
  unfold f48s at hR
  split at hR
  · rename_i n m z a b x y p q
    obtain ⟨hc, hR⟩ := chk_run hR
    simp only [Tr.run, Option.some.injEq] at hR
    subst hR
    simp only [Bool.and_eq_true, decide_eq_true_eq] at hc
    obtain ⟨X, rfl⟩ := Int.eq_ofNat_of_zero_le hc.1
    obtain ⟨Y, rfl⟩ := Int.eq_ofNat_of_zero_le hc.2
    by_cases hy : Y = 0
    · subst hy
      have ht := loop48 n m z a b (X : Int) ((0 : Nat) : Int) p q
      rw [decide_eq_false (show ¬ (((0 : Nat) : Int) > 0) by omega)] at ht
      simp only [cond_false] at ht
      refine ⟨_, _, _, ht, ?_⟩
      dsimp only
      rw [gcdI_eq X 0, Nat.gcd_zero_right]
      rfl
    · have ht := loop48 n m z a b (X : Int) (Y : Int) p q
      rw [decide_eq_true (show ((Y : Int) > 0) by omega), show (!decide ((Y : Int) = 0)) = true by simp; omega] at ht
      simp only [cond_true] at ht
      refine ⟨_, _, _, ht, ?_, ?_⟩
      · have h3 : (X : Int).tmod (Y : Int) = ((X % Y : Nat) : Int) := rfl
        rw [h3]
        have hd : (decide (0 ≤ (Y : Int)) && decide (0 ≤ ((X % Y : Nat) : Int))) = true := by
          rw [Bool.and_eq_true]; exact ⟨decide_eq_true (Int.natCast_nonneg _), decide_eq_true (Int.natCast_nonneg _)⟩
        simp only [f48s, Tr.run, hd, cond_true, gcdI_eq, gcd_step X Y]
      · have h3 : (X : Int).tmod (Y : Int) = ((X % Y : Nat) : Int) := rfl
        simp only [h3, Int.toNat_natCast]
        exact Nat.mod_lt _ (by omega)
  · simp [Tr.run] at hR
theorem mkTree (a b : Int) (ha : inI a = true) (hb : inI b = true) : (bif b == 0 then some (.ret (.tup [.agg [.int .i64 (0), .int .i64 (0)], .int .i64 26])) else bif inI a then bif inI b then bif decide (0 ≤ absI a) && decide (0 ≤ absI b) then bif !decide ((gcdI (absI a) (absI b)) = 0) then bif !decide ((gcdI (absI a) (absI b)) = 0) then bif decide ((IntKind.u64.wrap ((absI a).tdiv (gcdI (absI a) (absI b)))) > 1152921504606846976) then some (.ret (.tup [.agg [.int .i64 (0), .int .i64 (0)], .int .i64 14])) else bif decide ((IntKind.u64.wrap ((absI b).tdiv (gcdI (absI a) (absI b)))) > 1152921504606846976) then some (.ret (.tup [.agg [.int .i64 (0), .int .i64 (0)], .int .i64 14])) else bif decide (a < 0) then bif decide (b < 0) then some (.ret (.tup [.agg [.int .i64 (IntKind.i64.wrap (IntKind.u64.wrap ((absI a).tdiv (gcdI (absI a) (absI b))))), .int .i64 (IntKind.i64.wrap (IntKind.u64.wrap ((absI b).tdiv (gcdI (absI a) (absI b)))))], .int .i64 0])) else some (.ret (.tup [.agg [.int .i64 (IntKind.i64.wrap (0 - IntKind.i64.wrap (IntKind.u64.wrap ((absI a).tdiv (gcdI (absI a) (absI b)))))), .int .i64 (IntKind.i64.wrap (IntKind.u64.wrap ((absI b).tdiv (gcdI (absI a) (absI b)))))], .int .i64 0])) else bif decide (b < 0) then some (.ret (.tup [.agg [.int .i64 (IntKind.i64.wrap (0 - IntKind.i64.wrap (IntKind.u64.wrap ((absI a).tdiv (gcdI (absI a) (absI b)))))), .int .i64 (IntKind.i64.wrap (IntKind.u64.wrap ((absI b).tdiv (gcdI (absI a) (absI b)))))], .int .i64 0])) else some (.ret (.tup [.agg [.int .i64 (IntKind.i64.wrap (IntKind.u64.wrap ((absI a).tdiv (gcdI (absI a) (absI b))))), .int .i64 (IntKind.i64.wrap (IntKind.u64.wrap ((absI b).tdiv (gcdI (absI a) (absI b)))))], .int .i64 0])) else none else none else none else none else none : Option Res) = some (.ret (.tup [.agg [.int .i64 (mkX a b), .int .i64 (mkY a b)], .int .i64 (mkE a b)])) := by
  by_cases h0 : b = 0
  · subst h0; rfl
  · have hg := mkG_pos (a := a) h0
    obtain ⟨a0, a1⟩ := mkA_range (a := a) h0
    obtain ⟨d0, d1⟩ := mkD_range (a := a) h0
    have ea : (absI a).tdiv (gcdI (absI a) (absI b)) = mkA a b := Int.tdiv_eq_ediv_of_nonneg (absI_pos a)
    have eb : (absI b).tdiv (gcdI (absI a) (absI b)) = mkD a b := Int.tdiv_eq_ediv_of_nonneg (absI_pos b)
    have eg : gcdI (absI a) (absI b) = mkG a b := rfl
    have ra : absI a ≤ 9223372036854775808 := by simp only [inI, decide_eq_true_eq] at ha; rw [absI_eq]; omega
    have rb : absI b ≤ 9223372036854775808 := by simp only [inI, decide_eq_true_eq] at hb; rw [absI_eq]; omega
    have wa : IntKind.u64.wrap (mkA a b) = mkA a b := by rw [IntKind.wrap_u64]; omega
    have wb : IntKind.u64.wrap (mkD a b) = mkD a b := by rw [IntKind.wrap_u64]; omega
    rw [ea, eb, wa, wb, eg, ha, hb, decide_eq_true (absI_pos a), decide_eq_true (absI_pos b), decide_eq_false (show ¬ mkG a b = 0 by omega), show (b == 0) = false from beq_false_of_ne h0]
    simp only [Bool.and_self, Bool.not_false, cond_true, cond_false]
    by_cases k1 : mkA a b ≤ 1152921504606846976
    · rw [decide_eq_false (show ¬ mkA a b > 1152921504606846976 by omega)]
      by_cases k2 : mkD a b ≤ 1152921504606846976
      · rw [decide_eq_false (show ¬ mkD a b > 1152921504606846976 by omega), wrapI (x := mkA a b) (by omega) (by omega), wrapI (x := mkD a b) (by omega) (by omega), wrapI (x := 0 - mkA a b) (by omega) (by omega)]
        have hf : mkFits a b = true := by simp [mkFits, k1, k2]
        have he : mkE a b = 0 := by simp [mkE, h0, hf]
        simp only [mkX, mkY, he, if_true, mkN, cond_false]
        by_cases s1 : a < 0 <;> by_cases s2 : b < 0 <;> simp [s1, s2]
      · rw [decide_eq_true (show mkD a b > 1152921504606846976 by omega)]
        have hf : mkFits a b = false := by simp [mkFits, k2]
        have he : mkE a b = 14 := by simp [mkE, h0, hf]
        simp [mkX, mkY, he]
    · rw [decide_eq_true (show mkA a b > 1152921504606846976 by omega)]
      have hf : mkFits a b = false := by simp [mkFits, k1]
      have he : mkE a b = 14 := by simp [mkE, h0, hf]
      simp [mkX, mkY, he]
theorem sx48 : (mkCx Try.prog (spOf [i63]) (inlOf []) extD).Ok InvD := cx_of [] (by kernel_rfl) (by
  intro p hp
  simp only [List.mem_cons, List.not_mem_nil, or_false] at hp
  rcases hp with rfl
  · exact i63_ok)
def i48 : Ent := ⟨48, fun
  | [.int .i64 a, .int .i64 b] => .chk (inI a && inI b) (.leaf (.ret (.tup [.agg [.int .i64 (mkX a b), .int .i64 (mkY a b)], .int .i64 (mkE a b)])))
  | _ => .non⟩
theorem vti48 (a b : Int) : evFn Try.prog (spOf [i63]) (inlOf []) extD (cKD [i63] []) (lp48) Try.f48 [.int .i64 a, .int .i64 b] [] (fun r _ => some r) =
    (bif b == 0 then some (.ret (.tup [.agg [.int .i64 (0), .int .i64 (0)], .int .i64 26])) else bif inI a then bif inI b then bif decide (0 ≤ absI a) && decide (0 ≤ absI b) then bif !decide ((gcdI (absI a) (absI b)) = 0) then bif !decide ((gcdI (absI a) (absI b)) = 0) then bif decide ((IntKind.u64.wrap ((absI a).tdiv (gcdI (absI a) (absI b)))) > 1152921504606846976) then some (.ret (.tup [.agg [.int .i64 (0), .int .i64 (0)], .int .i64 14])) else bif decide ((IntKind.u64.wrap ((absI b).tdiv (gcdI (absI a) (absI b)))) > 1152921504606846976) then some (.ret (.tup [.agg [.int .i64 (0), .int .i64 (0)], .int .i64 14])) else bif decide (a < 0) then bif decide (b < 0) then some (.ret (.tup [.agg [.int .i64 (IntKind.i64.wrap (IntKind.u64.wrap ((absI a).tdiv (gcdI (absI a) (absI b))))), .int .i64 (IntKind.i64.wrap (IntKind.u64.wrap ((absI b).tdiv (gcdI (absI a) (absI b)))))], .int .i64 0])) else some (.ret (.tup [.agg [.int .i64 (IntKind.i64.wrap (0 - IntKind.i64.wrap (IntKind.u64.wrap ((absI a).tdiv (gcdI (absI a) (absI b)))))), .int .i64 (IntKind.i64.wrap (IntKind.u64.wrap ((absI b).tdiv (gcdI (absI a) (absI b)))))], .int .i64 0])) else bif decide (b < 0) then some (.ret (.tup [.agg [.int .i64 (IntKind.i64.wrap (0 - IntKind.i64.wrap (IntKind.u64.wrap ((absI a).tdiv (gcdI (absI a) (absI b)))))), .int .i64 (IntKind.i64.wrap (IntKind.u64.wrap ((absI b).tdiv (gcdI (absI a) (absI b)))))], .int .i64 0])) else some (.ret (.tup [.agg [.int .i64 (IntKind.i64.wrap (IntKind.u64.wrap ((absI a).tdiv (gcdI (absI a) (absI b))))), .int .i64 (IntKind.i64.wrap (IntKind.u64.wrap ((absI b).tdiv (gcdI (absI a) (absI b)))))], .int .i64 0])) else none else none else none else none else none : Option Res) := by kernel_rfl
theorem i48_ok : SpecHolds Try.prog InvD 48 fun a => (i48.2 a).run := by
  refine specD sx48 Try.func48 (c := codeOf Try.prog 48) (by kernel_rfl) (lp48) (fun p hp => by
    have hl : loops (codeOf Try.prog 48) = [(0, bodyOf Try.prog 48 0)] := by kernel_rfl
    rw [hl, List.mem_singleton] at hp
    subst hp
    exact sum48) fun args r hh => ?_
  simp only [i48] at hh
  split at hh
  · rename_i a b
    obtain ⟨hg, hh⟩ := chk_run hh
    refine ⟨by kernel_rfl, tr_ok (by rfl) hh, ?_⟩
    refine (vti48 a b).trans (Eq.trans ?_ hh)
    rw [Bool.and_eq_true] at hg
    exact mkTree a b hg.1 hg.2
  · simp [Tr.run] at hh
end Go.Proofs.Ytebiafgcnmnacaa
