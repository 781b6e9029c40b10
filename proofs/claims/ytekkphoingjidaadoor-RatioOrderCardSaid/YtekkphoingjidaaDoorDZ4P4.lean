/- RatioOrder returns true for every input, and its arguments read as they did: the row and its tied card. Conditions: the row's own (the listed tables are laid). -/
import Derived.Test.YtekkphoingjidaaDoorDZ4P3
import Derived.Test.YtekkphoingjidaaDoorCards
import Derived.Test.YtekkphoingjidaaDoorTie
import Derived.ProofKit
import Derived.LaidMore
import Derived.OpenShut
import Derived.Stop.Joined
import Derived.SevenTiedAt
import Derived.Lib.SmallJoins
/- The ways of RatioOrder. No condition. -/
namespace Go.Proofs.YtekkphoingjidaaDoor
open Go.Evl Go.RowKit
def w6x_c0 (a b _c _d _e _f : Int) : Bool := ckI a b != 0
theorem w6x_0_ok (a b c d e f : Int) (h : allB [(w6x_c0 a b c d e f, true)] = true) : (evFnT Tryd.prog (spOf l6) (inlOf []) extD (cKD l6 []) lp6 Tryd.f6 [.agg [.int .i64 a, .int .i64 b], .agg [.int .i64 c, .int .i64 d], .agg [.int .i64 e, .int .i64 f]] [] (fun r _ => .ofOpt (some r))).run = some (Res.ret (AV.bool true) : Res) := way (gs := [false, true, true, true, true, true, true, true]) (by kernel_rfl) h
theorem w6x_vc (a b c d e f : Int) (H0 : w6x_c0 a b c d e f = true) : (evFnT Tryd.prog (spOf l6) (inlOf []) extD (cKD l6 []) lp6 Tryd.f6 [.agg [.int .i64 a, .int .i64 b], .agg [.int .i64 c, .int .i64 d], .agg [.int .i64 e, .int .i64 f]] [] (fun r _ => .ofOpt (some r))).run = some (Res.ret (AV.bool true) : Res) := by
  have k0 := H0 
  exact w6x_0_ok a b c d e f (allB_t k0 allB_nil)
def w6y_c0 (a b _c _d _e _f : Int) : Bool := ckI a b != 0
def w6y_c1 (_a _b c d _e _f : Int) : Bool := ckI c d != 0
theorem w6y_0_ok (a b c d e f : Int) (h : allB [(w6y_c0 a b c d e f, false), (w6y_c1 a b c d e f, true)] = true) : (evFnT Tryd.prog (spOf l6) (inlOf []) extD (cKD l6 []) lp6 Tryd.f6 [.agg [.int .i64 a, .int .i64 b], .agg [.int .i64 c, .int .i64 d], .agg [.int .i64 e, .int .i64 f]] [] (fun r _ => .ofOpt (some r))).run = some (Res.ret (AV.bool true) : Res) := way (gs := [false, false, false, true, true, true, true, true, true]) (by kernel_rfl) h
theorem w6y_vc (a b c d e f : Int) (H0 : w6y_c0 a b c d e f = false) (H1 : w6y_c1 a b c d e f = true) : (evFnT Tryd.prog (spOf l6) (inlOf []) extD (cKD l6 []) lp6 Tryd.f6 [.agg [.int .i64 a, .int .i64 b], .agg [.int .i64 c, .int .i64 d], .agg [.int .i64 e, .int .i64 f]] [] (fun r _ => .ofOpt (some r))).run = some (Res.ret (AV.bool true) : Res) := by
  have k0 := H0 
  have k1 := H1 
  exact w6y_0_ok a b c d e f (allB_f k0 (allB_t k1 allB_nil))
def w6z_c0 (a b _c _d _e _f : Int) : Bool := ckI a b != 0
def w6z_c1 (_a _b c d _e _f : Int) : Bool := ckI c d != 0
def w6z_c2 (_a _b _c _d e f : Int) : Bool := ckI e f != 0
theorem w6z_0_ok (a b c d e f : Int) (h : allB [(w6z_c0 a b c d e f, false), (w6z_c1 a b c d e f, false), (w6z_c2 a b c d e f, true)] = true) : (evFnT Tryd.prog (spOf l6) (inlOf []) extD (cKD l6 []) lp6 Tryd.f6 [.agg [.int .i64 a, .int .i64 b], .agg [.int .i64 c, .int .i64 d], .agg [.int .i64 e, .int .i64 f]] [] (fun r _ => .ofOpt (some r))).run = some (Res.ret (AV.bool true) : Res) := way (gs := [false, false, false, false, false, false, true, true, true, true]) (by kernel_rfl) h
theorem w6z_vc (a b c d e f : Int) (H0 : w6z_c0 a b c d e f = false) (H1 : w6z_c1 a b c d e f = false) (H2 : w6z_c2 a b c d e f = true) : (evFnT Tryd.prog (spOf l6) (inlOf []) extD (cKD l6 []) lp6 Tryd.f6 [.agg [.int .i64 a, .int .i64 b], .agg [.int .i64 c, .int .i64 d], .agg [.int .i64 e, .int .i64 f]] [] (fun r _ => .ofOpt (some r))).run = some (Res.ret (AV.bool true) : Res) := by
  have k0 := H0 
  have k1 := H1 
  have k2 := H2 
  exact w6z_0_ok a b c d e f (allB_f k0 (allB_f k1 (allB_t k2 allB_nil)))
def w6n_c0 (a b _c _d _e _f : Int) : Bool := ckI a b != 0
def w6n_c1 (_a _b c d _e _f : Int) : Bool := ckI c d != 0
def w6n_c2 (_a _b _c _d e f : Int) : Bool := ckI e f != 0
def w6n_c3 (a b c d _e _f : Int) : Bool := decide (cmpR a b c d < -1)
def w6n_c4 (a b c d _e _f : Int) : Bool := decide (cmpR a b c d > 1)
def w6n_c5 (a b c d _e _f : Int) : Bool := cmpR c d a b != IntKind.i64.wrap (0 - cmpR a b c d)
def w6n_c6 (a b c d _e _f : Int) : Bool := cmpR a b c d == 0
def w6n_c7 (a b c d _e _f : Int) : Bool := a == c && (b == d && true)
def w6n_c8 (a b c d _e _f : Int) : Bool := decide (cmpR a b c d ≤ 0)
def w6n_c9 (_a _b c d e f : Int) : Bool := decide (cmpR c d e f ≤ 0)
def w6n_c10 (a b _c _d e f : Int) : Bool := decide (cmpR a b e f > 0)
theorem w6n_0_ok (a b c d e f : Int) (h : allB [(w6n_c0 a b c d e f, false), (w6n_c1 a b c d e f, false), (w6n_c2 a b c d e f, false), (w6n_c3 a b c d e f, false), (w6n_c4 a b c d e f, false), (w6n_c5 a b c d e f, false), (w6n_c6 a b c d e f, false), (w6n_c7 a b c d e f, false), (w6n_c8 a b c d e f, true), (w6n_c9 a b c d e f, true), (w6n_c10 a b c d e f, false)] = true) : (evPart Tryd.prog (spOf l6) (inlOf []) extD (cKD l6 []) lp6 4 (codeOf Tryd.prog 6) k6a ⟨frame0 Tryd.f6 [.agg [.int .i64 a, .int .i64 b], .agg [.int .i64 c, .int .i64 d], .agg [.int .i64 e, .int .i64 f]], []⟩).run = some ((Ex.normal, [AV.ptr 0 0, AV.ptr 1 0, AV.ptr 2 0, AV.int IntKind.i64 (cmpR a b c d)],
  [Ob.cells [AV.int IntKind.i64 a, AV.int IntKind.i64 b] 23, Ob.cells [AV.int IntKind.i64 c, AV.int IntKind.i64 d] 23,
    Ob.cells [AV.int IntKind.i64 e, AV.int IntKind.i64 f] 23]) : Ex × List AV × List Ob) := way (gs := [false, false, false, false, false, false, false, false, false, false, false, false, false, false, false, false, false, false, false, false, false, true, true, true, true, true, false, false, false]) (by kernel_rfl) h
theorem w6n_1_ok (a b c d e f : Int) (h : allB [(w6n_c0 a b c d e f, false), (w6n_c1 a b c d e f, false), (w6n_c2 a b c d e f, false), (w6n_c3 a b c d e f, false), (w6n_c4 a b c d e f, false), (w6n_c5 a b c d e f, false), (w6n_c6 a b c d e f, false), (w6n_c7 a b c d e f, false), (w6n_c8 a b c d e f, true), (w6n_c9 a b c d e f, false)] = true) : (evPart Tryd.prog (spOf l6) (inlOf []) extD (cKD l6 []) lp6 4 (codeOf Tryd.prog 6) k6a ⟨frame0 Tryd.f6 [.agg [.int .i64 a, .int .i64 b], .agg [.int .i64 c, .int .i64 d], .agg [.int .i64 e, .int .i64 f]], []⟩).run = some ((Ex.normal, [AV.ptr 0 0, AV.ptr 1 0, AV.ptr 2 0, AV.int IntKind.i64 (cmpR a b c d)],
  [Ob.cells [AV.int IntKind.i64 a, AV.int IntKind.i64 b] 23, Ob.cells [AV.int IntKind.i64 c, AV.int IntKind.i64 d] 23,
    Ob.cells [AV.int IntKind.i64 e, AV.int IntKind.i64 f] 23]) : Ex × List AV × List Ob) := way (gs := [false, false, false, false, false, false, false, false, false, false, false, false, false, false, false, false, false, false, false, false, false, true, true, false, false, false, false, false]) (by kernel_rfl) h
theorem w6n_2_ok (a b c d e f : Int) (h : allB [(w6n_c0 a b c d e f, false), (w6n_c1 a b c d e f, false), (w6n_c2 a b c d e f, false), (w6n_c3 a b c d e f, false), (w6n_c4 a b c d e f, false), (w6n_c5 a b c d e f, false), (w6n_c6 a b c d e f, false), (w6n_c7 a b c d e f, false), (w6n_c8 a b c d e f, false)] = true) : (evPart Tryd.prog (spOf l6) (inlOf []) extD (cKD l6 []) lp6 4 (codeOf Tryd.prog 6) k6a ⟨frame0 Tryd.f6 [.agg [.int .i64 a, .int .i64 b], .agg [.int .i64 c, .int .i64 d], .agg [.int .i64 e, .int .i64 f]], []⟩).run = some ((Ex.normal, [AV.ptr 0 0, AV.ptr 1 0, AV.ptr 2 0, AV.int IntKind.i64 (cmpR a b c d)],
  [Ob.cells [AV.int IntKind.i64 a, AV.int IntKind.i64 b] 23, Ob.cells [AV.int IntKind.i64 c, AV.int IntKind.i64 d] 23,
    Ob.cells [AV.int IntKind.i64 e, AV.int IntKind.i64 f] 23]) : Ex × List AV × List Ob) := way (gs := [false, false, false, false, false, false, false, false, false, false, false, false, false, false, false, false, false, false, false, false, false, false, false, false, false, false, false]) (by kernel_rfl) h
theorem w6n_vc (a b c d e f : Int) (H0 : w6n_c0 a b c d e f = false) (H1 : w6n_c1 a b c d e f = false) (H2 : w6n_c2 a b c d e f = false) (H3 : w6n_c3 a b c d e f = false) (H4 : w6n_c4 a b c d e f = false) (H5 : w6n_c5 a b c d e f = false) (H6 : w6n_c6 a b c d e f = false) (H7 : w6n_c7 a b c d e f = false) (H10 : w6n_c8 a b c d e f = true → w6n_c9 a b c d e f = true → w6n_c10 a b c d e f = false) : (evPart Tryd.prog (spOf l6) (inlOf []) extD (cKD l6 []) lp6 4 (codeOf Tryd.prog 6) k6a ⟨frame0 Tryd.f6 [.agg [.int .i64 a, .int .i64 b], .agg [.int .i64 c, .int .i64 d], .agg [.int .i64 e, .int .i64 f]], []⟩).run = some ((Ex.normal, [AV.ptr 0 0, AV.ptr 1 0, AV.ptr 2 0, AV.int IntKind.i64 (cmpR a b c d)],
  [Ob.cells [AV.int IntKind.i64 a, AV.int IntKind.i64 b] 23, Ob.cells [AV.int IntKind.i64 c, AV.int IntKind.i64 d] 23,
    Ob.cells [AV.int IntKind.i64 e, AV.int IntKind.i64 f] 23]) : Ex × List AV × List Ob) := by
  have k0 := H0 
  have k1 := H1 
  have k2 := H2 
  have k3 := H3 
  have k4 := H4 
  have k5 := H5 
  have k6 := H6 
  have k7 := H7 
  cases k8 : w6n_c8 a b c d e f
  ·
    exact w6n_2_ok a b c d e f (allB_f k0 (allB_f k1 (allB_f k2 (allB_f k3 (allB_f k4 (allB_f k5 (allB_f k6 (allB_f k7 (allB_f k8 allB_nil)))))))))
  ·
    cases k9 : w6n_c9 a b c d e f
    ·
      exact w6n_1_ok a b c d e f (allB_f k0 (allB_f k1 (allB_f k2 (allB_f k3 (allB_f k4 (allB_f k5 (allB_f k6 (allB_f k7 (allB_t k8 (allB_f k9 allB_nil))))))))))
    ·
      have k10 := H10 k8 k9
      exact w6n_0_ok a b c d e f (allB_f k0 (allB_f k1 (allB_f k2 (allB_f k3 (allB_f k4 (allB_f k5 (allB_f k6 (allB_f k7 (allB_t k8 (allB_t k9 (allB_f k10 allB_nil)))))))))))
def w6e_c0 (a b _c _d _e _f : Int) : Bool := ckI a b != 0
def w6e_c1 (_a _b c d _e _f : Int) : Bool := ckI c d != 0
def w6e_c2 (_a _b _c _d e f : Int) : Bool := ckI e f != 0
def w6e_c3 (a b c d _e _f : Int) : Bool := decide (cmpR a b c d < -1)
def w6e_c4 (a b c d _e _f : Int) : Bool := decide (cmpR a b c d > 1)
def w6e_c5 (a b c d _e _f : Int) : Bool := cmpR c d a b != IntKind.i64.wrap (0 - cmpR a b c d)
def w6e_c6 (a b c d _e _f : Int) : Bool := cmpR a b c d == 0
def w6e_c7 (a b c d _e _f : Int) : Bool := a == c && (b == d && true)
def w6e_c8 (a b c d _e _f : Int) : Bool := decide (cmpR a b c d ≤ 0)
def w6e_c9 (_a _b c d e f : Int) : Bool := decide (cmpR c d e f ≤ 0)
def w6e_c10 (a b _c _d e f : Int) : Bool := decide (cmpR a b e f > 0)
theorem w6e_0_ok (a b c d e f : Int) (h : allB [(w6e_c0 a b c d e f, false), (w6e_c1 a b c d e f, false), (w6e_c2 a b c d e f, false), (w6e_c3 a b c d e f, false), (w6e_c4 a b c d e f, false), (w6e_c5 a b c d e f, false), (w6e_c6 a b c d e f, true), (w6e_c7 a b c d e f, true), (w6e_c8 a b c d e f, true), (w6e_c9 a b c d e f, true), (w6e_c10 a b c d e f, false)] = true) : (evPart Tryd.prog (spOf l6) (inlOf []) extD (cKD l6 []) lp6 4 (codeOf Tryd.prog 6) k6a ⟨frame0 Tryd.f6 [.agg [.int .i64 a, .int .i64 b], .agg [.int .i64 c, .int .i64 d], .agg [.int .i64 e, .int .i64 f]], []⟩).run = some ((Ex.normal, [AV.ptr 0 0, AV.ptr 1 0, AV.ptr 2 0, AV.int IntKind.i64 (cmpR a b c d)],
  [Ob.cells [AV.int IntKind.i64 a, AV.int IntKind.i64 b] 23, Ob.cells [AV.int IntKind.i64 c, AV.int IntKind.i64 d] 23,
    Ob.cells [AV.int IntKind.i64 e, AV.int IntKind.i64 f] 23]) : Ex × List AV × List Ob) := way (gs := [false, false, false, false, false, false, false, false, false, false, false, false, false, false, false, false, true, true, false, false, false, true, true, true, true, true, false, false, false]) (by kernel_rfl) h
theorem w6e_1_ok (a b c d e f : Int) (h : allB [(w6e_c0 a b c d e f, false), (w6e_c1 a b c d e f, false), (w6e_c2 a b c d e f, false), (w6e_c3 a b c d e f, false), (w6e_c4 a b c d e f, false), (w6e_c5 a b c d e f, false), (w6e_c6 a b c d e f, true), (w6e_c7 a b c d e f, true), (w6e_c8 a b c d e f, true), (w6e_c9 a b c d e f, false)] = true) : (evPart Tryd.prog (spOf l6) (inlOf []) extD (cKD l6 []) lp6 4 (codeOf Tryd.prog 6) k6a ⟨frame0 Tryd.f6 [.agg [.int .i64 a, .int .i64 b], .agg [.int .i64 c, .int .i64 d], .agg [.int .i64 e, .int .i64 f]], []⟩).run = some ((Ex.normal, [AV.ptr 0 0, AV.ptr 1 0, AV.ptr 2 0, AV.int IntKind.i64 (cmpR a b c d)],
  [Ob.cells [AV.int IntKind.i64 a, AV.int IntKind.i64 b] 23, Ob.cells [AV.int IntKind.i64 c, AV.int IntKind.i64 d] 23,
    Ob.cells [AV.int IntKind.i64 e, AV.int IntKind.i64 f] 23]) : Ex × List AV × List Ob) := way (gs := [false, false, false, false, false, false, false, false, false, false, false, false, false, false, false, false, true, true, false, false, false, true, true, false, false, false, false, false]) (by kernel_rfl) h
theorem w6e_2_ok (a b c d e f : Int) (h : allB [(w6e_c0 a b c d e f, false), (w6e_c1 a b c d e f, false), (w6e_c2 a b c d e f, false), (w6e_c3 a b c d e f, false), (w6e_c4 a b c d e f, false), (w6e_c5 a b c d e f, false), (w6e_c6 a b c d e f, true), (w6e_c7 a b c d e f, true), (w6e_c8 a b c d e f, false)] = true) : (evPart Tryd.prog (spOf l6) (inlOf []) extD (cKD l6 []) lp6 4 (codeOf Tryd.prog 6) k6a ⟨frame0 Tryd.f6 [.agg [.int .i64 a, .int .i64 b], .agg [.int .i64 c, .int .i64 d], .agg [.int .i64 e, .int .i64 f]], []⟩).run = some ((Ex.normal, [AV.ptr 0 0, AV.ptr 1 0, AV.ptr 2 0, AV.int IntKind.i64 (cmpR a b c d)],
  [Ob.cells [AV.int IntKind.i64 a, AV.int IntKind.i64 b] 23, Ob.cells [AV.int IntKind.i64 c, AV.int IntKind.i64 d] 23,
    Ob.cells [AV.int IntKind.i64 e, AV.int IntKind.i64 f] 23]) : Ex × List AV × List Ob) := way (gs := [false, false, false, false, false, false, false, false, false, false, false, false, false, false, false, false, true, true, false, false, false, false, false, false, false, false, false]) (by kernel_rfl) h
theorem w6e_vc (a b c d e f : Int) (H0 : w6e_c0 a b c d e f = false) (H1 : w6e_c1 a b c d e f = false) (H2 : w6e_c2 a b c d e f = false) (H3 : w6e_c3 a b c d e f = false) (H4 : w6e_c4 a b c d e f = false) (H5 : w6e_c5 a b c d e f = false) (H6 : w6e_c6 a b c d e f = true) (H7 : w6e_c7 a b c d e f = true) (H10 : w6e_c8 a b c d e f = true → w6e_c9 a b c d e f = true → w6e_c10 a b c d e f = false) : (evPart Tryd.prog (spOf l6) (inlOf []) extD (cKD l6 []) lp6 4 (codeOf Tryd.prog 6) k6a ⟨frame0 Tryd.f6 [.agg [.int .i64 a, .int .i64 b], .agg [.int .i64 c, .int .i64 d], .agg [.int .i64 e, .int .i64 f]], []⟩).run = some ((Ex.normal, [AV.ptr 0 0, AV.ptr 1 0, AV.ptr 2 0, AV.int IntKind.i64 (cmpR a b c d)],
  [Ob.cells [AV.int IntKind.i64 a, AV.int IntKind.i64 b] 23, Ob.cells [AV.int IntKind.i64 c, AV.int IntKind.i64 d] 23,
    Ob.cells [AV.int IntKind.i64 e, AV.int IntKind.i64 f] 23]) : Ex × List AV × List Ob) := by
  have k0 := H0 
  have k1 := H1 
  have k2 := H2 
  have k3 := H3 
  have k4 := H4 
  have k5 := H5 
  have k6 := H6 
  have k7 := H7 
  cases k8 : w6e_c8 a b c d e f
  ·
    exact w6e_2_ok a b c d e f (allB_f k0 (allB_f k1 (allB_f k2 (allB_f k3 (allB_f k4 (allB_f k5 (allB_t k6 (allB_t k7 (allB_f k8 allB_nil)))))))))
  ·
    cases k9 : w6e_c9 a b c d e f
    ·
      exact w6e_1_ok a b c d e f (allB_f k0 (allB_f k1 (allB_f k2 (allB_f k3 (allB_f k4 (allB_f k5 (allB_t k6 (allB_t k7 (allB_t k8 (allB_f k9 allB_nil))))))))))
    ·
      have k10 := H10 k8 k9
      exact w6e_0_ok a b c d e f (allB_f k0 (allB_f k1 (allB_f k2 (allB_f k3 (allB_f k4 (allB_f k5 (allB_t k6 (allB_t k7 (allB_t k8 (allB_t k9 (allB_f k10 allB_nil)))))))))))
def w6b_c0 (a b _c _d e f _n : Int) : Bool := opE (okB a b && okB e f) (a * f + e * b) (b * f) == 0
def w6b_c1 (_a _b c d e f _n : Int) : Bool := opE (okB c d && okB e f) (c * f + e * d) (d * f) == 0
def w6b_c2 (a b c d e f n : Int) : Bool := cmpR (opN (okB a b && okB e f) (a * f + e * b) (b * f)) (opD (okB a b && okB e f) (a * f + e * b) (b * f))
    (opN (okB c d && okB e f) (c * f + e * d) (d * f)) (opD (okB c d && okB e f) (c * f + e * d) (d * f)) !=
  n
theorem w6b_0_ok (a b c d e f n : Int) (h : allB [(w6b_c0 a b c d e f n, true), (w6b_c1 a b c d e f n, true), (w6b_c2 a b c d e f n, false)] = true) : (evPart Tryd.prog (spOf l6) (inlOf []) extD (cKD l6 []) lp6 3 (dropSeq 4 (codeOf Tryd.prog 6)) k6b ⟨mkF 125 k6a [.ptr 0 0, .ptr 1 0, .ptr 2 0, .int .i64 n], [.cells [.int .i64 a, .int .i64 b] 23, .cells [.int .i64 c, .int .i64 d] 23, .cells [.int .i64 e, .int .i64 f] 23]⟩).run = some ((Ex.normal, [AV.ptr 0 0, AV.ptr 1 0, AV.ptr 2 0, AV.int IntKind.i64 n, AV.ptr 3 0, AV.ptr 4 0],
  [Ob.cells [AV.int IntKind.i64 a, AV.int IntKind.i64 b] 23, Ob.cells [AV.int IntKind.i64 c, AV.int IntKind.i64 d] 23,
    Ob.cells [AV.int IntKind.i64 e, AV.int IntKind.i64 f] 23,
    Ob.cells
      [AV.int IntKind.i64 (opN (okB a b && okB e f) (a * f + e * b) (b * f)),
        AV.int IntKind.i64 (opD (okB a b && okB e f) (a * f + e * b) (b * f))]
      23,
    Ob.cells
      [AV.int IntKind.i64 (opN (okB c d && okB e f) (c * f + e * d) (d * f)),
        AV.int IntKind.i64 (opD (okB c d && okB e f) (c * f + e * d) (d * f))]
      23]) : Ex × List AV × List Ob) := way (gs := [true, true, true, true, true, false, false]) (by kernel_rfl) h
theorem w6b_1_ok (a b c d e f n : Int) (h : allB [(w6b_c0 a b c d e f n, true), (w6b_c1 a b c d e f n, false)] = true) : (evPart Tryd.prog (spOf l6) (inlOf []) extD (cKD l6 []) lp6 3 (dropSeq 4 (codeOf Tryd.prog 6)) k6b ⟨mkF 125 k6a [.ptr 0 0, .ptr 1 0, .ptr 2 0, .int .i64 n], [.cells [.int .i64 a, .int .i64 b] 23, .cells [.int .i64 c, .int .i64 d] 23, .cells [.int .i64 e, .int .i64 f] 23]⟩).run = some ((Ex.normal, [AV.ptr 0 0, AV.ptr 1 0, AV.ptr 2 0, AV.int IntKind.i64 n, AV.ptr 3 0, AV.ptr 4 0],
  [Ob.cells [AV.int IntKind.i64 a, AV.int IntKind.i64 b] 23, Ob.cells [AV.int IntKind.i64 c, AV.int IntKind.i64 d] 23,
    Ob.cells [AV.int IntKind.i64 e, AV.int IntKind.i64 f] 23,
    Ob.cells
      [AV.int IntKind.i64 (opN (okB a b && okB e f) (a * f + e * b) (b * f)),
        AV.int IntKind.i64 (opD (okB a b && okB e f) (a * f + e * b) (b * f))]
      23,
    Ob.cells
      [AV.int IntKind.i64 (opN (okB c d && okB e f) (c * f + e * d) (d * f)),
        AV.int IntKind.i64 (opD (okB c d && okB e f) (c * f + e * d) (d * f))]
      23]) : Ex × List AV × List Ob) := way (gs := [true, true, false, false, false, false]) (by kernel_rfl) h
theorem w6b_2_ok (a b c d e f n : Int) (h : allB [(w6b_c0 a b c d e f n, false)] = true) : (evPart Tryd.prog (spOf l6) (inlOf []) extD (cKD l6 []) lp6 3 (dropSeq 4 (codeOf Tryd.prog 6)) k6b ⟨mkF 125 k6a [.ptr 0 0, .ptr 1 0, .ptr 2 0, .int .i64 n], [.cells [.int .i64 a, .int .i64 b] 23, .cells [.int .i64 c, .int .i64 d] 23, .cells [.int .i64 e, .int .i64 f] 23]⟩).run = some ((Ex.normal, [AV.ptr 0 0, AV.ptr 1 0, AV.ptr 2 0, AV.int IntKind.i64 n, AV.ptr 3 0, AV.ptr 4 0],
  [Ob.cells [AV.int IntKind.i64 a, AV.int IntKind.i64 b] 23, Ob.cells [AV.int IntKind.i64 c, AV.int IntKind.i64 d] 23,
    Ob.cells [AV.int IntKind.i64 e, AV.int IntKind.i64 f] 23,
    Ob.cells
      [AV.int IntKind.i64 (opN (okB a b && okB e f) (a * f + e * b) (b * f)),
        AV.int IntKind.i64 (opD (okB a b && okB e f) (a * f + e * b) (b * f))]
      23,
    Ob.cells
      [AV.int IntKind.i64 (opN (okB c d && okB e f) (c * f + e * d) (d * f)),
        AV.int IntKind.i64 (opD (okB c d && okB e f) (c * f + e * d) (d * f))]
      23]) : Ex × List AV × List Ob) := way (gs := [false, false, false, false, false]) (by kernel_rfl) h
theorem w6b_vc (a b c d e f n : Int) (H2 : w6b_c0 a b c d e f n = true → w6b_c1 a b c d e f n = true → w6b_c2 a b c d e f n = false) : (evPart Tryd.prog (spOf l6) (inlOf []) extD (cKD l6 []) lp6 3 (dropSeq 4 (codeOf Tryd.prog 6)) k6b ⟨mkF 125 k6a [.ptr 0 0, .ptr 1 0, .ptr 2 0, .int .i64 n], [.cells [.int .i64 a, .int .i64 b] 23, .cells [.int .i64 c, .int .i64 d] 23, .cells [.int .i64 e, .int .i64 f] 23]⟩).run = some ((Ex.normal, [AV.ptr 0 0, AV.ptr 1 0, AV.ptr 2 0, AV.int IntKind.i64 n, AV.ptr 3 0, AV.ptr 4 0],
  [Ob.cells [AV.int IntKind.i64 a, AV.int IntKind.i64 b] 23, Ob.cells [AV.int IntKind.i64 c, AV.int IntKind.i64 d] 23,
    Ob.cells [AV.int IntKind.i64 e, AV.int IntKind.i64 f] 23,
    Ob.cells
      [AV.int IntKind.i64 (opN (okB a b && okB e f) (a * f + e * b) (b * f)),
        AV.int IntKind.i64 (opD (okB a b && okB e f) (a * f + e * b) (b * f))]
      23,
    Ob.cells
      [AV.int IntKind.i64 (opN (okB c d && okB e f) (c * f + e * d) (d * f)),
        AV.int IntKind.i64 (opD (okB c d && okB e f) (c * f + e * d) (d * f))]
      23]) : Ex × List AV × List Ob) := by
  cases k0 : w6b_c0 a b c d e f n
  ·
    exact w6b_2_ok a b c d e f n (allB_f k0 allB_nil)
  ·
    cases k1 : w6b_c1 a b c d e f n
    ·
      exact w6b_1_ok a b c d e f n (allB_t k0 (allB_f k1 allB_nil))
    ·
      have k2 := H2 k0 k1
      exact w6b_0_ok a b c d e f n (allB_t k0 (allB_t k1 (allB_f k2 allB_nil)))
def w6c_c0 (a b _c _d e f _n _p _q _s _t : Int) : Bool := opE (okB a b && okB e f) (a * e) (b * f) != 0
def w6c_c1 (_a _b c d e f _n _p _q _s _t : Int) : Bool := opE (okB c d && okB e f) (c * e) (d * f) != 0
def w6c_c2 (_a _b _c _d e _f _n _p _q _s _t : Int) : Bool := decide (e ≤ 0)
def w6c_c3 (a b c d e f n _p _q _s _t : Int) : Bool := cmpR (opN (okB a b && okB e f) (a * e) (b * f)) (opD (okB a b && okB e f) (a * e) (b * f))
    (opN (okB c d && okB e f) (c * e) (d * f)) (opD (okB c d && okB e f) (c * e) (d * f)) ==
  n
theorem w6c_0_ok (a b c d e f n p q s t : Int) (h : allB [(w6c_c0 a b c d e f n p q s t, true)] = true) : (evRest Tryd.prog (spOf l6) (inlOf []) extD (cKD l6 []) lp6 (dropSeq 3 (dropSeq 4 (codeOf Tryd.prog 6))) 125 k6b [.ptr 0 0, .ptr 1 0, .ptr 2 0, .int .i64 n, .ptr 3 0, .ptr 4 0] [.cells [.int .i64 a, .int .i64 b] 23, .cells [.int .i64 c, .int .i64 d] 23, .cells [.int .i64 e, .int .i64 f] 23, .cells [.int .i64 p, .int .i64 q] 23, .cells [.int .i64 s, .int .i64 t] 23] (endKT Tryd.prog Tryd.f6 fun r _ => .ofOpt (some r))).run = some (Res.ret (AV.bool true) : Res) := way (gs := [true, true, true, true, true, true, true, true, true, true, true]) (by kernel_rfl) h
theorem w6c_1_ok (a b c d e f n p q s t : Int) (h : allB [(w6c_c0 a b c d e f n p q s t, false), (w6c_c1 a b c d e f n p q s t, true)] = true) : (evRest Tryd.prog (spOf l6) (inlOf []) extD (cKD l6 []) lp6 (dropSeq 3 (dropSeq 4 (codeOf Tryd.prog 6))) 125 k6b [.ptr 0 0, .ptr 1 0, .ptr 2 0, .int .i64 n, .ptr 3 0, .ptr 4 0] [.cells [.int .i64 a, .int .i64 b] 23, .cells [.int .i64 c, .int .i64 d] 23, .cells [.int .i64 e, .int .i64 f] 23, .cells [.int .i64 p, .int .i64 q] 23, .cells [.int .i64 s, .int .i64 t] 23] (endKT Tryd.prog Tryd.f6 fun r _ => .ofOpt (some r))).run = some (Res.ret (AV.bool true) : Res) := way (gs := [false, false, true, true, true, true, true, true, true, true, true, true]) (by kernel_rfl) h
theorem w6c_2_ok (a b c d e f n p q s t : Int) (h : allB [(w6c_c0 a b c d e f n p q s t, false), (w6c_c1 a b c d e f n p q s t, false), (w6c_c2 a b c d e f n p q s t, true)] = true) : (evRest Tryd.prog (spOf l6) (inlOf []) extD (cKD l6 []) lp6 (dropSeq 3 (dropSeq 4 (codeOf Tryd.prog 6))) 125 k6b [.ptr 0 0, .ptr 1 0, .ptr 2 0, .int .i64 n, .ptr 3 0, .ptr 4 0] [.cells [.int .i64 a, .int .i64 b] 23, .cells [.int .i64 c, .int .i64 d] 23, .cells [.int .i64 e, .int .i64 f] 23, .cells [.int .i64 p, .int .i64 q] 23, .cells [.int .i64 s, .int .i64 t] 23] (endKT Tryd.prog Tryd.f6 fun r _ => .ofOpt (some r))).run = some (Res.ret (AV.bool true) : Res) := way (gs := [false, false, false, false, false, true, true, true, true, true, true, true, true]) (by kernel_rfl) h
theorem w6c_3_ok (a b c d e f n p q s t : Int) (h : allB [(w6c_c0 a b c d e f n p q s t, false), (w6c_c1 a b c d e f n p q s t, false), (w6c_c2 a b c d e f n p q s t, false), (w6c_c3 a b c d e f n p q s t, true)] = true) : (evRest Tryd.prog (spOf l6) (inlOf []) extD (cKD l6 []) lp6 (dropSeq 3 (dropSeq 4 (codeOf Tryd.prog 6))) 125 k6b [.ptr 0 0, .ptr 1 0, .ptr 2 0, .int .i64 n, .ptr 3 0, .ptr 4 0] [.cells [.int .i64 a, .int .i64 b] 23, .cells [.int .i64 c, .int .i64 d] 23, .cells [.int .i64 e, .int .i64 f] 23, .cells [.int .i64 p, .int .i64 q] 23, .cells [.int .i64 s, .int .i64 t] 23] (endKT Tryd.prog Tryd.f6 fun r _ => .ofOpt (some r))).run = some (Res.ret (AV.bool true) : Res) := way (gs := [false, false, false, false, false, false, false, false, true, true, true, true, true, true]) (by kernel_rfl) h
theorem w6c_vc (a b c d e f n p q s t : Int) (H3 : w6c_c0 a b c d e f n p q s t = false → w6c_c1 a b c d e f n p q s t = false → w6c_c2 a b c d e f n p q s t = false → w6c_c3 a b c d e f n p q s t = true) : (evRest Tryd.prog (spOf l6) (inlOf []) extD (cKD l6 []) lp6 (dropSeq 3 (dropSeq 4 (codeOf Tryd.prog 6))) 125 k6b [.ptr 0 0, .ptr 1 0, .ptr 2 0, .int .i64 n, .ptr 3 0, .ptr 4 0] [.cells [.int .i64 a, .int .i64 b] 23, .cells [.int .i64 c, .int .i64 d] 23, .cells [.int .i64 e, .int .i64 f] 23, .cells [.int .i64 p, .int .i64 q] 23, .cells [.int .i64 s, .int .i64 t] 23] (endKT Tryd.prog Tryd.f6 fun r _ => .ofOpt (some r))).run = some (Res.ret (AV.bool true) : Res) := by
  cases k0 : w6c_c0 a b c d e f n p q s t
  ·
    cases k1 : w6c_c1 a b c d e f n p q s t
    ·
      cases k2 : w6c_c2 a b c d e f n p q s t
      ·
        have k3 := H3 k0 k1 k2
        exact w6c_3_ok a b c d e f n p q s t (allB_f k0 (allB_f k1 (allB_f k2 (allB_t k3 allB_nil))))
      ·
        exact w6c_2_ok a b c d e f n p q s t (allB_f k0 (allB_f k1 (allB_t k2 allB_nil)))
    ·
      exact w6c_1_ok a b c d e f n p q s t (allB_f k0 (allB_t k1 allB_nil))
  ·
    exact w6c_0_ok a b c d e f n p q s t (allB_t k0 allB_nil)
end Go.Proofs.YtekkphoingjidaaDoor

/- RatioOrder's call returns true. Conditions: none beyond the context's. -/
namespace Go.Proofs.YtekkphoingjidaaDoor
open Go.Evl Go.RowKit

theorem ckI_ne {a b : Int} : (ckI a b != 0) = !okB a b := by unfold ckI; cases okB a b <;> rfl
theorem cmpR_ok {a b c d : Int} (h1 : okB a b = true) (h2 : okB c d = true) : cmpR a b c d = cmpI a b c d := by simp [cmpR, h1, h2]
theorem opE_zero {k : Bool} {n m : Int} : (opE k n m == 0) = (k && mkFits n m) := by unfold opE; cases k <;> cases mkFits n m <;> rfl
theorem opE_ne {k : Bool} {n m : Int} : (opE k n m != 0) = !(k && mkFits n m) := by unfold opE; cases k <;> cases mkFits n m <;> rfl
theorem opN_ok {k : Bool} {n m : Int} (h : (k && mkFits n m) = true) : opN k n m = mkN n m := by simp only [opN, h, if_true]
theorem opD_ok {k : Bool} {n m : Int} (h : (k && mkFits n m) = true) : opD k n m = mkD n m := by simp only [opD, h, if_true]
theorem okB_pos {a b : Int} (h : okB a b = true) : 0 < b := by have := okB_iff.1 h; omega
/-- comparing results is comparing the fractions that are not reduced -/
theorem cmp_results {n m p q : Int} {k k' : Bool} (hm : 0 < m) (hq : 0 < q) (h1 : (k && mkFits n m) = true) (h2 : (k' && mkFits p q) = true) : cmpR (opN k n m) (opD k n m) (opN k' p q) (opD k' p q) = cmpI n m p q := by
  rw [opN_ok h1, opD_ok h1, opN_ok h2, opD_ok h2]
  simp only [Bool.and_eq_true] at h1 h2
  rw [cmpR_ok (mk_ok hm h1.2) (mk_ok hq h2.2)]
  exact cmpI_congr (mkD_pos hm) (mkD_pos hq) hm hq (mk_val hm) (mk_val hq)
theorem cmp_add {a b c d e f : Int} (hf : 0 < f) : cmpI (a * f + e * b) (b * f) (c * f + e * d) (d * f) = cmpI a b c d := by
  unfold cmpI
  have hff : 0 < f * f := Int.mul_pos hf hf
  have e1 : (a * f + e * b) * (d * f) = a * d * (f * f) + e * b * d * f := by grind
  have e2 : (c * f + e * d) * (b * f) = c * b * (f * f) + e * b * d * f := by grind
  have k1 : (a * f + e * b) * (d * f) < (c * f + e * d) * (b * f) ↔ a * d < c * b := by
    rw [e1, e2, ← mul_lt_r (x := a * d) (y := c * b) hff]; omega
  have k2 : (a * f + e * b) * (d * f) = (c * f + e * d) * (b * f) ↔ a * d = c * b := by
    rw [e1, e2, ← mul_eq_r (x := a * d) (y := c * b) hff]; omega
  simp only [k1, k2]
theorem cmp_mul {a b c d e f : Int} (he : 0 < e) (hf : 0 < f) : cmpI (a * e) (b * f) (c * e) (d * f) = cmpI a b c d := by
  unfold cmpI
  have hff : 0 < e * f := Int.mul_pos he hf
  have e1 : a * e * (d * f) = a * d * (e * f) := by grind
  have e2 : c * e * (b * f) = c * b * (e * f) := by grind
  rw [e1, e2]
  simp only [mul_lt_r hff, mul_eq_r hff]

theorem cx6 : (mkCx Tryd.prog (spOf l6) (inlOf []) extD).Ok InvD := cx_of [] (by kernel_rfl) (by
  intro p hp
  simp only [l6, List.mem_cons, List.not_mem_nil, or_false] at hp
  rcases hp with rfl | rfl | rfl | rfl | rfl
  · exact e14m_ok
  · exact e19_ok
  · exact e20m_ok
  · exact e21m_ok
  · exact e26m_ok)
theorem part6 {a b c d e f : Int} (h1 : okB a b = true) (h2 : okB c d = true) (h3 : okB e f = true) :
    (evPart Tryd.prog (spOf l6) (inlOf []) extD (cKD l6 []) lp6 4 (codeOf Tryd.prog 6) k6a ⟨frame0 Tryd.f6 [.agg [.int .i64 a, .int .i64 b], .agg [.int .i64 c, .int .i64 d], .agg [.int .i64 e, .int .i64 f]], []⟩).run =
    some (.normal, [.ptr 0 0, .ptr 1 0, .ptr 2 0, .int .i64 (cmpI a b c d)], [.cells [.int .i64 a, .int .i64 b] 23, .cells [.int .i64 c, .int .i64 d] 23, .cells [.int .i64 e, .int .i64 f] 23]) := by
  have hb := okB_pos h1
  have hd := okB_pos h2
  have hf := okB_pos h3
  obtain ⟨r1, r2⟩ := cmpI_range a b c d
  have rs := cmpI_symm a b c d
  have g1 : decide (cmpI a b c d < -1) = false := by simp; omega
  have g2 : decide (cmpI a b c d > 1) = false := by simp; omega
  have g3 : (cmpI c d a b != IntKind.i64.wrap (0 - cmpI a b c d)) = false := by rw [wrapI (by omega) (by omega), rs]; simp
  have g4 : decide (cmpI a b c d ≤ 0) = true → decide (cmpI c d e f ≤ 0) = true → decide (cmpI a b e f > 0) = false := by
    intro k1 k2
    have j1 := cmpI_le.1 (of_decide_eq_true k1)
    have j2 := cmpI_le.1 (of_decide_eq_true k2)
    have := cmpI_le.2 (le_trans_frac hb hd hf j1 j2)
    simp; omega
  by_cases hz : cmpI a b c d = 0
  · obtain ⟨e1, e2⟩ := red_eq hb hd (okB_iff.1 h1).2.2.2.2 (okB_iff.1 h2).2.2.2.2 (cmpI_zero.1 hz)
    have := w6e_vc a b c d e f (by rw [w6e_c0, ckI_ne, h1]; rfl) (by rw [w6e_c1, ckI_ne, h2]; rfl) (by rw [w6e_c2, ckI_ne, h3]; rfl) (by rw [w6e_c3, cmpR_ok h1 h2]; exact g1) (by rw [w6e_c4, cmpR_ok h1 h2]; exact g2)
      (by rw [w6e_c5, cmpR_ok h1 h2, cmpR_ok h2 h1]; exact g3) (by rw [w6e_c6, cmpR_ok h1 h2, hz]; rfl) (by rw [w6e_c7, e1, e2]; simp) (by rw [w6e_c8, w6e_c9, w6e_c10, cmpR_ok h1 h2, cmpR_ok h2 h3, cmpR_ok h1 h3]; exact g4)
    rw [cmpR_ok h1 h2] at this
    exact this
  · have hne : ¬ (a = c ∧ b = d) := by
      rintro ⟨rfl, rfl⟩
      exact hz (cmpI_zero.2 rfl)
    have := w6n_vc a b c d e f (by rw [w6n_c0, ckI_ne, h1]; rfl) (by rw [w6n_c1, ckI_ne, h2]; rfl) (by rw [w6n_c2, ckI_ne, h3]; rfl) (by rw [w6n_c3, cmpR_ok h1 h2]; exact g1) (by rw [w6n_c4, cmpR_ok h1 h2]; exact g2)
      (by rw [w6n_c5, cmpR_ok h1 h2, cmpR_ok h2 h1]; exact g3) (by rw [w6n_c6, cmpR_ok h1 h2]; exact beq_false_of_ne hz)
      (by rw [w6n_c7, Bool.and_true, Bool.and_eq_false_iff]; simp only [beq_eq_false_iff_ne, ne_eq]; omega) (by rw [w6n_c8, w6n_c9, w6n_c10, cmpR_ok h1 h2, cmpR_ok h2 h3, cmpR_ok h1 h3]; exact g4)
    rw [cmpR_ok h1 h2] at this
    exact this
def e6 : Ent := ⟨6, fun
  | [.agg [.int .i64 _, .int .i64 _], .agg [.int .i64 _, .int .i64 _], .agg [.int .i64 _, .int .i64 _]] => .leaf (.ret (.bool true))
  | _ => .non⟩
set_option maxRecDepth 20000 in
theorem run6 (a b c d e f : Int) : (evFnT Tryd.prog (spOf l6) (inlOf []) extD (cKD l6 []) lp6 Tryd.f6 [.agg [.int .i64 a, .int .i64 b], .agg [.int .i64 c, .int .i64 d], .agg [.int .i64 e, .int .i64 f]] [] (fun r _ => .ofOpt (some r))).run = some (.ret (.bool true)) := by
  cases h1 : okB a b with
  | false => exact w6x_vc a b c d e f (by rw [w6x_c0, ckI_ne, h1]; rfl)
  | true =>
  cases h2 : okB c d with
  | false => exact w6y_vc a b c d e f (by rw [w6y_c0, ckI_ne, h1]; rfl) (by rw [w6y_c1, ckI_ne, h2]; rfl)
  | true =>
  cases h3 : okB e f with
  | false => exact w6z_vc a b c d e f (by rw [w6z_c0, ckI_ne, h1]; rfl) (by rw [w6z_c1, ckI_ne, h2]; rfl) (by rw [w6z_c2, ckI_ne, h3]; rfl)
  | true =>
    have hb := okB_pos h1
    have hd := okB_pos h2
    have hf := okB_pos h3
    have hbf : 0 < b * f := Int.mul_pos hb hf
    have hdf : 0 < d * f := Int.mul_pos hd hf
    have hcf : ∀ {β : Type}, CallEq (β := β) (cKD l6 []) (callN (mkCx Tryd.prog (spOf l6) (inlOf []) extD) attD uD 20) := fun {β} => callK_eq (β := β) Tryd.prog (spOf l6) (inlOf []) extD attD uD 20
    have e0 : (evFnT Tryd.prog (spOf l6) (inlOf []) extD (cKD l6 []) lp6 Tryd.f6 [.agg [.int .i64 a, .int .i64 b], .agg [.int .i64 c, .int .i64 d], .agg [.int .i64 e, .int .i64 f]] [] (fun r _ => .ofOpt (some r))).run =
      (evCT Tryd.prog (spOf l6) (inlOf []) extD (cKD l6 []) lp6 (codeOf Tryd.prog 6) ⟨frame0 Tryd.f6 [.agg [.int .i64 a, .int .i64 b], .agg [.int .i64 c, .int .i64 d], .agg [.int .i64 e, .int .i64 f]], []⟩ (endKT Tryd.prog Tryd.f6 fun r _ => .ofOpt (some r))).run :=
      evFn_body _ _ _ _ _ (c := codeOf Tryd.prog 6) (by kernel_rfl) _ _ (fun r _ => some r)
    have hl1 : (St.mk (frame0 Tryd.f6 [.agg [.int .i64 a, .int .i64 b], .agg [.int .i64 c, .int .i64 d], .agg [.int .i64 e, .int .i64 f]]) []).tm.length = 125 := by kernel_rfl
    have c1 := ev_cut (β := Res) Tryd.prog (spOf l6) (inlOf []) extD (cKD l6 []) hcf (lp := lp6) (n := 4) (c := codeOf Tryd.prog 6) (id := 6) (keep := k6a) (by kernel_rfl) (by kernel_rfl) rfl (by decide)
      (st := ⟨frame0 Tryd.f6 [.agg [.int .i64 a, .int .i64 b], .agg [.int .i64 c, .int .i64 d], .agg [.int .i64 e, .int .i64 f]], []⟩) (by rw [hl1]; decide) (part6 h1 h2 h3) (endKT Tryd.prog Tryd.f6 fun r _ => .ofOpt (some r))
    rw [hl1] at c1
    have p2 := w6b_vc a b c d e f (cmpI a b c d) (by
      rw [w6b_c0, w6b_c1, w6b_c2]
      intro k1 k2
      rw [opE_zero] at k1 k2
      rw [cmp_results hbf hdf k1 k2, cmp_add hf]
      simp)
    have hl2 : ∀ vs H, (St.mk (mkF 125 k6a vs) H).tm.length = 125 := fun vs H => mkF_length ..
    have c2 := ev_cut (β := Res) Tryd.prog (spOf l6) (inlOf []) extD (cKD l6 []) hcf (lp := lp6) (n := 3) (c := dropSeq 4 (codeOf Tryd.prog 6)) (id := 10) (keep := k6b) (by kernel_rfl) (by kernel_rfl) rfl (by decide)
      (by rw [hl2]; decide) p2 (endKT Tryd.prog Tryd.f6 fun r _ => .ofOpt (some r))
    rw [hl2] at c2
    rw [e0, c1]
    refine c2.trans ?_
    refine w6c_vc a b c d e f (cmpI a b c d) _ _ _ _ ?_
    rw [w6c_c0, w6c_c1, w6c_c2, w6c_c3]
    intro k1 k2 k3
    rw [opE_ne, Bool.not_eq_false'] at k1 k2
    have he : 0 < e := by simpa using k3
    rw [cmp_results hbf hdf k1 k2, cmp_mul he hf]
    simp
theorem e6_ok : SpecHolds Tryd.prog InvD 6 fun a => (e6.2 a).run := by
  refine specD cx6 Tryd.func6 (c := codeOf Tryd.prog 6) (by kernel_rfl) lp6 (fun p hp => ?_) fun args r h => ?_
  · have hl : loops (codeOf Tryd.prog 6) = [] := by kernel_rfl
    rw [hl] at hp; cases hp
  · simp only [e6] at h
    split at h
    · simp only [Tr.run, Option.some.injEq] at h
      subst h
      exact ⟨by kernel_rfl, rfl, run6 _ _ _ _ _ _⟩
    · simp [Tr.run] at h
end Go.Proofs.YtekkphoingjidaaDoor

/- What the ratio rows' condition gives: the table of powers of ten stands in the world. Conditions: the rows' own. -/
namespace Go.Proofs.YtekkphoingjidaaDoor
open Go.ChangeShapes Go.WideShapes Go.ChangeAt Go.RowKit Go.Joins Go.Evl

theorem own : ownKnob Tryd.prog.godebug = none := by kernel_rfl
def laidD : List (String × DataW Unit) := [("math/bits.deBruijn32tab", Rows.laid_math_bits_deBruijn32tab), ("math/bits.deBruijn64tab", Rows.laid_math_bits_deBruijn64tab), ("internal/strconv.uint64pow10", Rows.laid_internal_strconv_uint64pow10)]
theorem door_met (os : Os) (args : Array Value) : laidMetH Tryd.prog laidD ((World.doorLaid Tryd.prog 400 os).forCall (fun _ _ => 0) ⟨#[], args, []⟩).memory :=
  laidMetH_of_parts3 (fuel := 8) (laidMet_of_run' 8 (by kernel_rfl) (by kernel_rfl)) (by kernel_rfl) (by kernel_rfl)
theorem gPow : Tryd.prog.globalNamed "internal/strconv.uint64pow10" = some 5 := by kernel_rfl
theorem tPow : (Tryd.prog.globals[5]?).map (·.type) = some 110 := by kernel_rfl
theorem inv_of_laid {W : World} (h : laidMetH Tryd.prog laidD W) : InvD W := by
  rw [MakeChecks.laidMetH_plain _ _ _ (by kernel_rfl)] at h
  obtain ⟨ps, ⟨g0, t0, cs0, f0, p0, q0, hg0, ht0, hv0, hd0, ⟨g1, t1, cs1, f1, p1, q1, hg1, ht1, hv1, hd1, ⟨g2, t2, cs2, f2, p2, q2, hg2, ht2, hv2, hd2, _, _⟩, _⟩, _⟩, _, _⟩ := h
  obtain rfl := Option.some.inj (gPow.symm.trans hg2)
  obtain rfl := Option.some.inj (tPow.symm.trans ht2)
  have hdat : (Rows.laid_internal_strconv_uint64pow10 : DataW Unit) = Lib.tabData .u64 Lib.pow10Tab := by kernel_rfl
  rw [hdat] at hd2
  unfold InvD Lib.TabIs
  rw [hv2, ← Lib.cells_of_tab Tryd.underlying110 Tryd.underlying44 (by kernel_rfl) (by kernel_rfl) hd2]

end Go.Proofs.YtekkphoingjidaaDoor

/- RatioOrder returns true for every input, and its arguments read as they did: the row and its tied card. Conditions: the row's own (the listed tables are laid). -/
namespace Go.Proofs.YtekkphoingjidaaDoor
open Go.ChangeShapes Go.WideShapes Go.ChangeAt Go.RowKit Go.Joins Go.Evl

set_option maxRecDepth 100000 in
theorem ratioOrder_lifted (os : Os) (started : os.Started) (H : Type) (enc : TypeId × Value → H) :
    ReturnsInHanded {} Tryd.checked os 6 .any (fun w args => (Rows.ratioOrderSpec.pre enc Tryd.prog Tryd.f6 [] false w args ∧ laidMetH Tryd.prog laidD w) ∧ sizedMet enc Tryd.prog Tryd.f6 (OpenSpec.ofChange Rows.ratioOrderSpec) false w args)
      (Rows.ratioOrderSpec.post enc Tryd.prog Tryd.f6 false true false false) := by
  refine returnsInHanded_of_change_and (C := Tryd.checked) (X := fun w _ => laidMetH Tryd.prog laidD w) (fun _ _ _ hh h => h.of_heap hh) own started (by kernel_rfl) Tryd.func6
    (ChangeSpec.witness_shaped (enc := enc) (C := Tryd.checked) (os := os) (X := fun w _ => laidMetH Tryd.prog laidD w) false (World.doorLaid Tryd.prog 400 os) #[.agg #[.int .i64 0, .int .i64 1], .agg #[.int .i64 0, .int .i64 1], .agg #[.int .i64 0, .int .i64 1]] 8 rfl (World.shaped_of_RefB (by kernel_rfl) (by kernel_rfl)) (by kernel_rfl) (by kernel_rfl) (by kernel_rfl) (door_met os _)) ?_
  intro W base args ds gs before hval0 hW _ _ hL _
  have hval : ∀ (j : Nat) t v, Tryd.f6.params[j]? = some t → args[j]? = some v → Value.okWide Tryd.prog W .any base t v := hval0
  have hW' := hW
  obtain ⟨p, q, hA0, hV, rfl, hfz, hnd⟩ := hW
  have hA : DataW.TrodAll enc Tryd.prog W 0 (fun _ => true) true Tryd.f6.params.toList args.toList ds p := hA0
  rw [Tryd.params6] at hA hval
  obtain ⟨v0, v1, v2, d0, d1, d2, p0, p1, p2, rfl, rfl, rfl, h0, h1, h2⟩ := trodAll_three hA
  obtain ⟨rfl, rfl⟩ := trodVars_none hV
  obtain ⟨c0a, c0b, y0a, y0b, m0, rfl, rfl, rfl, hy0a, hy0b⟩ := open_agg2 Tryd.underlying23 (by kernel_rfl) (by kernel_rfl) (hval 0 23 v0 rfl rfl) h0
  obtain ⟨a0, x0a, rfl, wa0⟩ := DataW.trod_int Tryd.underlying3 hy0a
  obtain ⟨b0, x0b, rfl, wb0⟩ := DataW.trod_int Tryd.underlying3 hy0b
  simp at x0a x0b
  subst x0a x0b
  obtain ⟨c1a, c1b, y1a, y1b, m1, rfl, rfl, rfl, hy1a, hy1b⟩ := open_agg2 Tryd.underlying23 (by kernel_rfl) (by kernel_rfl) (hval 1 23 v1 rfl rfl) h1
  obtain ⟨a1, x1a, rfl, wa1⟩ := DataW.trod_int Tryd.underlying3 hy1a
  obtain ⟨b1, x1b, rfl, wb1⟩ := DataW.trod_int Tryd.underlying3 hy1b
  simp at x1a x1b
  subst x1a x1b
  obtain ⟨c2a, c2b, y2a, y2b, m2, rfl, rfl, rfl, hy2a, hy2b⟩ := open_agg2 Tryd.underlying23 (by kernel_rfl) (by kernel_rfl) (hval 2 23 v2 rfl rfl) h2
  obtain ⟨a2, x2a, rfl, wa2⟩ := DataW.trod_int Tryd.underlying3 hy2a
  obtain ⟨b2, x2b, rfl, wb2⟩ := DataW.trod_int Tryd.underlying3 hy2b
  simp at x2a x2b
  subst x2a x2b
  clear hA0 hval0
  simp only [List.append_nil] at hW'
  have readsR : ∀ {x y : Int}, (Lit.int .i64 x).wf = true → (Lit.int .i64 y).wf = true → ∀ {W' : World} {sp : Nat → Bool}, DataW.Trod enc Tryd.prog W' 0 sp true 23 (.agg #[.int .i64 x, .int .i64 y]) (.agg [.lit (.int .i64 x), .lit (.int .i64 y)]) [] := fun {x y} wx wy {W' sp} =>
    shut_agg2 (y0 := (.lit (.int .i64 x), [])) (y1 := (.lit (.int .i64 y), [])) Tryd.underlying23 (by kernel_rfl) (by kernel_rfl) ⟨1, by simp [DataW.trod, Tryd.underlying3, wx]⟩ ⟨1, by simp [DataW.trod, Tryd.underlying3, wy]⟩
  have rvR : ∀ (x y : Int), Rv (fun i => i) (fun _ => False) W None_ (.agg [.int .i64 x, .int .i64 y]) (.agg #[.int .i64 x, .int .i64 y]) := fun x y =>
    .agg (vs := [.int .i64 x, .int .i64 y]) rfl fun i k1 k2 => by
      match i, k1 with
      | 0, _ => exact .int
      | 1, _ => exact .int
  have hrv : Rvs (fun i => i) (fun _ => False) W None_ [.agg [.int .i64 a0, .int .i64 b0], .agg [.int .i64 a1, .int .i64 b1], .agg [.int .i64 a2, .int .i64 b2]] [.agg #[.int .i64 a0, .int .i64 b0], .agg #[.int .i64 a1, .int .i64 b1], .agg #[.int .i64 a2, .int .i64 b2]] := (.cons (rvR a0 b0) (.cons (rvR a1 b1) (.cons (rvR a2 b2) .nil)))
  refine (e6_ok [.agg [.int .i64 a0, .int .i64 b0], .agg [.int .i64 a1, .int .i64 b1], .agg [.int .i64 a2, .int .i64 b2]] (.ret (.bool true)) rfl (fun i => i) (fun _ => False) W [.agg #[.int .i64 a0, .int .i64 b0], .agg #[.int .i64 a1, .int .i64 b1], .agg #[.int .i64 a2, .int .i64 b2]] (fun _ h => h.elim) (inv_of_laid hL) hrv).mono fun e W' ⟨hbel, u, he, hu⟩ => ?_
  subst he
  rw [hu.of_bool]
  refine ⟨_, rfl, _, _, _, [], [], [], hW', ?_, ?_, rfl, hbel.frame _, fun h => by cases h⟩
  · exact trodAll_mk1 (shut_bool Tryd.underlying4 true)
  · exact trodAll_mk3 (readsR wa0 wb0) (readsR wa1 wb1) (readsR wa2 wb2)
theorem ratioOrder_holds : Rows.RatioOrderSaid :=
  OpenClaim.holds_of_wide 6 Tryd.f6 rfl rfl rfl rfl rfl rfl rfl ⟨rfl, rfl, rfl, rfl, rfl⟩ rfl rfl rfl rfl rfl (by kernel_rfl) Tryd.func6 (by kernel_rfl)
    (of_decide_eq_true (by kernel_rfl)) (by unfold Func.isWrapper; first | (rw [if_pos (by decide +kernel)]; kernel_rfl) | (rw [if_neg (by decide +kernel)]; exact ⟨rfl, rfl⟩))
    (fun os started H enc _ => ratioOrder_lifted os started H enc)
theorem ratioOrder_card : Rows.RatioOrderCardSaid :=
  Claim7.holds_tied_plain_at .later [] [.data, .data, .data] true (true, "1379b761534bc6fcd36d08c11d6da8ef3fefd5fae7e448a1bfb79f481a6f43dc") true
    ratioOrder_holds (fun _ h => by cases h) (by kernel_rfl) (fun _ h => by cases h) ratioOrder_row_tie rfl ⟨rfl, rfl⟩ (by kernel_rfl) rfl
    (fun f fn hf hfn => by
      obtain rfl : f = 6 := Option.some.inj ((show Tryd.prog.funcNamed "lookout/lookoutlaw03.RatioOrder" = some 6 by kernel_rfl).symm.trans hf) |>.symm
      obtain rfl : fn = Tryd.f6 := (Option.some.inj (Tryd.func6.symm.trans hfn)).symm
      exact ⟨by kernel_rfl, fun j t ht => by
        rw [Tryd.params6] at ht
        have hm : t ∈ [23, 23, 23] := by simpa using Array.mem_of_getElem? ht
        have hall : ([23, 23, 23].all fun u => !Tryd.prog.wantsStandIn u) = true := by kernel_rfl
        exact (show Tryd.prog.wantsStandIn t = false by simpa using List.all_eq_true.1 hall t hm)⟩)
    (by kernel_rfl)
#print axioms ratioOrder_card
end Go.Proofs.YtekkphoingjidaaDoor
