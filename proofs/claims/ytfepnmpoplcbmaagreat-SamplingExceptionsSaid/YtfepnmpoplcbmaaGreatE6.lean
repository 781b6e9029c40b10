/- SamplingExceptions returns true for every input, and its arguments read as they did. No condition. -/
import Derived.Test.YtfepnmpoplcbmaaGreatE5
import Derived.ChangeShapes
import Derived.Test.YtfepnmpoplcbmaaGreatRows
import Derived.ProofKit
import Derived.Lib.SmallJoins
namespace Go.Proofs.YtfepnmpoplcbmaaGreat.T
open Go.Evl Go.RowKit
structure CbG where
  K : Bool → Int → Int → Int → Bool → Int → Int → Int → Bool
  N : Bool → Int → Int → Int → Bool → Int → Int → Int → Int
  D : Bool → Int → Int → Int → Bool → Int → Int → Int → Int
  R : Bool → Int → Int → Int → Bool → Int → Int → Int → Int
  E : Bool → Int → Int → Int → Bool → Int → Int → Int → Int
def i19g (G : CbG) : Ent := ⟨17, fun
  | [.agg [.bool k, .int .i64 a, .int .i64 b, .int .i64 r], .agg [.bool l, .int .i64 c, .int .i64 d, .int .i64 s]] => .leaf (.ret (.tup [D4 (G.K k a b r l c d s) (G.N k a b r l c d s) (G.D k a b r l c d s) (G.R k a b r l c d s), .int .i64 (G.E k a b r l c d s)]))
  | _ => .non⟩
def gCb : CbG := ⟨cbK, cbN, cbD, cbR, cbE⟩
theorem i19g_ok : SpecHolds Tryz.prog InvD 17 fun a => ((i19g gCb).2 a).run := by
  intro args r h
  refine i19_ok args r ?_
  unfold i19g at h
  simp only at h
  split at h
  · exact h
  · cases h
abbrev kp4a : List Nat := [1, 6, 9, 10, 11, 13, 14, 15, 16]
abbrev kp4b : List Nat := [9, 10, 11]
abbrev lp4 (i : Nat) : LT := bif Nat.beq i 1000005 then .forget kp4a else bif Nat.beq i 1000010 then .forget kp4b else .unroll 0
abbrev hp4 (e : Bool) (s p w : Int) (k1 : Bool) (a1 b1 r1 : Int) (k2 : Bool) (a2 b2 r2 : Int) (k3 : Bool) (a3 b3 r3 : Int) (ti : Int) (m : Nat) (y : Nat → Nat → Dt) (q : Nat) (z : Nat → Nat → Dt) (k4 : Bool) (a4 b4 r4 : Int) : List Ob := [.cells [.bool e, .int .i64 s, .int .i64 p, .int .i64 w] 23, .cells [.bool k1, .int .i64 a1, .int .i64 b1, .int .i64 r1] 33, .cells [.bool k2, .int .i64 a2, .int .i64 b2, .int .i64 r2] 33, .cells [.bool k3, .int .i64 a3, .int .i64 b3, .int .i64 r3] 33, .cells [.int .i64 ti, .isz m SS y, .isz q [.int .i64] z] 27, .cells [.bool k4, .int .i64 a4, .int .i64 b4, .int .i64 r4] 33]
abbrev vs4a (n : Nat) (x : Nat → Nat → Dt) (e1 e2 : Int) : List AV := [.isz n SS x, .ptr 0 0, .ptr 1 0, .ptr 2 0, .ptr 3 0, .ptr 4 0, .int .i64 e1, .ptr 5 0, .int .i64 e2]
abbrev vs4b : List AV := [.ptr 1 0, .ptr 2 0, .ptr 3 0]
abbrev ld4 (ex : Ex) (H : List Ob) : Option (Ex × List AV × List Ob) := some (ex, vs4b, H)
theorem p4A (G : CbG) (e : Bool) (s p w : Int) (n : Nat) (x : Nat → Nat → Dt) (co : Int) (k1 : Bool) (a1 b1 r1 : Int) (k2 : Bool) (a2 b2 r2 : Int) (k3 : Bool) (a3 b3 r3 : Int) : (evPart Tryz.prog (spOf [t16, iAw, t17, tq10, tq13b, tq15, i13, i19g G]) (inlOf []) extD (cKD [t16, iAw, t17, tq10, tq13b, tq15, i13, i19g G] []) lp4 4 (codeOf Tryz.prog 4) kp4a ⟨frame0 Tryz.f4 [.agg [.bool e, .int .i64 s, .int .i64 p, .int .i64 w], .isz n SS x, .int .i64 co, D4 k1 a1 b1 r1, D4 k2 a2 b2 r2, D4 k3 a3 b3 r3], []⟩).run =
    (bif n.ble 9223372036854775807 && lnB n x then bif glB n x then some (.ret, [.isz n SS x, .ptr 0 0, .ptr 1 0, .ptr 2 0, .ptr 3 0, .raw (Value.tuple { toList := [] }), .raw (Value.tuple { toList := [] }), .raw (Value.tuple { toList := [] }), .raw (Value.tuple { toList := [] })], [.cells [.bool e, .int .i64 s, .int .i64 p, .int .i64 w] 23, .cells [.bool k1, .int .i64 a1, .int .i64 b1, .int .i64 r1] 33, .cells [.bool k2, .int .i64 a2, .int .i64 b2, .int .i64 r2] 33, .cells [.bool k3, .int .i64 a3, .int .i64 b3, .int .i64 r3] 33]) else bif n.ble 12 && (bdE n x != 0 || okB n x) then bif (bdN n x).ble 12 && smGB (bdN n x) (bdS n x) then some (.normal, [.isz n SS x, .ptr 0 0, .ptr 1 0, .ptr 2 0, .ptr 3 0, .ptr 4 0, .int .i64 (bdE n x), .ptr 5 0, .int .i64 (tlE s p w (bdI n x) (bdN n x) (bdS n x) (bdN n x) (bdP n x) co)], [.cells [.bool e, .int .i64 s, .int .i64 p, .int .i64 w] 23, .cells [.bool k1, .int .i64 a1, .int .i64 b1, .int .i64 r1] 33, .cells [.bool k2, .int .i64 a2, .int .i64 b2, .int .i64 r2] 33, .cells [.bool k3, .int .i64 a3, .int .i64 b3, .int .i64 r3] 33, .cells [.int .i64 (bdI n x), .isz (bdN n x) SS (bdS n x), .isz (bdN n x) [.int .i64] (bdP n x)] 27, .cells [.bool (tlKB e s p w (bdI n x) (bdN n x) (bdS n x) (bdN n x) (bdP n x) co), .int .i64 (tlN e s p w (bdI n x) (bdN n x) (bdS n x) (bdN n x) (bdP n x) co), .int .i64 (tlD e s p w (bdI n x) (bdN n x) (bdS n x) (bdN n x) (bdP n x) co), .int .i64 (tlR e s p w (bdI n x) (bdN n x) (bdS n x) (bdN n x) (bdP n x) co)] 33]) else none else none else none : Option (Ex × List AV × List Ob)) := by kernel_rfl
theorem p4B (G : CbG) (e : Bool) (s p w : Int) (n : Nat) (x : Nat → Nat → Dt) (k1 : Bool) (a1 b1 r1 : Int) (k2 : Bool) (a2 b2 r2 : Int) (k3 : Bool) (a3 b3 r3 : Int) (ti : Int) (m : Nat) (y : Nat → Nat → Dt) (q : Nat) (z : Nat → Nat → Dt) (k4 : Bool) (a4 b4 r4 : Int) (e1 e2 : Int) : (evPart Tryz.prog (spOf [t16, iAw, t17, tq10, tq13b, tq15, i13, i19g G]) (inlOf []) extD (cKD [t16, iAw, t17, tq10, tq13b, tq15, i13, i19g G] []) lp4 1 (dropSeq 4 (codeOf Tryz.prog 4)) kp4b ⟨mkF 141 kp4a (vs4a n x e1 e2), hp4 e s p w k1 a1 b1 r1 k2 a2 b2 r2 k3 a3 b3 r3 ti m y q z k4 a4 b4 r4⟩).run =
    (bif e1 == 0 then bif e2 == 0 then bif e then bif n.ble 1000000 then bif erAB n x then bif decide (s > 0) then bif m.ble 1000000 then bif decide (duI m y ≥ s) then bif k4 then bif !(a4 == 1 && (b4 == 1 && true)) then ld4 .ret (hp4 e s p w k1 a1 b1 r1 k2 a2 b2 r2 k3 a3 b3 r3 ti m y q z k4 a4 b4 r4) else bif k4 then bif !(a4 == 0 && (b4 == 1 && true)) then ld4 .normal (hp4 e s p w k1 a1 b1 r1 k2 a2 b2 r2 k3 a3 b3 r3 ti m y q z k4 a4 b4 r4) else ld4 .ret (hp4 e s p w k1 a1 b1 r1 k2 a2 b2 r2 k3 a3 b3 r3 ti m y q z k4 a4 b4 r4) else bif !(a4 == 0 && (b4 == 1 && true)) then ld4 .ret (hp4 e s p w k1 a1 b1 r1 k2 a2 b2 r2 k3 a3 b3 r3 ti m y q z k4 a4 b4 r4) else ld4 .normal (hp4 e s p w k1 a1 b1 r1 k2 a2 b2 r2 k3 a3 b3 r3 ti m y q z k4 a4 b4 r4) else ld4 .ret (hp4 e s p w k1 a1 b1 r1 k2 a2 b2 r2 k3 a3 b3 r3 ti m y q z k4 a4 b4 r4) else bif k4 then bif !(a4 == 1 && (b4 == 1 && true)) then ld4 .ret (hp4 e s p w k1 a1 b1 r1 k2 a2 b2 r2 k3 a3 b3 r3 ti m y q z k4 a4 b4 r4) else bif k4 then bif !(a4 == 0 && (b4 == 1 && true)) then ld4 .normal (hp4 e s p w k1 a1 b1 r1 k2 a2 b2 r2 k3 a3 b3 r3 ti m y q z k4 a4 b4 r4) else ld4 .ret (hp4 e s p w k1 a1 b1 r1 k2 a2 b2 r2 k3 a3 b3 r3 ti m y q z k4 a4 b4 r4) else bif !(a4 == 0 && (b4 == 1 && true)) then ld4 .ret (hp4 e s p w k1 a1 b1 r1 k2 a2 b2 r2 k3 a3 b3 r3 ti m y q z k4 a4 b4 r4) else ld4 .normal (hp4 e s p w k1 a1 b1 r1 k2 a2 b2 r2 k3 a3 b3 r3 ti m y q z k4 a4 b4 r4) else ld4 .ret (hp4 e s p w k1 a1 b1 r1 k2 a2 b2 r2 k3 a3 b3 r3 ti m y q z k4 a4 b4 r4) else none else bif k4 then bif !(a4 == 1 && (b4 == 1 && true)) then ld4 .ret (hp4 e s p w k1 a1 b1 r1 k2 a2 b2 r2 k3 a3 b3 r3 ti m y q z k4 a4 b4 r4) else bif k4 then bif !(a4 == 0 && (b4 == 1 && true)) then ld4 .normal (hp4 e s p w k1 a1 b1 r1 k2 a2 b2 r2 k3 a3 b3 r3 ti m y q z k4 a4 b4 r4) else ld4 .ret (hp4 e s p w k1 a1 b1 r1 k2 a2 b2 r2 k3 a3 b3 r3 ti m y q z k4 a4 b4 r4) else bif !(a4 == 0 && (b4 == 1 && true)) then ld4 .ret (hp4 e s p w k1 a1 b1 r1 k2 a2 b2 r2 k3 a3 b3 r3 ti m y q z k4 a4 b4 r4) else ld4 .normal (hp4 e s p w k1 a1 b1 r1 k2 a2 b2 r2 k3 a3 b3 r3 ti m y q z k4 a4 b4 r4) else ld4 .ret (hp4 e s p w k1 a1 b1 r1 k2 a2 b2 r2 k3 a3 b3 r3 ti m y q z k4 a4 b4 r4) else bif decide (s > 0) then bif m.ble 1000000 then bif decide (duI m y ≥ s) then bif k4 then bif !(a4 == 1 && (b4 == 1 && true)) then ld4 .ret (hp4 e s p w k1 a1 b1 r1 k2 a2 b2 r2 k3 a3 b3 r3 ti m y q z k4 a4 b4 r4) else bif k4 then bif !(a4 == 0 && (b4 == 1 && true)) then ld4 .normal (hp4 e s p w k1 a1 b1 r1 k2 a2 b2 r2 k3 a3 b3 r3 ti m y q z k4 a4 b4 r4) else ld4 .ret (hp4 e s p w k1 a1 b1 r1 k2 a2 b2 r2 k3 a3 b3 r3 ti m y q z k4 a4 b4 r4) else bif !(a4 == 0 && (b4 == 1 && true)) then ld4 .ret (hp4 e s p w k1 a1 b1 r1 k2 a2 b2 r2 k3 a3 b3 r3 ti m y q z k4 a4 b4 r4) else ld4 .normal (hp4 e s p w k1 a1 b1 r1 k2 a2 b2 r2 k3 a3 b3 r3 ti m y q z k4 a4 b4 r4) else ld4 .ret (hp4 e s p w k1 a1 b1 r1 k2 a2 b2 r2 k3 a3 b3 r3 ti m y q z k4 a4 b4 r4) else bif k4 then bif !(a4 == 0 && (b4 == 1 && true)) then ld4 .normal (hp4 e s p w k1 a1 b1 r1 k2 a2 b2 r2 k3 a3 b3 r3 ti m y q z k4 a4 b4 r4) else ld4 .ret (hp4 e s p w k1 a1 b1 r1 k2 a2 b2 r2 k3 a3 b3 r3 ti m y q z k4 a4 b4 r4) else bif !(a4 == 0 && (b4 == 1 && true)) then ld4 .ret (hp4 e s p w k1 a1 b1 r1 k2 a2 b2 r2 k3 a3 b3 r3 ti m y q z k4 a4 b4 r4) else ld4 .normal (hp4 e s p w k1 a1 b1 r1 k2 a2 b2 r2 k3 a3 b3 r3 ti m y q z k4 a4 b4 r4) else none else bif k4 then bif !(a4 == 0 && (b4 == 1 && true)) then ld4 .normal (hp4 e s p w k1 a1 b1 r1 k2 a2 b2 r2 k3 a3 b3 r3 ti m y q z k4 a4 b4 r4) else ld4 .ret (hp4 e s p w k1 a1 b1 r1 k2 a2 b2 r2 k3 a3 b3 r3 ti m y q z k4 a4 b4 r4) else bif !(a4 == 0 && (b4 == 1 && true)) then ld4 .ret (hp4 e s p w k1 a1 b1 r1 k2 a2 b2 r2 k3 a3 b3 r3 ti m y q z k4 a4 b4 r4) else ld4 .normal (hp4 e s p w k1 a1 b1 r1 k2 a2 b2 r2 k3 a3 b3 r3 ti m y q z k4 a4 b4 r4) else none else bif decide (s > 0) then bif m.ble 1000000 then bif decide (duI m y ≥ s) then bif k4 then bif !(a4 == 1 && (b4 == 1 && true)) then ld4 .ret (hp4 e s p w k1 a1 b1 r1 k2 a2 b2 r2 k3 a3 b3 r3 ti m y q z k4 a4 b4 r4) else bif k4 then bif !(a4 == 0 && (b4 == 1 && true)) then ld4 .normal (hp4 e s p w k1 a1 b1 r1 k2 a2 b2 r2 k3 a3 b3 r3 ti m y q z k4 a4 b4 r4) else ld4 .ret (hp4 e s p w k1 a1 b1 r1 k2 a2 b2 r2 k3 a3 b3 r3 ti m y q z k4 a4 b4 r4) else bif !(a4 == 0 && (b4 == 1 && true)) then ld4 .ret (hp4 e s p w k1 a1 b1 r1 k2 a2 b2 r2 k3 a3 b3 r3 ti m y q z k4 a4 b4 r4) else ld4 .normal (hp4 e s p w k1 a1 b1 r1 k2 a2 b2 r2 k3 a3 b3 r3 ti m y q z k4 a4 b4 r4) else ld4 .ret (hp4 e s p w k1 a1 b1 r1 k2 a2 b2 r2 k3 a3 b3 r3 ti m y q z k4 a4 b4 r4) else bif k4 then bif !(a4 == 0 && (b4 == 1 && true)) then ld4 .normal (hp4 e s p w k1 a1 b1 r1 k2 a2 b2 r2 k3 a3 b3 r3 ti m y q z k4 a4 b4 r4) else ld4 .ret (hp4 e s p w k1 a1 b1 r1 k2 a2 b2 r2 k3 a3 b3 r3 ti m y q z k4 a4 b4 r4) else bif !(a4 == 0 && (b4 == 1 && true)) then ld4 .ret (hp4 e s p w k1 a1 b1 r1 k2 a2 b2 r2 k3 a3 b3 r3 ti m y q z k4 a4 b4 r4) else ld4 .normal (hp4 e s p w k1 a1 b1 r1 k2 a2 b2 r2 k3 a3 b3 r3 ti m y q z k4 a4 b4 r4) else none else bif k4 then bif !(a4 == 0 && (b4 == 1 && true)) then ld4 .normal (hp4 e s p w k1 a1 b1 r1 k2 a2 b2 r2 k3 a3 b3 r3 ti m y q z k4 a4 b4 r4) else ld4 .ret (hp4 e s p w k1 a1 b1 r1 k2 a2 b2 r2 k3 a3 b3 r3 ti m y q z k4 a4 b4 r4) else bif !(a4 == 0 && (b4 == 1 && true)) then ld4 .ret (hp4 e s p w k1 a1 b1 r1 k2 a2 b2 r2 k3 a3 b3 r3 ti m y q z k4 a4 b4 r4) else ld4 .normal (hp4 e s p w k1 a1 b1 r1 k2 a2 b2 r2 k3 a3 b3 r3 ti m y q z k4 a4 b4 r4) else ld4 .normal (hp4 e s p w k1 a1 b1 r1 k2 a2 b2 r2 k3 a3 b3 r3 ti m y q z k4 a4 b4 r4) else ld4 .normal (hp4 e s p w k1 a1 b1 r1 k2 a2 b2 r2 k3 a3 b3 r3 ti m y q z k4 a4 b4 r4) : Option (Ex × List AV × List Ob)) := by kernel_rfl
theorem p4C (G : CbG) (e : Bool) (s p w : Int) (k1 : Bool) (a1 b1 r1 : Int) (k2 : Bool) (a2 b2 r2 : Int) (k3 : Bool) (a3 b3 r3 : Int) (ti : Int) (m : Nat) (y : Nat → Nat → Dt) (q : Nat) (z : Nat → Nat → Dt) (k4 : Bool) (a4 b4 r4 : Int) : (evRest Tryz.prog (spOf [t16, iAw, t17, tq10, tq13b, tq15, i13, i19g G]) (inlOf []) extD (cKD [t16, iAw, t17, tq10, tq13b, tq15, i13, i19g G] []) lp4 (dropSeq 5 (codeOf Tryz.prog 4)) 141 kp4b vs4b (hp4 e s p w k1 a1 b1 r1 k2 a2 b2 r2 k3 a3 b3 r3 ti m y q z k4 a4 b4 r4) (endKT Tryz.prog Tryz.f4 0 fun r _ => .ofOpt (some r))).run =
    (bif G.5 k1 a1 b1 r1 k2 a2 b2 r2 == 0 then bif G.5 (G.K k1 a1 b1 r1 k2 a2 b2 r2) (G.N k1 a1 b1 r1 k2 a2 b2 r2) (G.D k1 a1 b1 r1 k2 a2 b2 r2) (G.R k1 a1 b1 r1 k2 a2 b2 r2) k3 a3 b3 r3 == 0 then bif G.5 k2 a2 b2 r2 k3 a3 b3 r3 == 0 then bif G.5 k1 a1 b1 r1 (G.K k2 a2 b2 r2 k3 a3 b3 r3) (G.N k2 a2 b2 r2 k3 a3 b3 r3) (G.D k2 a2 b2 r2 k3 a3 b3 r3) (G.R k2 a2 b2 r2 k3 a3 b3 r3) == 0 then bif G.1 (G.K k1 a1 b1 r1 k2 a2 b2 r2) (G.N k1 a1 b1 r1 k2 a2 b2 r2) (G.D k1 a1 b1 r1 k2 a2 b2 r2) (G.R k1 a1 b1 r1 k2 a2 b2 r2) k3 a3 b3 r3 then bif G.1 k1 a1 b1 r1 (G.K k2 a2 b2 r2 k3 a3 b3 r3) (G.N k2 a2 b2 r2 k3 a3 b3 r3) (G.D k2 a2 b2 r2 k3 a3 b3 r3) (G.R k2 a2 b2 r2 k3 a3 b3 r3) then bif !(G.2 (G.K k1 a1 b1 r1 k2 a2 b2 r2) (G.N k1 a1 b1 r1 k2 a2 b2 r2) (G.D k1 a1 b1 r1 k2 a2 b2 r2) (G.R k1 a1 b1 r1 k2 a2 b2 r2) k3 a3 b3 r3 == G.2 k1 a1 b1 r1 (G.K k2 a2 b2 r2 k3 a3 b3 r3) (G.N k2 a2 b2 r2 k3 a3 b3 r3) (G.D k2 a2 b2 r2 k3 a3 b3 r3) (G.R k2 a2 b2 r2 k3 a3 b3 r3) && (G.3 (G.K k1 a1 b1 r1 k2 a2 b2 r2) (G.N k1 a1 b1 r1 k2 a2 b2 r2) (G.D k1 a1 b1 r1 k2 a2 b2 r2) (G.R k1 a1 b1 r1 k2 a2 b2 r2) k3 a3 b3 r3 == G.3 k1 a1 b1 r1 (G.K k2 a2 b2 r2 k3 a3 b3 r3) (G.N k2 a2 b2 r2 k3 a3 b3 r3) (G.D k2 a2 b2 r2 k3 a3 b3 r3) (G.R k2 a2 b2 r2 k3 a3 b3 r3) && true)) then some (.ret (.bool false)) else some (.ret (.bool true)) else some (.ret (.bool false)) else bif G.1 k1 a1 b1 r1 (G.K k2 a2 b2 r2 k3 a3 b3 r3) (G.N k2 a2 b2 r2 k3 a3 b3 r3) (G.D k2 a2 b2 r2 k3 a3 b3 r3) (G.R k2 a2 b2 r2 k3 a3 b3 r3) then some (.ret (.bool false)) else bif !(G.2 (G.K k1 a1 b1 r1 k2 a2 b2 r2) (G.N k1 a1 b1 r1 k2 a2 b2 r2) (G.D k1 a1 b1 r1 k2 a2 b2 r2) (G.R k1 a1 b1 r1 k2 a2 b2 r2) k3 a3 b3 r3 == G.2 k1 a1 b1 r1 (G.K k2 a2 b2 r2 k3 a3 b3 r3) (G.N k2 a2 b2 r2 k3 a3 b3 r3) (G.D k2 a2 b2 r2 k3 a3 b3 r3) (G.R k2 a2 b2 r2 k3 a3 b3 r3) && (G.3 (G.K k1 a1 b1 r1 k2 a2 b2 r2) (G.N k1 a1 b1 r1 k2 a2 b2 r2) (G.D k1 a1 b1 r1 k2 a2 b2 r2) (G.R k1 a1 b1 r1 k2 a2 b2 r2) k3 a3 b3 r3 == G.3 k1 a1 b1 r1 (G.K k2 a2 b2 r2 k3 a3 b3 r3) (G.N k2 a2 b2 r2 k3 a3 b3 r3) (G.D k2 a2 b2 r2 k3 a3 b3 r3) (G.R k2 a2 b2 r2 k3 a3 b3 r3) && true)) then some (.ret (.bool false)) else some (.ret (.bool true)) else some (.ret (.bool true)) else some (.ret (.bool true)) else some (.ret (.bool true)) else some (.ret (.bool true)) : Option Res) := by kernel_rfl
end Go.Proofs.YtfepnmpoplcbmaaGreat.T
namespace Go.Proofs.YtfepnmpoplcbmaaGreat
open Go.Evl Go.RowKit
theorem mE_split {p q : F2} (h : mE p q = 0) : okB p.1 p.2 = true ∧ okB q.1 q.2 = true ∧ mkFits (p.1 * q.1) (p.2 * q.2) = true := by
  unfold mE at h
  have h2 := (opE_zero (k := okB p.1 p.2 && okB q.1 q.2) (n := p.1 * q.1) (m := p.2 * q.2)).symm.trans (beq_iff_eq.2 h)
  simp only [Bool.and_eq_true] at h2
  exact ⟨h2.1.1, h2.1.2, h2.2⟩
theorem mF_mk {p q : F2} (h : mE p q = 0) : mF p q = (mkN (p.1 * q.1) (p.2 * q.2), mkD (p.1 * q.1) (p.2 * q.2)) := by
  obtain ⟨h1, h2, h3⟩ := mE_split h
  unfold mF opF
  rw [h1, h2, Bool.and_self]
  obtain ⟨e1, e2, _⟩ := op_mk h3
  rw [e1, e2]
theorem mF_assoc {p q r : F2} (h1 : mE p q = 0) (h2 : mE (mF p q) r = 0) (h3 : mE q r = 0) (h4 : mE p (mF q r) = 0) : mF (mF p q) r = mF p (mF q r) := by
  have p2 := okB_pos (mE_split h1).1
  have q2 := okB_pos (mE_split h1).2.1
  have r2 := okB_pos (mE_split h3).2.1
  have hA : 0 < p.2 * q.2 := Int.mul_pos p2 q2
  have hB : 0 < q.2 * r.2 := Int.mul_pos q2 r2
  have vA := mk_val (n := p.1 * q.1) hA
  have vB := mk_val (n := q.1 * r.1) hB
  have dA := mkD_pos (n := p.1 * q.1) hA
  have dB := mkD_pos (n := q.1 * r.1) hB
  rw [mF_mk h2, mF_mk h4, mF_mk h1, mF_mk h3]
  dsimp only
  have key := mk_congr (n := mkN (p.1 * q.1) (p.2 * q.2) * r.1) (m := mkD (p.1 * q.1) (p.2 * q.2) * r.2) (p := p.1 * mkN (q.1 * r.1) (q.2 * r.2)) (q := p.2 * mkD (q.1 * r.1) (q.2 * r.2)) (Int.mul_pos dA r2) (Int.mul_pos p2 dB) (by
    generalize mkN (p.1 * q.1) (p.2 * q.2) = N at *
    generalize mkD (p.1 * q.1) (p.2 * q.2) = D at *
    generalize mkN (q.1 * r.1) (q.2 * r.2) = M at *
    generalize mkD (q.1 * r.1) (q.2 * r.2) = F at *
    refine Int.eq_of_mul_eq_mul_right (a := q.2) (by omega) ?_
    have a1 : N * r.1 * (p.2 * F) * q.2 = (N * (p.2 * q.2)) * r.1 * F := by grind
    have a2 : p.1 * M * (D * r.2) * q.2 = p.1 * D * (M * (q.2 * r.2)) := by grind
    rw [a1, a2, vA, vB]
    grind)
  rw [key.1, key.2]
theorem cbE_zero {k : Bool} {a b r : Int} {l : Bool} {c d s : Int} (h : cbE k a b r l c d s = 0) : cbV k a b r l c d s = true ∧ (k = true → l = true → mE (a, b) (c, d) = 0) := by
  unfold cbE at h
  cases hv : cbV k a b r l c d s with
  | false => rw [hv] at h; simp at h
  | true =>
    rw [hv] at h
    refine ⟨rfl, fun h1 h2 => ?_⟩
    rw [h1, h2] at h
    simpa using h
theorem cb_vals {k : Bool} {a b r : Int} {l : Bool} {c d s : Int} (h : cbE k a b r l c d s = 0) : cbK k a b r l c d s = (k && l) ∧ cbN k a b r l c d s = (if (k && l) = true then (mF (a, b) (c, d)).1 else 0) ∧ cbD k a b r l c d s = (if (k && l) = true then (mF (a, b) (c, d)).2 else 1) := by
  obtain ⟨h1, h2⟩ := cbE_zero h
  unfold cbK cbN cbD
  rw [h1]
  cases k with
  | false => simp
  | true =>
    cases l with
    | false => simp
    | true => simp [h2 rfl rfl]
theorem cb_assoc {k1 : Bool} {a1 b1 r1 : Int} {k2 : Bool} {a2 b2 r2 : Int} {k3 : Bool} {a3 b3 r3 : Int} (h1 : cbE k1 a1 b1 r1 k2 a2 b2 r2 = 0)
    (h2 : cbE (cbK k1 a1 b1 r1 k2 a2 b2 r2) (cbN k1 a1 b1 r1 k2 a2 b2 r2) (cbD k1 a1 b1 r1 k2 a2 b2 r2) (cbR k1 a1 b1 r1 k2 a2 b2 r2) k3 a3 b3 r3 = 0) (h3 : cbE k2 a2 b2 r2 k3 a3 b3 r3 = 0)
    (h4 : cbE k1 a1 b1 r1 (cbK k2 a2 b2 r2 k3 a3 b3 r3) (cbN k2 a2 b2 r2 k3 a3 b3 r3) (cbD k2 a2 b2 r2 k3 a3 b3 r3) (cbR k2 a2 b2 r2 k3 a3 b3 r3) = 0) :
    cbK (cbK k1 a1 b1 r1 k2 a2 b2 r2) (cbN k1 a1 b1 r1 k2 a2 b2 r2) (cbD k1 a1 b1 r1 k2 a2 b2 r2) (cbR k1 a1 b1 r1 k2 a2 b2 r2) k3 a3 b3 r3 = cbK k1 a1 b1 r1 (cbK k2 a2 b2 r2 k3 a3 b3 r3) (cbN k2 a2 b2 r2 k3 a3 b3 r3) (cbD k2 a2 b2 r2 k3 a3 b3 r3) (cbR k2 a2 b2 r2 k3 a3 b3 r3) ∧
    cbN (cbK k1 a1 b1 r1 k2 a2 b2 r2) (cbN k1 a1 b1 r1 k2 a2 b2 r2) (cbD k1 a1 b1 r1 k2 a2 b2 r2) (cbR k1 a1 b1 r1 k2 a2 b2 r2) k3 a3 b3 r3 = cbN k1 a1 b1 r1 (cbK k2 a2 b2 r2 k3 a3 b3 r3) (cbN k2 a2 b2 r2 k3 a3 b3 r3) (cbD k2 a2 b2 r2 k3 a3 b3 r3) (cbR k2 a2 b2 r2 k3 a3 b3 r3) ∧
    cbD (cbK k1 a1 b1 r1 k2 a2 b2 r2) (cbN k1 a1 b1 r1 k2 a2 b2 r2) (cbD k1 a1 b1 r1 k2 a2 b2 r2) (cbR k1 a1 b1 r1 k2 a2 b2 r2) k3 a3 b3 r3 = cbD k1 a1 b1 r1 (cbK k2 a2 b2 r2 k3 a3 b3 r3) (cbN k2 a2 b2 r2 k3 a3 b3 r3) (cbD k2 a2 b2 r2 k3 a3 b3 r3) (cbR k2 a2 b2 r2 k3 a3 b3 r3) := by
  obtain ⟨v1, v2, v3⟩ := cb_vals h1
  obtain ⟨w1, w2, w3⟩ := cb_vals h3
  obtain ⟨x1, x2, x3⟩ := cb_vals h2
  obtain ⟨y1, y2, y3⟩ := cb_vals h4
  have m1 := (cbE_zero h1).2
  have m2 := (cbE_zero h2).2
  have m3 := (cbE_zero h3).2
  have m4 := (cbE_zero h4).2
  rw [x1, x2, x3, y1, y2, y3]
  rw [v1, v2, v3] at m2 ⊢
  rw [w1, w2, w3] at m4 ⊢
  clear h1 h2 h3 h4 x1 x2 x3 y1 y2 y3 v1 v2 v3 w1 w2 w3
  cases k1 with
  | false => simp
  | true =>
    cases k2 with
    | false => simp
    | true =>
      cases k3 with
      | false => simp
      | true =>
        have e1 := m1 rfl rfl
        have e3 := m3 rfl rfl
        simp only [Bool.and_self, if_true] at m2 m4 ⊢
        have e2 := m2 trivial trivial
        have e4 := m4 trivial trivial
        have := mF_assoc e1 e2 e3 e4
        refine ⟨trivial, ?_, ?_⟩
        · exact congrArg Prod.fst this
        · exact congrArg Prod.snd this
theorem mkX_pos {c d : Int} (hc : 1 ≤ c) (hd : 1 ≤ d) (h1 : c ≤ 1152921504606846976) (h2 : d ≤ 1152921504606846976) : 1 ≤ mkX d c := by
  unfold mkX
  rw [if_pos (mkE_part hc hd h1 h2)]
  have e1 := mkN_mul (n := d) (m := c) (by omega)
  have e2 := mkG_pos2 (n := d) (m := c) (by omega)
  rcases Int.lt_or_le 0 (mkN d c) with h | h
  · omega
  · have := Int.mul_nonpos_of_nonpos_of_nonneg h (show 0 ≤ mkG d c by omega)
    omega
end Go.Proofs.YtfepnmpoplcbmaaGreat
namespace Go.Proofs.YtfepnmpoplcbmaaGreat.T
open Go.Evl Go.RowKit
theorem er_perm {n : Nat} {x : Nat → Nat → Dt} (hn : n ≤ 12) (h : bdE n x = 0) : erAB (bdN n x) (bdS n x) = erAB n x := by
  obtain ⟨e1, e2⟩ := trW_of hn h
  unfold erAB
  refine clB_congr ?_
  rw [e1]
  have hc : ∀ k, k < n → ((bdS n x) k 7).n = (soF n x (kE n (soF n x) k) 7).n := fun k hk => by
    have e : vE (bdS n x) k = vE (soF n x) (kE n (soF n x) k) := by unfold vE; rw [e2.sp k hk, vE_nmT]
    exact (vE_cell e).2.2.2.2.2.2.2.1
  constructor
  · rintro ⟨k, hk, h1⟩
    rw [hc k hk] at h1
    obtain ⟨j, hj, ej⟩ := row_of (soF_ok n x).2 (kE_lt hn (y := soF n x) hk)
    exact ⟨j, hj, by rw [← (vE_cell ej).2.2.2.2.2.2.2.1]; exact h1⟩
  · rintro ⟨j, hj, h1⟩
    obtain ⟨i, hi, ei⟩ := row_of (soF_ok n x).2.symm hj
    obtain ⟨k, hk, ek⟩ := kE_sur hn (soF n x) hi
    exact ⟨k, hk, by rw [hc k hk, ek, ← (vE_cell ei).2.2.2.2.2.2.2.1]; exact h1⟩
theorem tl_valid {s p w ti : Int} {n : Nat} {x : Nat → Nat → Dt} {m : Nat} {q : Nat → Nat → Dt} {co : Int} (h : tlE s p w ti n x m q co = 0) : poB s p w = true ∧ 0 ≤ co ∧ co < w := by
  unfold tlE at h
  cases hp : poB s p w with
  | false => rw [hp, if_neg Bool.false_ne_true] at h; cases h
  | true =>
    rw [hp, if_pos rfl] at h
    by_cases hc : co < 0 ∨ w ≤ co
    · rw [if_pos hc] at h; cases h
    · exact ⟨rfl, by omega, by omega⟩
theorem tl_keeps {e : Bool} {s p w ti : Int} {n : Nat} {x : Nat → Nat → Dt} {co : Int} (hp : poB s p w = true) (h0 : 0 ≤ co) (h1 : co < w) :
    ((e && erAB n x || (decide (s > 0) && decide (duI n x ≥ s))) = true → taKB e s p w ti n x co = true ∧ taN e s p w ti n x co = 1 ∧ taD e s p w ti n x co = 1) ∧
    (taKB e s p w ti n x co = true → taN e s p w ti n x co ≠ 0) ∧ (taKB e s p w ti n x co = false → taN e s p w ti n x co = 0 ∧ taD e s p w ti n x co = 1) := by
  unfold poB at hp
  rw [Bool.and_eq_true] at hp
  have hs := wiB_iff.1 hp.1
  obtain ⟨c1, c2, c3⟩ := cpB_iff.1 hp.2
  by_cases g1 : e = true ∧ erAB n x = true
  · obtain ⟨_, h2, h3, h4⟩ := ta_err (s := s) g1 p w ti co
    rw [h2, h3, h4]
    exact ⟨fun _ => ⟨rfl, rfl, rfl⟩, fun _ => by omega, fun h => by cases h⟩
  · by_cases g2 : s ≠ 0 ∧ s ≤ duI n x
    · obtain ⟨_, h2, h3, h4⟩ := ta_slow g1 g2 p w ti co
      rw [h2, h3, h4]
      exact ⟨fun _ => ⟨rfl, rfl, rfl⟩, fun _ => by omega, fun h => by cases h⟩
    · obtain ⟨_, h2, h3, h4⟩ := ta_rest g1 g2 p w ti co
      rw [h2, h3, h4]
      refine ⟨fun h => ?_, fun h => ?_, fun h => ?_⟩
      · exfalso
        rw [Bool.or_eq_true, Bool.and_eq_true, Bool.and_eq_true, decide_eq_true_eq, decide_eq_true_eq] at h
        rcases h with h | h
        · exact g1 h
        · exact g2 ⟨by omega, h.2⟩
      · unfold byN
        rw [if_pos h]
        have hk : (ti + co) % w < p := of_decide_eq_true h
        have := Int.emod_nonneg (ti + co) (show w ≠ 0 by omega)
        have := mkX_pos (c := p) (d := w) (by omega) (by omega) (by omega) (by omega)
        omega
      · unfold byN byD
        rw [h, if_neg Bool.false_ne_true, if_neg Bool.false_ne_true]
        exact ⟨rfl, rfl⟩
theorem p4B_ok (G : CbG) {e : Bool} {s p w : Int} {n : Nat} {x : Nat → Nat → Dt} {k1 : Bool} {a1 b1 r1 : Int} {k2 : Bool} {a2 b2 r2 : Int} {k3 : Bool} {a3 b3 r3 : Int} {ti : Int} {m : Nat} {y : Nat → Nat → Dt} {q : Nat} {z : Nat → Nat → Dt} {k4 : Bool} {a4 b4 r4 e1 e2 : Int}
    (hn : n ≤ 1000000) (hm : m ≤ 1000000) (h : e1 = 0 → e2 = 0 → ((e && erAB n x || (decide (s > 0) && decide (duI m y ≥ s))) = true → k4 = true ∧ a4 = 1 ∧ b4 = 1) ∧ (k4 = true → a4 ≠ 0) ∧ (k4 = false → a4 = 0 ∧ b4 = 1)) :
    (evPart Tryz.prog (spOf [t16, iAw, t17, tq10, tq13b, tq15, i13, i19g G]) (inlOf []) extD (cKD [t16, iAw, t17, tq10, tq13b, tq15, i13, i19g G] []) lp4 1 (dropSeq 4 (codeOf Tryz.prog 4)) kp4b ⟨mkF 141 kp4a (vs4a n x e1 e2), hp4 e s p w k1 a1 b1 r1 k2 a2 b2 r2 k3 a3 b3 r3 ti m y q z k4 a4 b4 r4⟩).run =
    ld4 .normal (hp4 e s p w k1 a1 b1 r1 k2 a2 b2 r2 k3 a3 b3 r3 ti m y q z k4 a4 b4 r4) := by
  rw [p4B]
  generalize hH : hp4 e s p w k1 a1 b1 r1 k2 a2 b2 r2 k3 a3 b3 r3 ti m y q z k4 a4 b4 r4 = HH
  by_cases g1 : e1 = 0
  · by_cases g2 : e2 = 0
    · obtain ⟨h1, h2, h3⟩ := h g1 g2
      rw [condT (beq_iff_eq.2 g1), condT (beq_iff_eq.2 g2), Nat.ble_eq_true_of_le hn, Nat.ble_eq_true_of_le hm]
      have p1 : k4 = true → (a4 == 0 && (b4 == 1 && true)) = false := fun hk => by
        rw [beq_eq_false_iff_ne.2 (h2 hk)]; rfl
      have p0 : k4 = false → (a4 == 0 && (b4 == 1 && true)) = true := fun hk => by
        obtain ⟨u1, u2⟩ := h3 hk
        rw [u1, u2]; rfl
      have pw : (e && erAB n x || (decide (s > 0) && decide (duI m y ≥ s))) = true → k4 = true ∧ (a4 == 1 && (b4 == 1 && true)) = true := fun hw => by
        obtain ⟨u1, u2, u3⟩ := h1 hw
        rw [u1, u2, u3]; exact ⟨rfl, rfl⟩
      clear h h1 h2 h3 hH
      generalize erAB n x = A at *
      generalize decide (s > 0) = S at *
      generalize decide (duI m y ≥ s) = Dd at *
      generalize (a4 == 1 && (b4 == 1 && true)) = P1 at *
      generalize (a4 == 0 && (b4 == 1 && true)) = P0 at *
      cases e <;> cases A <;> cases S <;> cases Dd <;> cases k4 <;> cases P1 <;> cases P0 <;> first | rfl | (exfalso; simp at p1 p0 pw; done)
    · rw [condT (beq_iff_eq.2 g1), condF (beq_eq_false_iff_ne.2 g2)]
  · rw [condF (beq_eq_false_iff_ne.2 g1)]
theorem p4C_ok {e : Bool} {s p w : Int} {k1 : Bool} {a1 b1 r1 : Int} {k2 : Bool} {a2 b2 r2 : Int} {k3 : Bool} {a3 b3 r3 : Int} {ti : Int} {m : Nat} {y : Nat → Nat → Dt} {q : Nat} {z : Nat → Nat → Dt} {k4 : Bool} {a4 b4 r4 : Int} :
    (evRest Tryz.prog (spOf [t16, iAw, t17, tq10, tq13b, tq15, i13, i19g gCb]) (inlOf []) extD (cKD [t16, iAw, t17, tq10, tq13b, tq15, i13, i19g gCb] []) lp4 (dropSeq 5 (codeOf Tryz.prog 4)) 141 kp4b vs4b (hp4 e s p w k1 a1 b1 r1 k2 a2 b2 r2 k3 a3 b3 r3 ti m y q z k4 a4 b4 r4) (endKT Tryz.prog Tryz.f4 0 fun r _ => .ofOpt (some r))).run = some (.ret (.bool true)) := by
  rw [p4C]
  simp only [gCb]
  by_cases h1 : cbE k1 a1 b1 r1 k2 a2 b2 r2 = 0
  · rw [condT (beq_iff_eq.2 h1)]
    by_cases h2 : cbE (cbK k1 a1 b1 r1 k2 a2 b2 r2) (cbN k1 a1 b1 r1 k2 a2 b2 r2) (cbD k1 a1 b1 r1 k2 a2 b2 r2) (cbR k1 a1 b1 r1 k2 a2 b2 r2) k3 a3 b3 r3 = 0
    · rw [condT (beq_iff_eq.2 h2)]
      by_cases h3 : cbE k2 a2 b2 r2 k3 a3 b3 r3 = 0
      · rw [condT (beq_iff_eq.2 h3)]
        by_cases h4 : cbE k1 a1 b1 r1 (cbK k2 a2 b2 r2 k3 a3 b3 r3) (cbN k2 a2 b2 r2 k3 a3 b3 r3) (cbD k2 a2 b2 r2 k3 a3 b3 r3) (cbR k2 a2 b2 r2 k3 a3 b3 r3) = 0
        · rw [condT (beq_iff_eq.2 h4)]
          obtain ⟨u1, u2, u3⟩ := cb_assoc h1 h2 h3 h4
          rw [u1, u2, u3]
          simp only [beq_self_eq_true, Bool.and_self, Bool.not_true, cond_false]
          cases cbK k1 a1 b1 r1 (cbK k2 a2 b2 r2 k3 a3 b3 r3) (cbN k2 a2 b2 r2 k3 a3 b3 r3) (cbD k2 a2 b2 r2 k3 a3 b3 r3) (cbR k2 a2 b2 r2 k3 a3 b3 r3) <;> rfl
        · rw [condF (beq_eq_false_iff_ne.2 h4)]
      · rw [condF (beq_eq_false_iff_ne.2 h3)]
    · rw [condF (beq_eq_false_iff_ne.2 h2)]
  · rw [condF (beq_eq_false_iff_ne.2 h1)]
open Go.Evl Go.RowKit
noncomputable abbrev le4 : List Ent := [t16, iAw, t17, tq10, tq13b, tq15, i13, i19g gCb]
theorem lx4 : (mkCx Tryz.prog (spOf le4) (inlOf []) extD).Ok InvD := cx_of [] (by kernel_rfl) (by
  intro p hp
  simp only [List.mem_cons, List.not_mem_nil, or_false] at hp
  rcases hp with rfl | rfl | rfl | rfl | rfl | rfl | rfl | rfl
  · exact t16_ok
  · exact iAw_ok
  · exact t17_ok
  · exact tq10_ok
  · exact tq13b_ok
  · exact tq15_ok
  · exact i13_ok
  · exact i19g_ok)
section
variable (e : Bool) (s p w : Int) (n : Nat) (x : Nat → Nat → Dt) (co : Int) (k1 : Bool) (a1 b1 r1 : Int) (k2 : Bool) (a2 b2 r2 : Int) (k3 : Bool) (a3 b3 r3 : Int)
abbrev ar4 : List AV := [.agg [.bool e, .int .i64 s, .int .i64 p, .int .i64 w], .isz n SS x, .int .i64 co, D4 k1 a1 b1 r1, D4 k2 a2 b2 r2, D4 k3 a3 b3 r3]
theorem g4 : (evFnT Tryz.prog (spOf le4) (inlOf []) extD (cKD le4 []) lp4 Tryz.f4 (ar4 e s p w n x co k1 a1 b1 r1 k2 a2 b2 r2 k3 a3 b3 r3) [] (fun r _ => .ofOpt (some r))).path [false, true, true, true, true, true, true] = bif n.ble 9223372036854775807 && lnB n x then bif glB n x then some (.ret (.bool true)) else none else none := by kernel_rfl
set_option maxRecDepth 20000 in
theorem run4 (hok : okL n x = true) : evFn Tryz.prog (spOf le4) (inlOf []) extD (cKD le4 []) lp4 Tryz.f4 (ar4 e s p w n x co k1 a1 b1 r1 k2 a2 b2 r2 k3 a3 b3 r3) [] (fun r _ => some r) = some (.ret (.bool true)) := by
  have hg' := hok
  unfold okL at hg'
  simp only [Bool.and_eq_true] at hg'
  have hc1 : (n.ble 9223372036854775807 && lnB n x) = true := by rw [hg'.1, hg'.2.1]; rfl
  cases hb : glB n x with
  | true =>
    refine Tr.path_run _ [false, true, true, true, true, true, true] ?_
    rw [g4, condT hc1, condT hb]
  | false =>
    have h12 := (gl_sm hb).1
    have hsm : smGB n x = true := smGB_iff.2 (okL_ck hok hb).2
    obtain ⟨b12, bsm⟩ := bd_sm h12 hsm
    have hcf : ∀ {β : Type}, CallEq (β := β) (cKD le4 []) (callN (mkCx Tryz.prog (spOf le4) (inlOf []) extD) attD uD 20) := fun {β} => callK_eq (β := β) Tryz.prog (spOf le4) (inlOf []) extD attD uD 20
    have e0 : evFn Tryz.prog (spOf le4) (inlOf []) extD (cKD le4 []) lp4 Tryz.f4 (ar4 e s p w n x co k1 a1 b1 r1 k2 a2 b2 r2 k3 a3 b3 r3) [] (fun r _ => some r) =
      (evCT Tryz.prog (spOf le4) (inlOf []) extD (cKD le4 []) lp4 (codeOf Tryz.prog 4) ⟨frame0 Tryz.f4 (ar4 e s p w n x co k1 a1 b1 r1 k2 a2 b2 r2 k3 a3 b3 r3), []⟩ (endKT Tryz.prog Tryz.f4 0 fun r _ => .ofOpt (some r))).run :=
      evFn_body _ _ _ _ _ (c := codeOf Tryz.prog 4) (by kernel_rfl) _ _ (fun r _ => some r)
    have pA := p4A gCb e s p w n x co k1 a1 b1 r1 k2 a2 b2 r2 k3 a3 b3 r3
    rw [condT hc1, condF hb, condT (bd_guard h12), condT (show ((bdN n x).ble 12 && smGB (bdN n x) (bdS n x)) = true by rw [Nat.ble_eq_true_of_le b12, bsm]; rfl)] at pA
    have hl1 : (St.mk (frame0 Tryz.f4 (ar4 e s p w n x co k1 a1 b1 r1 k2 a2 b2 r2 k3 a3 b3 r3)) []).tm.length = 141 := by kernel_rfl
    have c1 := ev_cut (β := Res) Tryz.prog (spOf le4) (inlOf []) extD (cKD le4 []) hcf (lp := lp4) (n := 4) (c := codeOf Tryz.prog 4) (id := 5) (keep := kp4a) (by kernel_rfl) (by kernel_rfl) rfl (by decide)
      (st := ⟨frame0 Tryz.f4 (ar4 e s p w n x co k1 a1 b1 r1 k2 a2 b2 r2 k3 a3 b3 r3), []⟩) (by rw [hl1]; decide) pA (endKT Tryz.prog Tryz.f4 0 fun r _ => .ofOpt (some r))
    rw [hl1] at c1
    have pB := p4B_ok gCb (e := e) (s := s) (p := p) (w := w) (n := n) (x := x) (k1 := k1) (a1 := a1) (b1 := b1) (r1 := r1) (k2 := k2) (a2 := a2) (b2 := b2) (r2 := r2) (k3 := k3) (a3 := a3) (b3 := b3) (r3 := r3) (ti := bdI n x) (m := bdN n x) (y := bdS n x) (q := bdN n x) (z := bdP n x)
      (k4 := tlKB e s p w (bdI n x) (bdN n x) (bdS n x) (bdN n x) (bdP n x) co) (a4 := tlN e s p w (bdI n x) (bdN n x) (bdS n x) (bdN n x) (bdP n x) co) (b4 := tlD e s p w (bdI n x) (bdN n x) (bdS n x) (bdN n x) (bdP n x) co) (r4 := tlR e s p w (bdI n x) (bdN n x) (bdS n x) (bdN n x) (bdP n x) co)
      (e1 := bdE n x) (e2 := tlE s p w (bdI n x) (bdN n x) (bdS n x) (bdN n x) (bdP n x) co) (show n ≤ 1000000 by omega) (show bdN n x ≤ 1000000 by omega) (fun q1 q2 => by
        obtain ⟨v1, v2, v3, _⟩ := tl_good q2 e
        obtain ⟨hp, h0, h1⟩ := tl_valid q2
        rw [v1, v2, v3, ← er_perm h12 q1]
        exact tl_keeps hp h0 h1)
    have hl2 : ∀ vs H, (St.mk (mkF 141 kp4a vs) H).tm.length = 141 := fun vs H => mkF_length ..
    have c2 := ev_cut (β := Res) Tryz.prog (spOf le4) (inlOf []) extD (cKD le4 []) hcf (lp := lp4) (n := 1) (c := dropSeq 4 (codeOf Tryz.prog 4)) (id := 10) (keep := kp4b) (by kernel_rfl) (by kernel_rfl) rfl (by decide)
      (by rw [hl2]; decide) pB (endKT Tryz.prog Tryz.f4 0 fun r _ => .ofOpt (some r))
    rw [hl2] at c2
    rw [e0, c1]
    refine c2.trans ?_
    exact p4C_ok
end
def l4 : Ent := ⟨4, fun
  | [.agg [.bool _, .int .i64 _, .int .i64 _, .int .i64 _], .isz n [.int .i64, .int .i64, .int .i64, .str, .str, .int .i64, .int .i64, .int .i64, .row [.str, .str], .row [.int .i64, .int .i64]] x, .int .i64 _, .agg [.bool _, .int .i64 _, .int .i64 _, .int .i64 _], .agg [.bool _, .int .i64 _, .int .i64 _, .int .i64 _], .agg [.bool _, .int .i64 _, .int .i64 _, .int .i64 _]] => .chk (okL n x) (.leaf (.ret (.bool true)))
  | _ => .non⟩
set_option maxRecDepth 20000 in
theorem l4_ok : SpecHolds Tryz.prog InvD 4 fun a => (l4.2 a).run := by
  refine specD lx4 Tryz.func4 (c := codeOf Tryz.prog 4) (by kernel_rfl) lp4 (fun p hp => by
    have hl : loops (codeOf Tryz.prog 4) = [] := by kernel_rfl
    rw [hl] at hp; cases hp) fun args r hh => ?_
  unfold l4 at hh
  simp only at hh
  split at hh
  · obtain ⟨hg, hh⟩ := chk_run hh
    simp only [Tr.run, Option.some.injEq] at hh
    subst hh
    exact ⟨by kernel_rfl, rfl, run4 _ _ _ _ _ _ _ _ _ _ _ _ _ _ _ _ _ _ _ hg⟩
  · simp [Tr.run] at hh
end Go.Proofs.YtfepnmpoplcbmaaGreat.T
namespace Go.Evl
open Go.ChangeShapes
section
variable {H : Type} {enc : TypeId × Value → H} {P : Program} {w : World} {base : Nat} {spare : Nat → Bool} {held : Bool}
theorem trod_mk4 {t0 t1 t2 t3 : TypeId} {v0 v1 v2 v3 : Value} {d0 d1 d2 d3 : DataW H} {p0 p1 p2 p3 : List MemPlace} (h0 : DataW.Trod enc P w base spare held t0 v0 d0 p0) (h1 : DataW.Trod enc P w base spare held t1 v1 d1 p1) (h2 : DataW.Trod enc P w base spare held t2 v2 d2 p2) (h3 : DataW.Trod enc P w base spare held t3 v3 d3 p3) : DataW.TrodAll enc P w base spare held [t0, t1, t2, t3] [v0, v1, v2, v3] [d0, d1, d2, d3] (p0 ++ (p1 ++ (p2 ++ p3))) :=
  ⟨p0, p1 ++ (p2 ++ p3), h0, trodAll_mk3 h1 h2 h3, rfl⟩
theorem trod_mk5 {t0 t1 t2 t3 t4 : TypeId} {v0 v1 v2 v3 v4 : Value} {d0 d1 d2 d3 d4 : DataW H} {p0 p1 p2 p3 p4 : List MemPlace} (h0 : DataW.Trod enc P w base spare held t0 v0 d0 p0) (h1 : DataW.Trod enc P w base spare held t1 v1 d1 p1) (h2 : DataW.Trod enc P w base spare held t2 v2 d2 p2) (h3 : DataW.Trod enc P w base spare held t3 v3 d3 p3) (h4 : DataW.Trod enc P w base spare held t4 v4 d4 p4) : DataW.TrodAll enc P w base spare held [t0, t1, t2, t3, t4] [v0, v1, v2, v3, v4] [d0, d1, d2, d3, d4] (p0 ++ (p1 ++ (p2 ++ (p3 ++ p4)))) :=
  ⟨p0, p1 ++ (p2 ++ (p3 ++ p4)), h0, trod_mk4 h1 h2 h3 h4, rfl⟩
theorem trod_open6 {t0 t1 t2 t3 t4 t5 : TypeId} {args : Array Value} {ds : List (DataW H)} {ps : List MemPlace} (h : DataW.TrodAll enc P w base spare held [t0, t1, t2, t3, t4, t5] args.toList ds ps) :
    ∃ v0 v1 v2 v3 v4 v5 d0 d1 d2 d3 d4 d5 p0 p1 p2 p3 p4 p5, args = #[v0, v1, v2, v3, v4, v5] ∧ ds = [d0, d1, d2, d3, d4, d5] ∧ ps = p0 ++ (p1 ++ (p2 ++ (p3 ++ (p4 ++ p5)))) ∧ DataW.Trod enc P w base spare held t0 v0 d0 p0 ∧ DataW.Trod enc P w base spare held t1 v1 d1 p1 ∧ DataW.Trod enc P w base spare held t2 v2 d2 p2 ∧ DataW.Trod enc P w base spare held t3 v3 d3 p3 ∧ DataW.Trod enc P w base spare held t4 v4 d4 p4 ∧ DataW.Trod enc P w base spare held t5 v5 d5 p5 := by
  obtain ⟨v0, w0, d0, e0, p0, q0, ha, rfl, rfl, k0, r0⟩ := trodAll_cons h
  obtain ⟨v1, w1, d1, e1, p1, q1, rfl, rfl, rfl, k1, r1⟩ := trodAll_cons r0
  obtain ⟨v2, w2, d2, e2, p2, q2, rfl, rfl, rfl, k2, r2⟩ := trodAll_cons r1
  obtain ⟨v3, w3, d3, e3, p3, q3, rfl, rfl, rfl, k3, r3⟩ := trodAll_cons r2
  obtain ⟨v4, w4, d4, e4, p4, q4, rfl, rfl, rfl, k4, r4⟩ := trodAll_cons r3
  obtain ⟨v5, w5, d5, e5, p5, q5, rfl, rfl, rfl, k5, r5⟩ := trodAll_cons r4
  obtain ⟨rfl, rfl, rfl⟩ := trodAll_nil r5
  exact ⟨v0, v1, v2, v3, v4, v5, d0, d1, d2, d3, d4, d5, p0, p1, p2, p3, p4, p5, by cases args; simp_all, rfl, by simp, k0, k1, k2, k3, k4, k5⟩
theorem trod_mk6 {t0 t1 t2 t3 t4 t5 : TypeId} {v0 v1 v2 v3 v4 v5 : Value} {d0 d1 d2 d3 d4 d5 : DataW H} {p0 p1 p2 p3 p4 p5 : List MemPlace} (h0 : DataW.Trod enc P w base spare held t0 v0 d0 p0) (h1 : DataW.Trod enc P w base spare held t1 v1 d1 p1) (h2 : DataW.Trod enc P w base spare held t2 v2 d2 p2) (h3 : DataW.Trod enc P w base spare held t3 v3 d3 p3) (h4 : DataW.Trod enc P w base spare held t4 v4 d4 p4) (h5 : DataW.Trod enc P w base spare held t5 v5 d5 p5) : DataW.TrodAll enc P w base spare held [t0, t1, t2, t3, t4, t5] [v0, v1, v2, v3, v4, v5] [d0, d1, d2, d3, d4, d5] (p0 ++ (p1 ++ (p2 ++ (p3 ++ (p4 ++ p5))))) :=
  ⟨p0, p1 ++ (p2 ++ (p3 ++ (p4 ++ p5))), h0, trod_mk5 h1 h2 h3 h4 h5, rfl⟩
end
end Go.Evl
namespace Go.Proofs.YtfepnmpoplcbmaaGreat
open Go.ChangeShapes Go.WideShapes Go.ChangeAt Go.RowKit Go.Joins Go.Evl
theorem own : ownKnob Tryz.prog.godebug = none := by kernel_rfl
theorem laidOut : laidOutB Tryz.prog = true := by kernel_rfl
section
variable {H : Type} {enc : TypeId × Value → H} {w : World} {base b0 : Nat} {spare : Nat → Bool} {held : Bool} {rc : Reach} {v : Value} {d : DataW H} {p : List MemPlace}
set_option maxRecDepth 100000 in
theorem pol_form (hv : Value.okWide Tryz.prog w rc b0 23 v) (h : DataW.Trod enc Tryz.prog w base spare held 23 v d p) : ∃ (a0 : Bool) (a1 : Int) (a2 : Int) (a3 : Int), Rv (Nm.one 0 0) (fun b => b < w.heap.size) w None_ (.agg [.bool a0, .int .i64 a1, .int .i64 a2, .int .i64 a3]) v := by
  obtain ⟨ds, hl, hr, _⟩ := arg_struct (ρ := Nm.one 0 0) (d := 8) (sh := [.bool, .int .i64, .int .i64, .int .i64]) Tryz.underlying23 (by kernel_rfl) (by kernel_rfl) hv h
  match ds, hl with
  | [x0, x1, x2, x3], _ => exact ⟨x0.b, x1.n, x2.n, x3.n, hr⟩
set_option maxRecDepth 100000 in
theorem dec_form (hv : Value.okWide Tryz.prog w rc b0 33 v) (h : DataW.Trod enc Tryz.prog w base spare held 33 v d p) : ∃ (a0 : Bool) (a1 : Int) (a2 : Int) (a3 : Int), Rv (Nm.one 0 0) (fun b => b < w.heap.size) w None_ (.agg [.bool a0, .int .i64 a1, .int .i64 a2, .int .i64 a3]) v := by
  obtain ⟨ds, hl, hr, _⟩ := arg_struct (ρ := Nm.one 0 0) (d := 8) (sh := [.bool, .int .i64, .int .i64, .int .i64]) Tryz.underlying33 (by kernel_rfl) (by kernel_rfl) hv h
  match ds, hl with
  | [x0, x1, x2, x3], _ => exact ⟨x0.b, x1.n, x2.n, x3.n, hr⟩
set_option maxRecDepth 100000 in
theorem int_form (hv : Value.okWide Tryz.prog w rc b0 3 v) (h : DataW.Trod enc Tryz.prog w base spare held 3 v d p) : ∃ a : Int, Rv (Nm.one 0 0) (fun b => b < w.heap.size) w None_ (.int .i64 a) v ∧ (-9223372036854775808 ≤ a ∧ a < 9223372036854775808) := by
  obtain ⟨a, rfl, _, _, wa⟩ := open_int Tryz.underlying3 hv h
  refine ⟨a, .int, ?_⟩
  simp only [Lit.wf, Bool.and_eq_true, decide_eq_true_eq] at wa
  have e1 : IntKind.i64.min = -9223372036854775808 := rfl
  have e2 : IntKind.i64.max = 9223372036854775807 := rfl
  omega
set_option maxRecDepth 100000 in
theorem spans_ok {y : Dt} (hok : ∀ q, dtOk q (.row T.SS) y) : T.okL y.len y.el = true := by
  have h1 : y.len ≤ maxLen ∧ ∀ i, i < y.len → ∀ j s, T.SS[j]? = some s → dtOk 2 s (y.el i j) := hok 3
  have wf : ∀ {n : Int}, (Lit.int .i64 n).wf = true → T.inI n = true := fun {n} h => by
    simp only [Lit.wf, Bool.and_eq_true, decide_eq_true_eq] at h
    have e1 : IntKind.i64.min = -9223372036854775808 := rfl
    have e2 : IntKind.i64.max = 9223372036854775807 := rfl
    exact T.inI_iff.2 (by omega)
  unfold T.okL T.lnB
  rw [Nat.ble_eq_true_of_le (show y.len ≤ 9223372036854775807 from h1.1), Bool.true_and, Bool.and_eq_true]
  refine ⟨List.all_eq_true.2 fun k hk => ?_, List.all_eq_true.2 fun k hk => ?_⟩
  · have h8 : dtOk 2 (.row T.SL) (y.el k 8) := h1.2 k (List.mem_range.1 hk) 8 _ rfl
    exact Nat.ble_eq_true_of_le h8.1
  · rw [Bool.and_eq_true]
    have h0 : dtOk 2 (.int .i64) (y.el k 0) := h1.2 k (List.mem_range.1 hk) 0 _ rfl
    have h9 : dtOk 2 (.row T.SK) (y.el k 9) := h1.2 k (List.mem_range.1 hk) 9 _ rfl
    exact ⟨wf h0, List.all_eq_true.2 fun i hi => wf (h9.2 i (List.mem_range.1 hi) 0 _ rfl)⟩
set_option maxRecDepth 100000 in
theorem spans_form (hv : Value.okWide Tryz.prog w rc b0 24 v) (h : DataW.Trod enc Tryz.prog w base spare held 24 v d p) : ∃ (n : Nat) (x : Nat → Nat → Dt), Rv (Nm.one 0 0) (fun b => b < w.heap.size) w None_ (.isz n T.SS x) v ∧ T.okL n x = true := by
  obtain ⟨y, hr, hok⟩ := arg_row (ρ := Nm.one 0 0) (d := 8) (s := T.SS) (show Tryz.prog.underlying 24 = some (.slice 44) by kernel_rfl) (by kernel_rfl) (by kernel_rfl) hv h
  exact ⟨y.len, y.el, hr, spans_ok hok⟩
theorem below_trod {W W' : World} {t : TypeId} {v : Value} {d : DataW H} {ps : List MemPlace} (hr : Tryz.prog.readableRec t = true) (hrow : t < Tryz.prog.types.size) (h : DataW.Trod enc Tryz.prog W 0 (fun _ => true) true t v d ps) (hb : Below W.heap.size W W') (hlt : ∀ x ∈ ps, x.block < W.heap.size) :
    DataW.Trod enc Tryz.prog W' 0 (fun b => decide (b < W.heap.size)) true t v d ps := Below.trod laidOut hr hrow h hb hlt
end
open Go.ChangeShapes Go.WideShapes Go.ChangeAt Go.RowKit Go.Joins Go.Evl
set_option maxRecDepth 100000 in
theorem samplingExceptions_lifted (os : Os) (started : os.Started) (H : Type) (enc : TypeId × Value → H) :
    ReturnsInHanded {} Tryz.checked os 4 .any (Rows.samplingExceptionsSpec.pre6 enc Tryz.prog Tryz.f4 Rows.samplingExceptionsRow.domain false) (Rows.samplingExceptionsSpec.post enc Tryz.prog Tryz.f4 false true false false) := by
  refine returnsInHanded_of_change (C := Tryz.checked) own started (by kernel_rfl) Tryz.func4
    (ChangeSpec.witness6 (enc := enc) (C := Tryz.checked) false ⟨#[], #[.agg #[.bool false, .int .i64 0, .int .i64 0, .int .i64 0], .slice none 0 0, .int .i64 0, .agg #[.bool false, .int .i64 0, .int .i64 0, .int .i64 0], .agg #[.bool false, .int .i64 0, .int .i64 0, .int .i64 0], .agg #[.bool false, .int .i64 0, .int .i64 0, .int .i64 0]], []⟩ 8 (by kernel_rfl) (by kernel_rfl) (by kernel_rfl) (by kernel_rfl)) ?_
  intro W base args ds gs before hval0 hW _ _
  have hval : ∀ (j : Nat) t v, Tryz.f4.params[j]? = some t → args[j]? = some v → Value.okWide Tryz.prog W .any base t v := hval0
  have hW' := hW
  obtain ⟨p, q, hA0, hV, rfl, hfz, hnd⟩ := hW
  have hA : DataW.TrodAll enc Tryz.prog W 0 (fun _ => true) true Tryz.f4.params.toList args.toList ds p := hA0
  rw [Tryz.params4] at hA hval
  obtain ⟨v0, v1, v2, v3, v4, v5, d0, d1, d2, d3, d4, d5, p0, p1, p2, p3, p4, p5, rfl, rfl, rfl, h0, h1, h2, h3, h4, h5⟩ := trod_open6 hA
  obtain ⟨rfl, rfl⟩ := trodVars_none hV
  have hlt0 : ∀ x ∈ p0, x.block < W.heap.size := fun x hx => by simpa using hW'.lt x (by simp [hx])
  have hlt1 : ∀ x ∈ p1, x.block < W.heap.size := fun x hx => by simpa using hW'.lt x (by simp [hx])
  have hlt2 : ∀ x ∈ p2, x.block < W.heap.size := fun x hx => by simpa using hW'.lt x (by simp [hx])
  have hlt3 : ∀ x ∈ p3, x.block < W.heap.size := fun x hx => by simpa using hW'.lt x (by simp [hx])
  have hlt4 : ∀ x ∈ p4, x.block < W.heap.size := fun x hx => by simpa using hW'.lt x (by simp [hx])
  have hlt5 : ∀ x ∈ p5, x.block < W.heap.size := fun x hx => by simpa using hW'.lt x (by simp [hx])
  obtain ⟨e, s, p, w, rv0⟩ := pol_form (hval 0 23 v0 rfl rfl) h0
  obtain ⟨n, x, rv1, g1⟩ := spans_form (hval 1 24 v1 rfl rfl) h1
  obtain ⟨co, rv2, _⟩ := int_form (hval 2 3 v2 rfl rfl) h2
  obtain ⟨k3, a3, b3, r3, rv3⟩ := dec_form (hval 3 33 v3 rfl rfl) h3
  obtain ⟨k4, a4, b4, r4, rv4⟩ := dec_form (hval 4 33 v4 rfl rfl) h4
  obtain ⟨k5, a5, b5, r5, rv5⟩ := dec_form (hval 5 33 v5 rfl rfl) h5
  clear hA0 hval0
  have hrv : Rvs (Nm.one 0 0) (fun b => b < W.heap.size) W None_ [.agg [.bool e, .int .i64 s, .int .i64 p, .int .i64 w], .isz n T.SS x, .int .i64 co, .agg [.bool k3, .int .i64 a3, .int .i64 b3, .int .i64 r3], .agg [.bool k4, .int .i64 a4, .int .i64 b4, .int .i64 r4], .agg [.bool k5, .int .i64 a5, .int .i64 b5, .int .i64 r5]] [v0, v1, v2, v3, v4, v5] := (.cons rv0 (.cons rv1 (.cons rv2 (.cons rv3 (.cons rv4 (.cons rv5 .nil))))))
  refine (T.l4_ok _ (.ret (.bool true)) (by
    show (Tr.chk (T.okL n x) (Tr.leaf (Res.ret (AV.bool true)))).run = _
    rw [g1]; rfl) (Nm.one 0 0) (fun b => b < W.heap.size) W [v0, v1, v2, v3, v4, v5] (fun _ h => h) trivial hrv).mono fun e W' ⟨hbel, u, he, hu⟩ => ?_
  subst he
  rw [hu.of_bool]
  refine ⟨_, rfl, _, _, _, [], p0 ++ (p1 ++ (p2 ++ (p3 ++ (p4 ++ p5)))), [], hW', ?_, ?_, rfl, hbel.frame _, fun h => by cases h⟩
  · exact trodAll_mk1 (shut_bool Tryz.underlying4 true)
  · exact trod_mk6 (below_trod (by kernel_rfl) (of_decide_eq_true (by kernel_rfl)) h0 hbel hlt0) (below_trod (by kernel_rfl) (of_decide_eq_true (by kernel_rfl)) h1 hbel hlt1) (below_trod (by kernel_rfl) (of_decide_eq_true (by kernel_rfl)) h2 hbel hlt2) (below_trod (by kernel_rfl) (of_decide_eq_true (by kernel_rfl)) h3 hbel hlt3) (below_trod (by kernel_rfl) (of_decide_eq_true (by kernel_rfl)) h4 hbel hlt4) (below_trod (by kernel_rfl) (of_decide_eq_true (by kernel_rfl)) h5 hbel hlt5)
theorem samplingExceptions_holds : Rows.SamplingExceptionsSaid :=
  OpenClaim.holds_of_wide 4 Tryz.f4 rfl rfl rfl rfl rfl rfl rfl ⟨rfl, rfl, rfl, rfl, rfl⟩ rfl rfl rfl rfl rfl (by kernel_rfl) Tryz.func4 (by kernel_rfl)
    (of_decide_eq_true (by kernel_rfl)) (by unfold Func.isWrapper; first | (rw [if_pos (by decide +kernel)]; kernel_rfl) | (rw [if_neg (by decide +kernel)]; exact ⟨rfl, rfl⟩))
    (fun os started H enc _ => samplingExceptions_lifted os started H enc)
#print axioms samplingExceptions_holds
end Go.Proofs.YtfepnmpoplcbmaaGreat
