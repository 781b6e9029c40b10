/- IntervalOrder returns true for every input, and its arguments read as they did. No condition. -/
import Derived.Test.YtekkphoingjidaaIN4P4
import Derived.Test.YtekkphoingjidaaRows
import Derived.ProofKit
import Derived.Lib.SmallJoins
/- The interval package's functions on pairs of intervals, and the reference's: contracts in merged form. Conditions: none beyond the context's. -/
namespace Go.Proofs.Ytekkphoingjidaa
open Go.Evl Go.RowKit

def selI (k : Bool) (x : Int) : Int := if k then x else 0
def vB (a b c d e f g h : Int) : Bool := ivB a b c d && ivB e f g h
def cnB (a b c d e f g h : Int) : Bool := vB a b c d e f g h && (decide (cmpR a b e f ≤ 0) && decide (cmpR g h c d ≤ 0))
def dcI (p q : Bool) : Int := if p then 1 else if q then 0 else -1
def eqI (a b c d e f g h : Int) : Int := dcI (a == e && b == f && (c == g && d == h) && (a == c && b == d)) (decide (cmpR c d e f < 0) || decide (cmpR g h a b < 0))
def lsI (a b c d e f g h : Int) : Int := dcI (decide (cmpR c d e f < 0)) (decide (cmpR a b g h ≥ 0))
theorem ivI_zero {a b c d : Int} : (ivI a b c d == 0) = ivB a b c d := by unfold ivI; cases ivB a b c d <;> cases okB a b && okB c d <;> rfl
theorem ivI_ne {a b c d : Int} : (ivI a b c d != 0) = !ivB a b c d := by unfold ivI; cases ivB a b c d <;> cases okB a b && okB c d <;> rfl

def i37 : Ent := ⟨37, fun
  | [.agg [.int .i64 a, .int .i64 b, .int .i64 c, .int .i64 d], .agg [.int .i64 e, .int .i64 f, .int .i64 g, .int .i64 h]] => .leaf (.ret (.bool (vB a b c d e f g h)))
  | _ => .non⟩

def i45 : Ent := ⟨45, fun
  | [.agg [.int .i64 a, .int .i64 b, .int .i64 c, .int .i64 d], .agg [.int .i64 e, .int .i64 f, .int .i64 g, .int .i64 h]] => .leaf (.ret (.bool (vB a b c d e f g h)))
  | _ => .non⟩

def i16 : Ent := ⟨16, fun
  | [.agg [.int .i64 a, .int .i64 b, .int .i64 c, .int .i64 d], .agg [.int .i64 e, .int .i64 f, .int .i64 g, .int .i64 h]] => .leaf (.ret (I4 (selI (vB a b c d e f g h) (loN a b e f)) (selI (vB a b c d e f g h) (loD a b e f)) (selI (vB a b c d e f g h) (hiN c d g h)) (selI (vB a b c d e f g h) (hiD c d g h))))
  | _ => .non⟩

def i17 : Ent := ⟨17, fun
  | [.agg [.int .i64 a, .int .i64 b, .int .i64 c, .int .i64 d], .agg [.int .i64 e, .int .i64 f, .int .i64 g, .int .i64 h]] => .leaf (.ret (I4 (selI (vB a b c d e f g h) (loN a b e f)) (selI (vB a b c d e f g h) (loD a b e f)) (selI (vB a b c d e f g h) (hiN c d g h)) (selI (vB a b c d e f g h) (hiD c d g h))))
  | _ => .non⟩

def i18 : Ent := ⟨18, fun
  | [.agg [.int .i64 a, .int .i64 b, .int .i64 c, .int .i64 d], .agg [.int .i64 e, .int .i64 f, .int .i64 g, .int .i64 h]] => .leaf (.ret (I4 (selI (vB a b c d e f g h) (loN a b e f)) (selI (vB a b c d e f g h) (loD a b e f)) (selI (vB a b c d e f g h) (loN c d g h)) (selI (vB a b c d e f g h) (loD c d g h))))
  | _ => .non⟩

def i19 : Ent := ⟨19, fun
  | [.agg [.int .i64 a, .int .i64 b, .int .i64 c, .int .i64 d], .agg [.int .i64 e, .int .i64 f, .int .i64 g, .int .i64 h]] => .leaf (.ret (I4 (selI (vB a b c d e f g h) (loN a b e f)) (selI (vB a b c d e f g h) (loD a b e f)) (selI (vB a b c d e f g h) (loN c d g h)) (selI (vB a b c d e f g h) (loD c d g h))))
  | _ => .non⟩

def i20 : Ent := ⟨20, fun
  | [.agg [.int .i64 a, .int .i64 b, .int .i64 c, .int .i64 d], .agg [.int .i64 e, .int .i64 f, .int .i64 g, .int .i64 h]] => .leaf (.ret (I4 (selI (vB a b c d e f g h) (hiN a b e f)) (selI (vB a b c d e f g h) (hiD a b e f)) (selI (vB a b c d e f g h) (hiN c d g h)) (selI (vB a b c d e f g h) (hiD c d g h))))
  | _ => .non⟩

def i21 : Ent := ⟨21, fun
  | [.agg [.int .i64 a, .int .i64 b, .int .i64 c, .int .i64 d], .agg [.int .i64 e, .int .i64 f, .int .i64 g, .int .i64 h]] => .leaf (.ret (I4 (selI (vB a b c d e f g h) (hiN a b e f)) (selI (vB a b c d e f g h) (hiD a b e f)) (selI (vB a b c d e f g h) (hiN c d g h)) (selI (vB a b c d e f g h) (hiD c d g h))))
  | _ => .non⟩

def i46 : Ent := ⟨46, fun
  | [.agg [.int .i64 a, .int .i64 b, .int .i64 c, .int .i64 d], .agg [.int .i64 e, .int .i64 f]] => .leaf (.ret (I4 (loN a b e f) (loD a b e f) (hiN c d e f) (hiD c d e f)))
  | _ => .non⟩

def i23 : Ent := ⟨23, fun
  | [.agg [.int .i64 a, .int .i64 b, .int .i64 c, .int .i64 d], .agg [.int .i64 e, .int .i64 f, .int .i64 g, .int .i64 h]] => .leaf (.ret (.bool (cnB a b c d e f g h)))
  | _ => .non⟩

def i29 : Ent := ⟨29, fun
  | [.agg [.int .i64 a, .int .i64 b, .int .i64 c, .int .i64 d], .agg [.int .i64 e, .int .i64 f, .int .i64 g, .int .i64 h]] => .leaf (.ret (.bool (cnB a b c d e f g h)))
  | _ => .non⟩

def wdE (a b c d : Int) : Int := if ivB a b c d then opE (okB c d && okB a b) (c * b - a * d) (d * b) else 1

def i24 : Ent := ⟨24, fun
  | [.agg [.int .i64 a, .int .i64 b, .int .i64 c, .int .i64 d]] => .leaf (.ret (.tup [I2 (selI (ivB a b c d) (opN (okB c d && okB a b) (c * b - a * d) (d * b))) (selI (ivB a b c d) (opD (okB c d && okB a b) (c * b - a * d) (d * b))), .int .i64 (wdE a b c d)]))
  | _ => .non⟩

def i25 : Ent := ⟨25, fun
  | [.agg [.int .i64 a, .int .i64 b, .int .i64 c, .int .i64 d]] => .leaf (.ret (.tup [I2 (selI (ivB a b c d) (opN (okB c d && okB a b) (c * b - a * d) (d * b))) (selI (ivB a b c d) (opD (okB c d && okB a b) (c * b - a * d) (d * b))), .int .i64 (wdE a b c d)]))
  | _ => .non⟩

def i87 : Ent := ⟨87, fun
  | [.bool p, .bool q] => .leaf (.ret (.int .i64 (dcI p q)))
  | _ => .non⟩

def i66 : Ent := ⟨66, fun
  | [.agg [.int .i64 a, .int .i64 b, .int .i64 c, .int .i64 d], .agg [.int .i64 e, .int .i64 f, .int .i64 g, .int .i64 h]] => .leaf (.ret (.int .i64 (eqI a b c d e f g h)))
  | _ => .non⟩

def i68 : Ent := ⟨68, fun
  | [.agg [.int .i64 a, .int .i64 b, .int .i64 c, .int .i64 d], .agg [.int .i64 e, .int .i64 f, .int .i64 g, .int .i64 h]] => .leaf (.ret (.int .i64 (lsI a b c d e f g h)))
  | _ => .non⟩

theorem jx37 : (mkCx Try.prog (spOf [i11]) (inlOf []) extD).Ok InvD := cx_of [] (by kernel_rfl) (by
  intro p hp
  simp only [List.mem_cons, List.not_mem_nil, or_false] at hp
  rcases hp with rfl
  · exact i11_ok)

theorem jx45 : (mkCx Try.prog (spOf [i26]) (inlOf []) extD).Ok InvD := cx_of [] (by kernel_rfl) (by
  intro p hp
  simp only [List.mem_cons, List.not_mem_nil, or_false] at hp
  rcases hp with rfl
  · exact i26_ok)

theorem vtree37 (a b c d e f g h : Int) : evFn Try.prog (spOf [i11]) (inlOf []) extD (cKD [i11] []) (fun _ => .unroll 0) Try.f37 [I4 a b c d, I4 e f g h] [] (fun r _ => some r) =
    (bif ivI a b c d == 0 then bif ivI e f g h == 0 then some (.ret (.bool true)) else some (.ret (.bool false)) else some (.ret (.bool false)) : Option Res) := by kernel_rfl
theorem i37_ok : SpecHolds Try.prog InvD 37 fun a => (i37.2 a).run := by
  refine specD jx37 Try.func37 (c := codeOf Try.prog 37) (by kernel_rfl) (fun _ => .unroll 0) (fun _ _ => trivial) fun args r hh => ?_
  simp only [i37] at hh
  split at hh
  · rename_i a b c d e f g h
    refine ⟨by kernel_rfl, tr_ok (by rfl) hh, ?_⟩
    refine (vtree37 a b c d e f g h).trans (Eq.trans ?_ hh)
    rw [ivI_zero, ivI_zero]
    unfold vB
    cases ivB a b c d <;> cases ivB e f g h <;> rfl
  · simp [Tr.run] at hh

theorem vtree45 (a b c d e f g h : Int) : evFn Try.prog (spOf [i26]) (inlOf []) extD (cKD [i26] []) (fun _ => .unroll 0) Try.f45 [I4 a b c d, I4 e f g h] [] (fun r _ => some r) =
    (bif ivI a b c d == 0 then bif ivI e f g h == 0 then some (.ret (.bool true)) else some (.ret (.bool false)) else some (.ret (.bool false)) : Option Res) := by kernel_rfl
theorem i45_ok : SpecHolds Try.prog InvD 45 fun a => (i45.2 a).run := by
  refine specD jx45 Try.func45 (c := codeOf Try.prog 45) (by kernel_rfl) (fun _ => .unroll 0) (fun _ _ => trivial) fun args r hh => ?_
  simp only [i45] at hh
  split at hh
  · rename_i a b c d e f g h
    refine ⟨by kernel_rfl, tr_ok (by rfl) hh, ?_⟩
    refine (vtree45 a b c d e f g h).trans (Eq.trans ?_ hh)
    rw [ivI_zero, ivI_zero]
    unfold vB
    cases ivB a b c d <;> cases ivB e f g h <;> rfl
  · simp [Tr.run] at hh

theorem jx16 : (mkCx Try.prog (spOf [i37, i43, i44]) (inlOf []) extD).Ok InvD := cx_of [] (by kernel_rfl) (by
  intro p hp
  simp only [List.mem_cons, List.not_mem_nil, or_false] at hp
  rcases hp with rfl | rfl | rfl
  · exact i37_ok
  · exact i43_ok
  · exact i44_ok)

theorem jx18r : (mkCx Try.prog (spOf [i45, i47, i48]) (inlOf []) extD).Ok InvD := cx_of [] (by kernel_rfl) (by
  intro p hp
  simp only [List.mem_cons, List.not_mem_nil, or_false] at hp
  rcases hp with rfl | rfl | rfl
  · exact i45_ok
  · exact i47_ok
  · exact i48_ok)

theorem vtree16 (a b c d e f g h : Int) : evFn Try.prog (spOf [i37, i43, i44]) (inlOf []) extD (cKD [i37, i43, i44] []) (fun _ => .unroll 0) Try.f16 [I4 a b c d, I4 e f g h] [] (fun r _ => some r) =
    (bif vB a b c d e f g h then some (.ret (I4 (loN a b e f) (loD a b e f) (hiN c d g h) (hiD c d g h))) else some (.ret (I4 0 0 0 0)) : Option Res) := by kernel_rfl
theorem i16_ok : SpecHolds Try.prog InvD 16 fun a => (i16.2 a).run := by
  refine specD jx16 Try.func16 (c := codeOf Try.prog 16) (by kernel_rfl) (fun _ => .unroll 0) (fun _ _ => trivial) fun args r hh => ?_
  simp only [i16] at hh
  split at hh
  · rename_i a b c d e f g h
    refine ⟨by kernel_rfl, tr_ok (by rfl) hh, ?_⟩
    refine (vtree16 a b c d e f g h).trans (Eq.trans ?_ hh)
    unfold selI
    cases vB a b c d e f g h <;> rfl
  · simp [Tr.run] at hh

theorem vtree18 (a b c d e f g h : Int) : evFn Try.prog (spOf [i37, i43, i44]) (inlOf []) extD (cKD [i37, i43, i44] []) (fun _ => .unroll 0) Try.f18 [I4 a b c d, I4 e f g h] [] (fun r _ => some r) =
    (bif vB a b c d e f g h then some (.ret (I4 (loN a b e f) (loD a b e f) (loN c d g h) (loD c d g h))) else some (.ret (I4 0 0 0 0)) : Option Res) := by kernel_rfl
theorem i18_ok : SpecHolds Try.prog InvD 18 fun a => (i18.2 a).run := by
  refine specD jx16 Try.func18 (c := codeOf Try.prog 18) (by kernel_rfl) (fun _ => .unroll 0) (fun _ _ => trivial) fun args r hh => ?_
  simp only [i18] at hh
  split at hh
  · rename_i a b c d e f g h
    refine ⟨by kernel_rfl, tr_ok (by rfl) hh, ?_⟩
    refine (vtree18 a b c d e f g h).trans (Eq.trans ?_ hh)
    unfold selI
    cases vB a b c d e f g h <;> rfl
  · simp [Tr.run] at hh

theorem vtree20 (a b c d e f g h : Int) : evFn Try.prog (spOf [i37, i43, i44]) (inlOf []) extD (cKD [i37, i43, i44] []) (fun _ => .unroll 0) Try.f20 [I4 a b c d, I4 e f g h] [] (fun r _ => some r) =
    (bif vB a b c d e f g h then some (.ret (I4 (hiN a b e f) (hiD a b e f) (hiN c d g h) (hiD c d g h))) else some (.ret (I4 0 0 0 0)) : Option Res) := by kernel_rfl
theorem i20_ok : SpecHolds Try.prog InvD 20 fun a => (i20.2 a).run := by
  refine specD jx16 Try.func20 (c := codeOf Try.prog 20) (by kernel_rfl) (fun _ => .unroll 0) (fun _ _ => trivial) fun args r hh => ?_
  simp only [i20] at hh
  split at hh
  · rename_i a b c d e f g h
    refine ⟨by kernel_rfl, tr_ok (by rfl) hh, ?_⟩
    refine (vtree20 a b c d e f g h).trans (Eq.trans ?_ hh)
    unfold selI
    cases vB a b c d e f g h <;> rfl
  · simp [Tr.run] at hh

theorem vtree19 (a b c d e f g h : Int) : evFn Try.prog (spOf [i45, i47, i48]) (inlOf []) extD (cKD [i45, i47, i48] []) (fun _ => .unroll 0) Try.f19 [I4 a b c d, I4 e f g h] [] (fun r _ => some r) =
    (bif vB a b c d e f g h then some (.ret (I4 (loN a b e f) (loD a b e f) (loN c d g h) (loD c d g h))) else some (.ret (I4 0 0 0 0)) : Option Res) := by kernel_rfl
theorem i19_ok : SpecHolds Try.prog InvD 19 fun a => (i19.2 a).run := by
  refine specD jx18r Try.func19 (c := codeOf Try.prog 19) (by kernel_rfl) (fun _ => .unroll 0) (fun _ _ => trivial) fun args r hh => ?_
  simp only [i19] at hh
  split at hh
  · rename_i a b c d e f g h
    refine ⟨by kernel_rfl, tr_ok (by rfl) hh, ?_⟩
    refine (vtree19 a b c d e f g h).trans (Eq.trans ?_ hh)
    unfold selI
    cases vB a b c d e f g h <;> rfl
  · simp [Tr.run] at hh

theorem vtree21 (a b c d e f g h : Int) : evFn Try.prog (spOf [i45, i47, i48]) (inlOf []) extD (cKD [i45, i47, i48] []) (fun _ => .unroll 0) Try.f21 [I4 a b c d, I4 e f g h] [] (fun r _ => some r) =
    (bif vB a b c d e f g h then some (.ret (I4 (hiN a b e f) (hiD a b e f) (hiN c d g h) (hiD c d g h))) else some (.ret (I4 0 0 0 0)) : Option Res) := by kernel_rfl
theorem i21_ok : SpecHolds Try.prog InvD 21 fun a => (i21.2 a).run := by
  refine specD jx18r Try.func21 (c := codeOf Try.prog 21) (by kernel_rfl) (fun _ => .unroll 0) (fun _ _ => trivial) fun args r hh => ?_
  simp only [i21] at hh
  split at hh
  · rename_i a b c d e f g h
    refine ⟨by kernel_rfl, tr_ok (by rfl) hh, ?_⟩
    refine (vtree21 a b c d e f g h).trans (Eq.trans ?_ hh)
    unfold selI
    cases vB a b c d e f g h <;> rfl
  · simp [Tr.run] at hh

theorem jx46 : (mkCx Try.prog (spOf [e31m]) (inlOf []) extD).Ok InvD := cx_of [] (by kernel_rfl) (by
  intro p hp
  simp only [List.mem_cons, List.not_mem_nil, or_false] at hp
  rcases hp with rfl
  · exact e31m_ok)

theorem vtree46 (a b c d e f : Int) : evFn Try.prog (spOf [e31m]) (inlOf []) extD (cKD [e31m] []) (fun _ => .unroll 0) Try.f46 [I4 a b c d, I2 e f] [] (fun r _ => some r) =
    (bif decide (cmpR e f a b < 0) then bif decide (cmpR e f c d > 0) then some (.ret (I4 e f e f)) else some (.ret (I4 e f c d)) else bif decide (cmpR e f c d > 0) then some (.ret (I4 a b e f)) else some (.ret (I4 a b c d)) : Option Res) := by kernel_rfl
theorem i46_ok : SpecHolds Try.prog InvD 46 fun a => (i46.2 a).run := by
  refine specD jx46 Try.func46 (c := codeOf Try.prog 46) (by kernel_rfl) (fun _ => .unroll 0) (fun _ _ => trivial) fun args r hh => ?_
  simp only [i46] at hh
  split at hh
  · rename_i a b c d e f
    refine ⟨by kernel_rfl, tr_ok (by rfl) hh, ?_⟩
    refine (vtree46 a b c d e f).trans (Eq.trans ?_ hh)
    simp only [Tr.run, loN, loD, hiN, hiD]
    rw [cmpR_swap (a := a) (b := b), cmpR_swap (a := c) (b := d)]
    by_cases k1 : cmpR a b e f > 0
    · rw [if_pos k1, if_pos k1, decide_eq_true (by omega)]
      by_cases k2 : cmpR c d e f < 0
      · rw [if_pos k2, if_pos k2, decide_eq_true (by omega)]; rfl
      · rw [if_neg k2, if_neg k2, decide_eq_false (by omega)]; rfl
    · rw [if_neg k1, if_neg k1, decide_eq_false (by omega)]
      by_cases k2 : cmpR c d e f < 0
      · rw [if_pos k2, if_pos k2, decide_eq_true (by omega)]; rfl
      · rw [if_neg k2, if_neg k2, decide_eq_false (by omega)]; rfl
  · simp [Tr.run] at hh

theorem jx23 : (mkCx Try.prog (spOf [i37, e26m]) (inlOf []) extD).Ok InvD := cx_of [] (by kernel_rfl) (by
  intro p hp
  simp only [List.mem_cons, List.not_mem_nil, or_false] at hp
  rcases hp with rfl | rfl
  · exact i37_ok
  · exact e26m_ok)

theorem jx29i : (mkCx Try.prog (spOf [i45, e31m]) (inlOf []) extD).Ok InvD := cx_of [] (by kernel_rfl) (by
  intro p hp
  simp only [List.mem_cons, List.not_mem_nil, or_false] at hp
  rcases hp with rfl | rfl
  · exact i45_ok
  · exact e31m_ok)

theorem vtree23 (a b c d e f g h : Int) : evFn Try.prog (spOf [i37, e26m]) (inlOf []) extD (cKD [i37, e26m] []) (fun _ => .unroll 0) Try.f23 [I4 a b c d, I4 e f g h] [] (fun r _ => some r) =
    (bif vB a b c d e f g h then bif decide (cmpR a b e f ≤ 0) then bif decide (cmpR g h c d ≤ 0) then some (.ret (.bool true)) else some (.ret (.bool false)) else some (.ret (.bool false)) else some (.ret (.bool false)) : Option Res) := by kernel_rfl
theorem i23_ok : SpecHolds Try.prog InvD 23 fun a => (i23.2 a).run := by
  refine specD jx23 Try.func23 (c := codeOf Try.prog 23) (by kernel_rfl) (fun _ => .unroll 0) (fun _ _ => trivial) fun args r hh => ?_
  simp only [i23] at hh
  split at hh
  · rename_i a b c d e f g h
    refine ⟨by kernel_rfl, tr_ok (by rfl) hh, ?_⟩
    refine (vtree23 a b c d e f g h).trans (Eq.trans ?_ hh)
    unfold cnB
    cases vB a b c d e f g h <;> cases decide (cmpR a b e f ≤ 0) <;> cases decide (cmpR g h c d ≤ 0) <;> rfl
  · simp [Tr.run] at hh

theorem vtree29 (a b c d e f g h : Int) : evFn Try.prog (spOf [i45, e31m]) (inlOf []) extD (cKD [i45, e31m] []) (fun _ => .unroll 0) Try.f29 [I4 a b c d, I4 e f g h] [] (fun r _ => some r) =
    (bif vB a b c d e f g h then bif decide (cmpR a b e f ≤ 0) then bif decide (cmpR g h c d ≤ 0) then some (.ret (.bool true)) else some (.ret (.bool false)) else some (.ret (.bool false)) else some (.ret (.bool false)) : Option Res) := by kernel_rfl
theorem i29_ok : SpecHolds Try.prog InvD 29 fun a => (i29.2 a).run := by
  refine specD jx29i Try.func29 (c := codeOf Try.prog 29) (by kernel_rfl) (fun _ => .unroll 0) (fun _ _ => trivial) fun args r hh => ?_
  simp only [i29] at hh
  split at hh
  · rename_i a b c d e f g h
    refine ⟨by kernel_rfl, tr_ok (by rfl) hh, ?_⟩
    refine (vtree29 a b c d e f g h).trans (Eq.trans ?_ hh)
    unfold cnB
    cases vB a b c d e f g h <;> cases decide (cmpR a b e f ≤ 0) <;> cases decide (cmpR g h c d ≤ 0) <;> rfl
  · simp [Tr.run] at hh

theorem jx24 : (mkCx Try.prog (spOf [i11, e22m]) (inlOf []) extD).Ok InvD := cx_of [] (by kernel_rfl) (by
  intro p hp
  simp only [List.mem_cons, List.not_mem_nil, or_false] at hp
  rcases hp with rfl | rfl
  · exact i11_ok
  · exact e22m_ok)

theorem jx25 : (mkCx Try.prog (spOf [i26, e28m]) (inlOf []) extD).Ok InvD := cx_of [] (by kernel_rfl) (by
  intro p hp
  simp only [List.mem_cons, List.not_mem_nil, or_false] at hp
  rcases hp with rfl | rfl
  · exact i26_ok
  · exact e28m_ok)

theorem vtree24 (a b c d : Int) : evFn Try.prog (spOf [i11, e22m]) (inlOf []) extD (cKD [i11, e22m] []) (fun _ => .unroll 0) Try.f24 [I4 a b c d] [] (fun r _ => some r) =
    (bif ivI a b c d != 0 then some (.ret (.tup [I2 0 0, .int .i64 1])) else some (.ret (.tup [I2 (opN (okB c d && okB a b) (c * b - a * d) (d * b)) (opD (okB c d && okB a b) (c * b - a * d) (d * b)), .int .i64 (opE (okB c d && okB a b) (c * b - a * d) (d * b))])) : Option Res) := by kernel_rfl
theorem i24_ok : SpecHolds Try.prog InvD 24 fun a => (i24.2 a).run := by
  refine specD jx24 Try.func24 (c := codeOf Try.prog 24) (by kernel_rfl) (fun _ => .unroll 0) (fun _ _ => trivial) fun args r hh => ?_
  simp only [i24] at hh
  split at hh
  · rename_i a b c d
    refine ⟨by kernel_rfl, tr_ok (by rfl) hh, ?_⟩
    refine (vtree24 a b c d).trans (Eq.trans ?_ hh)
    rw [ivI_ne]
    unfold wdE selI
    cases ivB a b c d <;> rfl
  · simp [Tr.run] at hh

theorem vtree25 (a b c d : Int) : evFn Try.prog (spOf [i26, e28m]) (inlOf []) extD (cKD [i26, e28m] []) (fun _ => .unroll 0) Try.f25 [I4 a b c d] [] (fun r _ => some r) =
    (bif ivI a b c d != 0 then some (.ret (.tup [I2 0 0, .int .i64 1])) else some (.ret (.tup [I2 (opN (okB c d && okB a b) (c * b - a * d) (d * b)) (opD (okB c d && okB a b) (c * b - a * d) (d * b)), .int .i64 (opE (okB c d && okB a b) (c * b - a * d) (d * b))])) : Option Res) := by kernel_rfl
theorem i25_ok : SpecHolds Try.prog InvD 25 fun a => (i25.2 a).run := by
  refine specD jx25 Try.func25 (c := codeOf Try.prog 25) (by kernel_rfl) (fun _ => .unroll 0) (fun _ _ => trivial) fun args r hh => ?_
  simp only [i25] at hh
  split at hh
  · rename_i a b c d
    refine ⟨by kernel_rfl, tr_ok (by rfl) hh, ?_⟩
    refine (vtree25 a b c d).trans (Eq.trans ?_ hh)
    rw [ivI_ne]
    unfold wdE selI
    cases ivB a b c d <;> rfl
  · simp [Tr.run] at hh

theorem jx87 : (mkCx Try.prog (spOf []) (inlOf []) extD).Ok InvD := cx_of [] (by kernel_rfl) (fun p hp => by cases hp)
theorem i87_ok : SpecHolds Try.prog InvD 87 fun a => (i87.2 a).run := by
  refine specD jx87 Try.func87 (c := codeOf Try.prog 87) (by kernel_rfl) (fun _ => .unroll 0) (fun _ _ => trivial) fun args r hh => ?_
  simp only [i87] at hh
  split at hh
  · rename_i p q
    refine ⟨by kernel_rfl, tr_ok (by rfl) hh, Eq.trans ?_ hh⟩
    have t : evFn Try.prog (spOf []) (inlOf []) extD (cKD [] []) (fun _ => .unroll 0) Try.f87 [.bool p, .bool q] [] (fun r _ => some r) = bif p then some (.ret (.int .i64 1)) else bif q then some (.ret (.int .i64 0)) else some (.ret (.int .i64 (-1))) := by kernel_rfl
    refine t.trans ?_
    cases p <;> cases q <;> rfl
  · simp [Tr.run] at hh

end Go.Proofs.Ytekkphoingjidaa

/- Comparing intervals, in the interval package and in the reference: contracts in merged form. Conditions: none beyond the context's. -/
namespace Go.Proofs.Ytekkphoingjidaa
open Go.Evl Go.RowKit

theorem cmpR_key {a b c d : Int} (h1 : okB a b = true) (h2 : okB c d = true) : cmpR a b c d = if key a b < key c d then -1 else if key a b = key c d then 0 else 1 := by
  rw [cmpR_ok h1 h2, cmpI_key (okB_pos h1) (okB_pos h2)]
theorem dlt {a b c d : Int} (h1 : okB a b = true) (h2 : okB c d = true) : decide (cmpR a b c d < 0) = decide (key a b < key c d) := by
  rw [cmpR_key h1 h2]
  by_cases k : key a b < key c d
  · simp [k]
  · by_cases k2 : key a b = key c d <;> simp [k, k2]
theorem dgt {a b c d : Int} (h1 : okB a b = true) (h2 : okB c d = true) : decide (cmpR a b c d > 0) = decide (key c d < key a b) := by
  rw [cmpR_key h1 h2]
  by_cases k : key a b < key c d
  · have : ¬ key c d < key a b := by grind
    simp [k, this]
  · by_cases k2 : key a b = key c d
    · have : ¬ key c d < key a b := by grind
      simp [k2]
    · have : key c d < key a b := by grind
      simp [k, k2, this]
theorem dle {a b c d : Int} (h1 : okB a b = true) (h2 : okB c d = true) : decide (cmpR a b c d ≤ 0) = decide (key a b ≤ key c d) := by
  rw [cmpR_key h1 h2]
  by_cases k : key a b < key c d
  · have : key a b ≤ key c d := by grind
    simp [k, this]
  · by_cases k2 : key a b = key c d
    · have : key a b ≤ key c d := by grind
      simp [k2]
    · have : ¬ key a b ≤ key c d := by grind
      simp [k, k2, this]
theorem dge {a b c d : Int} (h1 : okB a b = true) (h2 : okB c d = true) : decide (cmpR a b c d ≥ 0) = decide (key c d ≤ key a b) := by
  rw [cmpR_key h1 h2]
  by_cases k : key a b < key c d
  · have : ¬ key c d ≤ key a b := by grind
    simp [k, this]
  · have : key c d ≤ key a b := by grind
    by_cases k2 : key a b = key c d <;> simp [k, k2, this]
theorem deq {a b c d : Int} (h1 : okB a b = true) (h2 : okB c d = true) : (cmpR a b c d == 0) = decide (key a b = key c d) := by
  rw [cmpR_key h1 h2]
  by_cases k : key a b < key c d
  · have : ¬ key a b = key c d := by grind
    simp [k, this]
  · by_cases k2 : key a b = key c d <;> simp [k, k2]
theorem ivB_iff {a b c d : Int} : ivB a b c d = true ↔ okB a b = true ∧ okB c d = true ∧ key a b ≤ key c d := by
  unfold ivB
  rw [Bool.and_eq_true, Bool.and_eq_true]
  constructor
  · rintro ⟨⟨h1, h2⟩, h3⟩
    refine ⟨h1, h2, ?_⟩
    rw [← cmpR_ok h1 h2, dle h1 h2] at h3
    exact of_decide_eq_true h3
  · rintro ⟨h1, h2, h3⟩
    refine ⟨⟨h1, h2⟩, ?_⟩
    rw [← cmpR_ok h1 h2, dle h1 h2]
    exact decide_eq_true h3
theorem vB_iff {a b c d e f g h : Int} : vB a b c d e f g h = true ↔ (okB a b = true ∧ okB c d = true ∧ key a b ≤ key c d) ∧ (okB e f = true ∧ okB g h = true ∧ key e f ≤ key g h) := by
  unfold vB
  rw [Bool.and_eq_true, ivB_iff, ivB_iff]
/-- equal fractions -/
theorem eqF {a b c d : Int} (h1 : okB a b = true) (h2 : okB c d = true) : (a == c && b == d) = decide (key a b = key c d) := by
  by_cases k : key a b = key c d
  · obtain ⟨rfl, rfl⟩ := key_inj h1 h2 k
    simp
  · rw [decide_eq_false k]
    cases hh : (a == c && b == d) with
    | false => rfl
    | true =>
      simp only [Bool.and_eq_true, beq_iff_eq] at hh
      obtain ⟨rfl, rfl⟩ := hh
      exact absurd rfl k
theorem dcI_range (p q : Bool) : -1 ≤ dcI p q ∧ dcI p q ≤ 1 := by cases p <;> cases q <;> simp [dcI]
theorem wrap_opp {x : Int} (h : -1 ≤ x ∧ x ≤ 1) : IntKind.i64.wrap (1 - x) = 1 - x := wrapI (by omega) (by omega)
theorem eqI_key {a b c d e f g h : Int} (hv : vB a b c d e f g h = true) : eqI a b c d e f g h = dcI (decide (key a b = key e f) && decide (key c d = key g h) && decide (key a b = key c d)) (decide (key c d < key e f) || decide (key g h < key a b)) := by
  obtain ⟨⟨h1, h2, _⟩, ⟨h3, h4, _⟩⟩ := vB_iff.1 hv
  unfold eqI
  rw [eqF h1 h3, eqF h2 h4, eqF h1 h2, dlt h2 h3, dlt h4 h1]
theorem lsI_key {a b c d e f g h : Int} (hv : vB a b c d e f g h = true) : lsI a b c d e f g h = dcI (decide (key c d < key e f)) (decide (key g h ≤ key a b)) := by
  obtain ⟨⟨h1, h2, _⟩, ⟨h3, h4, _⟩⟩ := vB_iff.1 hv
  unfold lsI
  rw [dlt h2 h3, dge h1 h4]
theorem vB_swap {a b c d e f g h : Int} : vB e f g h a b c d = vB a b c d e f g h := by unfold vB; rw [Bool.and_comm]

/-- a decision turned round -/
def opp (x : Int) : Int := if x < 0 then x else 1 - x
/-- what a comparison decides -/
def cmE (op a b c d e f g h : Int) : Int :=
  if vB a b c d e f g h then
    if op = 5 then eqI a b c d e f g h else if op = 6 then opp (eqI a b c d e f g h) else if op = 7 then lsI a b c d e f g h else if op = 8 then opp (lsI e f g h a b c d)
    else if op = 9 then lsI e f g h a b c d else if op = 10 then opp (lsI a b c d e f g h) else -1
  else -1
def i12 : Ent := ⟨12, fun
  | [.int .i64 op, .agg [.int .i64 a, .int .i64 b, .int .i64 c, .int .i64 d], .agg [.int .i64 e, .int .i64 f, .int .i64 g, .int .i64 h]] => .leaf (.ret (.int .i64 (cmE op a b c d e f g h)))
  | _ => .non⟩
def i22 : Ent := ⟨22, fun
  | [.int .i64 op, .agg [.int .i64 a, .int .i64 b, .int .i64 c, .int .i64 d], .agg [.int .i64 e, .int .i64 f, .int .i64 g, .int .i64 h]] => .leaf (.ret (.int .i64 (cmE op a b c d e f g h)))
  | _ => .non⟩

theorem jx66 : (mkCx Try.prog (spOf [e26m, i87]) (inlOf []) extD).Ok InvD := cx_of [] (by kernel_rfl) (by
  intro p hp
  simp only [List.mem_cons, List.not_mem_nil, or_false] at hp
  rcases hp with rfl | rfl
  · exact e26m_ok
  · exact i87_ok)
theorem vtree66 (a b c d e f g h : Int) : evFn Try.prog (spOf [e26m, i87]) (inlOf []) extD (cKD [e26m, i87] []) (fun _ => .unroll 0) Try.f66 [I4 a b c d, I4 e f g h] [] (fun r _ => some r) =
    (bif decide (cmpR c d e f < 0) then
      bif a == e && (b == f && true) && (c == g && (d == h && true) && true) then bif a == c && (b == d && true) then some (Res.ret (AV.int IntKind.i64 (dcI true true))) else some (Res.ret (AV.int IntKind.i64 (dcI false true)))
      else some (Res.ret (AV.int IntKind.i64 (dcI false true)))
    else bif decide (cmpR g h a b < 0) then
      bif a == e && (b == f && true) && (c == g && (d == h && true) && true) then bif a == c && (b == d && true) then some (Res.ret (AV.int IntKind.i64 (dcI true true))) else some (Res.ret (AV.int IntKind.i64 (dcI false true)))
      else some (Res.ret (AV.int IntKind.i64 (dcI false true)))
    else bif a == e && (b == f && true) && (c == g && (d == h && true) && true) then bif a == c && (b == d && true) then some (Res.ret (AV.int IntKind.i64 (dcI true false))) else some (Res.ret (AV.int IntKind.i64 (dcI false false)))
      else some (Res.ret (AV.int IntKind.i64 (dcI false false))) : Option Res) := by kernel_rfl
theorem i66_ok : SpecHolds Try.prog InvD 66 fun a => (i66.2 a).run := by
  refine specD jx66 Try.func66 (c := codeOf Try.prog 66) (by kernel_rfl) (fun _ => .unroll 0) (fun _ _ => trivial) fun args r hh => ?_
  simp only [i66] at hh
  split at hh
  · rename_i a b c d e f g h
    refine ⟨by kernel_rfl, tr_ok (by rfl) hh, ?_⟩
    refine (vtree66 a b c d e f g h).trans (Eq.trans ?_ hh)
    unfold eqI
    simp only [Bool.and_true, Tr.run]
    generalize (a == e && b == f && (c == g && d == h)) = p
    generalize (a == c && b == d) = q
    generalize decide (cmpR c d e f < 0) = s
    generalize decide (cmpR g h a b < 0) = t
    cases p <;> cases q <;> cases s <;> cases t <;> rfl
  · simp [Tr.run] at hh
theorem vtree68 (a b c d e f g h : Int) : evFn Try.prog (spOf [e26m, i87]) (inlOf []) extD (cKD [e26m, i87] []) (fun _ => .unroll 0) Try.f68 [I4 a b c d, I4 e f g h] [] (fun r _ => some r) =
    (bif decide (cmpR c d e f < 0) then bif decide (cmpR a b g h ≥ 0) then some (Res.ret (AV.int IntKind.i64 (dcI true true))) else some (Res.ret (AV.int IntKind.i64 (dcI true false)))
    else bif decide (cmpR a b g h ≥ 0) then some (Res.ret (AV.int IntKind.i64 (dcI false true))) else some (Res.ret (AV.int IntKind.i64 (dcI false false))) : Option Res) := by kernel_rfl
theorem i68_ok : SpecHolds Try.prog InvD 68 fun a => (i68.2 a).run := by
  refine specD jx66 Try.func68 (c := codeOf Try.prog 68) (by kernel_rfl) (fun _ => .unroll 0) (fun _ _ => trivial) fun args r hh => ?_
  simp only [i68] at hh
  split at hh
  · rename_i a b c d e f g h
    refine ⟨by kernel_rfl, tr_ok (by rfl) hh, ?_⟩
    refine (vtree68 a b c d e f g h).trans (Eq.trans ?_ hh)
    unfold lsI
    simp only [Tr.run]
    generalize decide (cmpR c d e f < 0) = s
    generalize decide (cmpR a b g h ≥ 0) = t
    cases s <;> cases t <;> rfl
  · simp [Tr.run] at hh

theorem jx17 : (mkCx Try.prog (spOf [i45, i46]) (inlOf []) extD).Ok InvD := cx_of [] (by kernel_rfl) (by
  intro p hp
  simp only [List.mem_cons, List.not_mem_nil, or_false] at hp
  rcases hp with rfl | rfl
  · exact i45_ok
  · exact i46_ok)
theorem vtree17 (a b c d e f g h : Int) : evFn Try.prog (spOf [i45, i46]) (inlOf []) extD (cKD [i45, i46] []) (fun _ => .unroll 0) Try.f17 [I4 a b c d, I4 e f g h] [] (fun r _ => some r) =
    (bif vB a b c d e f g h then some (.ret (I4 (loN (loN a b e f) (loD a b e f) g h) (loD (loN a b e f) (loD a b e f) g h) (hiN (hiN c d e f) (hiD c d e f) g h) (hiD (hiN c d e f) (hiD c d e f) g h))) else some (.ret (I4 0 0 0 0)) : Option Res) := by kernel_rfl
theorem lo_cases {a b c d : Int} (h1 : okB a b = true) (h2 : okB c d = true) : (loN a b c d = a ∧ loD a b c d = b ∧ key a b ≤ key c d) ∨ (loN a b c d = c ∧ loD a b c d = d ∧ key c d < key a b) := by
  unfold loN loD
  have := dgt h1 h2
  by_cases k : key c d < key a b
  · rw [decide_eq_true k, decide_eq_true_eq] at this
    simp [this, k]
  · rw [decide_eq_false k, decide_eq_false_iff_not] at this
    simp only [if_neg this, true_and]
    left; grind
theorem hi_cases {a b c d : Int} (h1 : okB a b = true) (h2 : okB c d = true) : (hiN a b c d = a ∧ hiD a b c d = b ∧ key c d ≤ key a b) ∨ (hiN a b c d = c ∧ hiD a b c d = d ∧ key a b < key c d) := by
  unfold hiN hiD
  have := dlt h1 h2
  by_cases k : key a b < key c d
  · rw [decide_eq_true k, decide_eq_true_eq] at this
    simp [this, k]
  · rw [decide_eq_false k, decide_eq_false_iff_not] at this
    simp only [if_neg this, true_and]
    left; grind
theorem hull_eq {a b c d e f g h : Int} (hv : vB a b c d e f g h = true) : loN (loN a b e f) (loD a b e f) g h = loN a b e f ∧ loD (loN a b e f) (loD a b e f) g h = loD a b e f ∧
    hiN (hiN c d e f) (hiD c d e f) g h = hiN c d g h ∧ hiD (hiN c d e f) (hiD c d e f) g h = hiD c d g h := by
  obtain ⟨⟨h1, h2, h3⟩, ⟨h4, h5, h6⟩⟩ := vB_iff.1 hv
  refine and_assoc.1 ⟨?_, ?_⟩
  · rcases lo_cases h1 h4 with ⟨e1, e2, k⟩ | ⟨e1, e2, k⟩ <;> rw [e1, e2]
    · rcases lo_cases h1 h5 with ⟨e3, e4, k'⟩ | ⟨e3, e4, k'⟩ <;> rw [e3, e4]
      · exact ⟨rfl, rfl⟩
      · exfalso; grind
    · rcases lo_cases h4 h5 with ⟨e3, e4, k'⟩ | ⟨e3, e4, k'⟩ <;> rw [e3, e4]
      · exact ⟨rfl, rfl⟩
      · exfalso; grind
  · rcases hi_cases h2 h4 with ⟨e1, e2, k⟩ | ⟨e1, e2, k⟩ <;> rw [e1, e2]
    · exact ⟨rfl, rfl⟩
    · rcases hi_cases h4 h5 with ⟨e3, e4, k'⟩ | ⟨e3, e4, k'⟩ <;> rw [e3, e4]
      · rcases hi_cases h2 h5 with ⟨e5, e6, k2⟩ | ⟨e5, e6, k2⟩ <;> rw [e5, e6]
        · exfalso; grind
        · have : key e f = key g h := by grind
          exact key_inj h4 h5 this
      · rcases hi_cases h2 h5 with ⟨e5, e6, k2⟩ | ⟨e5, e6, k2⟩ <;> rw [e5, e6]
        · exfalso; grind
        · exact ⟨rfl, rfl⟩
theorem i17_ok : SpecHolds Try.prog InvD 17 fun a => (i17.2 a).run := by
  refine specD jx17 Try.func17 (c := codeOf Try.prog 17) (by kernel_rfl) (fun _ => .unroll 0) (fun _ _ => trivial) fun args r hh => ?_
  simp only [i17] at hh
  split at hh
  · rename_i a b c d e f g h
    refine ⟨by kernel_rfl, tr_ok (by rfl) hh, ?_⟩
    refine (vtree17 a b c d e f g h).trans (Eq.trans ?_ hh)
    cases hv : vB a b c d e f g h with
    | false => rfl
    | true =>
      obtain ⟨k1, k2, k3, k4⟩ := hull_eq hv
      rw [k1, k2, k3, k4]; rfl
  · simp [Tr.run] at hh

theorem jx12 : (mkCx Try.prog (spOf [i37, i66, i68]) (inlOf [36, 67, 69, 88, 89]) extD).Ok InvD := cx_of [36, 67, 69, 88, 89] (by kernel_rfl) (by
  intro p hp
  simp only [List.mem_cons, List.not_mem_nil, or_false] at hp
  rcases hp with rfl | rfl | rfl
  · exact i37_ok
  · exact i66_ok
  · exact i68_ok)
theorem vtree12 (a b c d e f g h op : Int) : evFn Try.prog (spOf [i37, i66, i68]) (inlOf [36, 67, 69, 88, 89]) extD (cKD [i37, i66, i68] [36, 67, 69, 88, 89]) (fun _ => .unroll 0) Try.f12 [.int .i64 op, I4 a b c d, I4 e f g h] [] (fun r _ => some r) =
    (bif op == 5 then bif vB a b c d e f g h then some (Res.ret (AV.int IntKind.i64 (eqI a b c d e f g h))) else some (Res.ret (AV.int IntKind.i64 (-1)))
    else bif op == 6 then bif vB a b c d e f g h then bif decide (eqI a b c d e f g h < 0) then some (Res.ret (AV.int IntKind.i64 (eqI a b c d e f g h))) else some (Res.ret (AV.int IntKind.i64 (IntKind.i64.wrap (1 - eqI a b c d e f g h)))) else some (Res.ret (AV.int IntKind.i64 (-1)))
    else bif op == 7 then bif vB a b c d e f g h then some (Res.ret (AV.int IntKind.i64 (lsI a b c d e f g h))) else some (Res.ret (AV.int IntKind.i64 (-1)))
    else bif op == 8 then bif vB a b c d e f g h then bif decide (lsI e f g h a b c d < 0) then some (Res.ret (AV.int IntKind.i64 (lsI e f g h a b c d))) else some (Res.ret (AV.int IntKind.i64 (IntKind.i64.wrap (1 - lsI e f g h a b c d)))) else some (Res.ret (AV.int IntKind.i64 (-1)))
    else bif op == 9 then bif vB a b c d e f g h then some (Res.ret (AV.int IntKind.i64 (lsI e f g h a b c d))) else some (Res.ret (AV.int IntKind.i64 (-1)))
    else bif op == 10 then bif vB a b c d e f g h then bif decide (lsI a b c d e f g h < 0) then some (Res.ret (AV.int IntKind.i64 (lsI a b c d e f g h))) else some (Res.ret (AV.int IntKind.i64 (IntKind.i64.wrap (1 - lsI a b c d e f g h)))) else some (Res.ret (AV.int IntKind.i64 (-1)))
    else some (Res.ret (AV.int IntKind.i64 (-1))) : Option Res) := by kernel_rfl
theorem opp_bif {x : Int} (h : -1 ≤ x ∧ x ≤ 1) : (bif decide (x < 0) then some (Res.ret (AV.int IntKind.i64 x)) else some (Res.ret (AV.int IntKind.i64 (IntKind.i64.wrap (1 - x)))) : Option Res) = some (.ret (.int .i64 (opp x))) := by
  rw [wrap_opp h]
  unfold opp
  by_cases k : x < 0
  · rw [decide_eq_true k, if_pos k]; rfl
  · rw [decide_eq_false k, if_neg k]; rfl
theorem i12_ok : SpecHolds Try.prog InvD 12 fun a => (i12.2 a).run := by
  refine specD jx12 Try.func12 (c := codeOf Try.prog 12) (by kernel_rfl) (fun _ => .unroll 0) (fun _ _ => trivial) fun args r hh => ?_
  simp only [i12] at hh
  split at hh
  · rename_i op a b c d e f g h
    refine ⟨by kernel_rfl, tr_ok (by rfl) hh, ?_⟩
    refine (vtree12 a b c d e f g h op).trans (Eq.trans ?_ hh)
    have r1 : -1 ≤ eqI a b c d e f g h ∧ eqI a b c d e f g h ≤ 1 := dcI_range _ _
    have r2 : -1 ≤ lsI a b c d e f g h ∧ lsI a b c d e f g h ≤ 1 := dcI_range _ _
    have r3 : -1 ≤ lsI e f g h a b c d ∧ lsI e f g h a b c d ≤ 1 := dcI_range _ _
    rw [opp_bif r1, opp_bif r2, opp_bif r3]
    unfold cmE
    simp only [Tr.run]
    cases vB a b c d e f g h with
    | false => simp
    | true =>
      simp only [cond_true, if_true]
      by_cases k5 : op = 5
      · simp [k5]
      by_cases k6 : op = 6
      · simp [k6]
      by_cases k7 : op = 7
      · simp [k7]
      by_cases k8 : op = 8
      · simp [k8]
      by_cases k9 : op = 9
      · simp [k9]
      by_cases k10 : op = 10
      · simp [k10]
      simp [k5, k6, k7, k8, k9, k10, beq_false_of_ne]
  · simp [Tr.run] at hh

theorem jx22 : (mkCx Try.prog (spOf [i45, e31m]) (inlOf []) extD).Ok InvD := cx_of [] (by kernel_rfl) (by
  intro p hp
  simp only [List.mem_cons, List.not_mem_nil, or_false] at hp
  rcases hp with rfl | rfl
  · exact i45_ok
  · exact e31m_ok)
noncomputable abbrev ev22 (a b c d e f g h op : Int) : Tr Res := evFnT Try.prog (spOf [i45, e31m]) (inlOf []) extD (cKD [i45, e31m] []) (fun _ => .unroll 0) Try.f22 [.int .i64 op, I4 a b c d, I4 e f g h] [] (fun r _ => .ofOpt (some r))
abbrev R1 (x : Int) : Option Res := some (.ret (.int .i64 x))
theorem v22_5 (a b c d e f g h : Int) : (ev22 a b c d e f g h 5).run = (bif vB a b c d e f g h then
      bif decide (cmpR c d e f < 0) then bif cmpR a b g h == 0 then bif cmpR c d e f == 0 then R1 1 else R1 0 else R1 0
      else bif decide (cmpR g h a b < 0) then bif cmpR a b g h == 0 then bif cmpR c d e f == 0 then R1 1 else R1 0 else R1 0
      else bif cmpR a b g h == 0 then bif cmpR c d e f == 0 then R1 1 else R1 (-1) else R1 (-1)
    else R1 (-1)) := by kernel_rfl
theorem v22_6 (a b c d e f g h : Int) : (ev22 a b c d e f g h 6).run = (bif vB a b c d e f g h then
      bif decide (cmpR c d e f < 0) then bif cmpR a b g h == 0 then bif cmpR c d e f == 0 then R1 1 else R1 1 else R1 1
      else bif decide (cmpR g h a b < 0) then bif cmpR a b g h == 0 then bif cmpR c d e f == 0 then R1 1 else R1 1 else R1 1
      else bif cmpR a b g h == 0 then bif cmpR c d e f == 0 then R1 0 else R1 (-1) else R1 (-1)
    else R1 (-1)) := by kernel_rfl
theorem v22_7 (a b c d e f g h : Int) : (ev22 a b c d e f g h 7).run = (bif vB a b c d e f g h then
      bif decide (cmpR c d e f < 0) then bif decide (cmpR a b g h ≥ 0) then R1 1 else R1 1 else bif decide (cmpR a b g h ≥ 0) then R1 0 else R1 (-1)
    else R1 (-1)) := by kernel_rfl
theorem v22_10 (a b c d e f g h : Int) : (ev22 a b c d e f g h 10).run = (bif vB a b c d e f g h then
      bif decide (cmpR c d e f < 0) then bif decide (cmpR a b g h ≥ 0) then R1 1 else R1 0 else bif decide (cmpR a b g h ≥ 0) then R1 1 else R1 (-1)
    else R1 (-1)) := by kernel_rfl
theorem v22_8 (a b c d e f g h : Int) : (ev22 a b c d e f g h 8).run = (bif vB a b c d e f g h then
      bif decide (cmpR c d e f ≤ 0) then bif decide (cmpR a b g h > 0) then R1 1 else R1 1 else bif decide (cmpR a b g h > 0) then R1 0 else R1 (-1)
    else R1 (-1)) := by kernel_rfl
theorem v22_9 (a b c d e f g h : Int) : (ev22 a b c d e f g h 9).run = (bif vB a b c d e f g h then
      bif decide (cmpR c d e f ≤ 0) then bif decide (cmpR a b g h > 0) then R1 1 else R1 0 else bif decide (cmpR a b g h > 0) then R1 1 else R1 (-1)
    else R1 (-1)) := by kernel_rfl
theorem v22_x (a b c d e f g h op : Int) (H : allB [(vB a b c d e f g h, true), (op == 5, false), (op == 6, false), (op == 7, false), (op == 10, false), (op == 8, false), (op == 9, false), (op == 6, false), (op == 10, false), (op == 9, false)] = true) :
    (ev22 a b c d e f g h op).run = R1 (-1) := way (gs := [true, false, false, false, false, false, false, false, false, false, false, false, false, false, false, false, false, false, false, false, false, false, false, false, false]) (by kernel_rfl) H
theorem v22_y (a b c d e f g h op : Int) (H : allB [(vB a b c d e f g h, false)] = true) : (ev22 a b c d e f g h op).run = R1 (-1) := way (gs := [false, true]) (by kernel_rfl) H

theorem ev22_eq (a b c d e f g h op : Int) : (ev22 a b c d e f g h op).run = R1 (cmE op a b c d e f g h) := by
  unfold cmE
  cases hv : vB a b c d e f g h with
  | false => exact v22_y a b c d e f g h op (by simp [allB, hv])
  | true =>
    have hv2 : vB e f g h a b c d = true := by rw [vB_swap, hv]
    obtain ⟨⟨h1, h2, h3⟩, ⟨h4, h5, h6⟩⟩ := vB_iff.1 hv
    by_cases k5 : op = 5
    · subst k5
      rw [v22_5, hv, eqI_key hv, dlt h2 h4, dlt h5 h1, deq h1 h5, deq h2 h4]
      by_cases c1 : key c d < key e f
      · have n1 : ¬ key c d = key e f := by grind
        have n2 : ¬ (key a b = key e f) := by grind
        simp [c1, n1, n2, dcI]
      · by_cases c2 : key g h < key a b
        · have n1 : ¬ key a b = key g h := by grind
          have n2 : ¬ (key a b = key e f) := by grind
          simp [c1, c2, n1, n2, dcI]
        · by_cases c3 : key a b = key g h
          · by_cases c4 : key c d = key e f
            · have n1 : key a b = key e f := by grind
              have n2 : key c d = key g h := by grind
              have n3 : key a b = key c d := by grind
              simp [← n1, ← n3, ← n2, dcI]
            · have n1 : ¬ (key a b = key e f ∧ key c d = key g h ∧ key a b = key c d) := by grind
              have n2 : (decide (key a b = key e f) && decide (key c d = key g h) && decide (key a b = key c d)) = false := by
                rw [← decide_eq_false n1]; simp [Bool.and_assoc, Bool.decide_and]
              rw [n2, decide_eq_false c1, decide_eq_false c2, decide_eq_false c4]
              cases decide (key a b = key g h) <;> rfl
          · have n1 : ¬ (key a b = key e f ∧ key c d = key g h ∧ key a b = key c d) := by grind
            have n2 : (decide (key a b = key e f) && decide (key c d = key g h) && decide (key a b = key c d)) = false := by
              rw [← decide_eq_false n1]; simp [Bool.and_assoc, Bool.decide_and]
            rw [n2, decide_eq_false c1, decide_eq_false c2, decide_eq_false c3]
            rfl
    by_cases k6 : op = 6
    · subst k6
      rw [v22_6, hv, eqI_key hv, dlt h2 h4, dlt h5 h1, deq h1 h5, deq h2 h4]
      by_cases c1 : key c d < key e f
      · have n2 : ¬ (key a b = key e f) := by grind
        simp [c1, n2, dcI, opp]
      · by_cases c2 : key g h < key a b
        · have n2 : ¬ (key a b = key e f) := by grind
          simp [c1, c2, n2, dcI, opp]
        · by_cases c3 : key a b = key g h
          · by_cases c4 : key c d = key e f
            · have n1 : key a b = key e f := by grind
              have n2 : key c d = key g h := by grind
              have n3 : key a b = key c d := by grind
              simp [← n1, ← n3, ← n2, dcI, opp]
            · have n1 : ¬ (key a b = key e f ∧ key c d = key g h ∧ key a b = key c d) := by grind
              have n2 : (decide (key a b = key e f) && decide (key c d = key g h) && decide (key a b = key c d)) = false := by
                rw [← decide_eq_false n1]; simp [Bool.and_assoc, Bool.decide_and]
              rw [n2, decide_eq_false c1, decide_eq_false c2, decide_eq_false c4]
              cases decide (key a b = key g h) <;> rfl
          · have n1 : ¬ (key a b = key e f ∧ key c d = key g h ∧ key a b = key c d) := by grind
            have n2 : (decide (key a b = key e f) && decide (key c d = key g h) && decide (key a b = key c d)) = false := by
              rw [← decide_eq_false n1]; simp [Bool.and_assoc, Bool.decide_and]
            rw [n2, decide_eq_false c1, decide_eq_false c2, decide_eq_false c3]
            rfl
    by_cases k7 : op = 7
    · subst k7
      rw [v22_7, hv, lsI_key hv, dlt h2 h4, dge h1 h5]
      by_cases c1 : key c d < key e f <;> by_cases c2 : key g h ≤ key a b <;> simp [c1, c2, dcI]
    by_cases k8 : op = 8
    · subst k8
      rw [v22_8, hv, lsI_key hv2, dle h2 h4, dgt h1 h5]
      by_cases c1 : key c d ≤ key e f
      · have n1 : ¬ key g h < key a b := by grind
        simp [c1, n1, dcI, opp]
      · by_cases c2 : key g h < key a b <;> simp [c1, c2, dcI, opp]
    by_cases k9 : op = 9
    · subst k9
      rw [v22_9, hv, lsI_key hv2, dle h2 h4, dgt h1 h5]
      by_cases c1 : key c d ≤ key e f
      · have n1 : ¬ key g h < key a b := by grind
        simp [c1, n1, dcI]
      · by_cases c2 : key g h < key a b <;> simp [c1, c2, dcI]
    by_cases k10 : op = 10
    · subst k10
      rw [v22_10, hv, lsI_key hv, dlt h2 h4, dge h1 h5]
      by_cases c1 : key c d < key e f
      · have n1 : ¬ key g h ≤ key a b := by grind
        simp [c1, n1, dcI, opp]
      · by_cases c2 : key g h ≤ key a b <;> simp [c1, c2, dcI, opp]
    rw [v22_x a b c d e f g h op (by simp [allB, hv, k5, k6, k7, k8, k9, k10])]
    simp [k5, k6, k7, k8, k9, k10]
theorem i22_ok : SpecHolds Try.prog InvD 22 fun a => (i22.2 a).run := by
  refine specD jx22 Try.func22 (c := codeOf Try.prog 22) (by kernel_rfl) (fun _ => .unroll 0) (fun _ _ => trivial) fun args r hh => ?_
  simp only [i22] at hh
  split at hh
  · rename_i op a b c d e f g h
    refine ⟨by kernel_rfl, tr_ok (by rfl) hh, ?_⟩
    exact (ev22_eq a b c d e f g h op).trans hh
  · simp [Tr.run] at hh
end Go.Proofs.Ytekkphoingjidaa

/- awake, by its run. No condition. -/
namespace Go.Proofs.Ytekkphoingjidaa
open Go.Evl Go.RowKit

def slI : List FuncId := [11,12,23,37,38,39,40,43,44,27,66,68,70,87,34,35,60,61,62,63,64,65,49,71,72,79,81,85,86,92,96,97,98,99,100,106,107,108,109,110]
def ilI : List FuncId := [77,78,91,93,101,36,67,69,88,89,90,103]
noncomputable def spI (n : Nat) : Sp := autoSp Try.prog [] slI ilI extD attD uD n
theorem spI_ok (n : Nat) : (mkCx Try.prog (spI n) (inlOf ilI) extD).Ok InvD :=
  autoSp_ok attD_ok (by kernel_rfl) extD_ok (fun p hp => by cases hp) stableD mixedD n

theorem awake_run : (callK Try.prog (spI 8) (inlOf ilI) extD attD uD 40 13 [] [] fun r _ => .chk (okRes r) (.leaf r)).run = some (.ret (.bool true)) := by kernel_rfl
def iAw : Ent := ⟨13, fun
  | [] => .leaf (.ret (.bool true))
  | _ => .non⟩
theorem iAw_ok : SpecHolds Try.prog InvD 13 fun a => (iAw.2 a).run := by
  intro args r h
  simp only [iAw] at h
  split at h
  · simp only [Tr.run, Option.some.injEq] at h
    subst h
    exact auto_spec (u := uD) attD_ok (spI_ok 8) stableD mixedD 40 13 [] (.ret (.bool true)) awake_run
  · simp [Tr.run] at h
end Go.Proofs.Ytekkphoingjidaa

/- IntervalOrder's walk. Conditions: none beyond the context's. -/
namespace Go.Proofs.Ytekkphoingjidaa
open Go.Evl Go.RowKit
def l4 : Ent := ⟨4, fun
  | [.int .i64 _, .agg [.int .i64 _, .int .i64 _, .int .i64 _, .int .i64 _], .agg [.int .i64 _, .int .i64 _, .int .i64 _, .int .i64 _]] => .leaf (.ret (.bool true))
  | _ => .non⟩
theorem lx4 : (mkCx Try.prog (spOf [i16, i17, i18, i19, i20, i21, i12, i22, iAw]) (inlOf []) extD).Ok InvD := cx_of [] (by kernel_rfl) (by
  intro p hp
  simp only [List.mem_cons, List.not_mem_nil, or_false] at hp
  rcases hp with rfl | rfl | rfl | rfl | rfl | rfl | rfl | rfl | rfl
  · exact i16_ok
  · exact i17_ok
  · exact i18_ok
  · exact i19_ok
  · exact i20_ok
  · exact i21_ok
  · exact i12_ok
  · exact i22_ok
  · exact iAw_ok)
abbrev RB (b : Bool) : Option Res := some (.ret (.bool b))
theorem lt4 (op a b c d e f g h : Int) : evFn Try.prog (spOf [i16, i17, i18, i19, i20, i21, i12, i22, iAw]) (inlOf []) extD (cKD [i16, i17, i18, i19, i20, i21, i12, i22, iAw] []) (fun _ => .unroll 0) Try.f4 [.int .i64 op, I4 a b c d, I4 e f g h] [] (fun r _ => some r) =
  (bif
    selI (vB a b c d e f g h) (loN a b e f) == selI (vB a b c d e f g h) (loN a b e f) &&
        (selI (vB a b c d e f g h) (loD a b e f) == selI (vB a b c d e f g h) (loD a b e f) && true) &&
      (selI (vB a b c d e f g h) (hiN c d g h) == selI (vB a b c d e f g h) (hiN c d g h) &&
          (selI (vB a b c d e f g h) (hiD c d g h) == selI (vB a b c d e f g h) (hiD c d g h) && true) &&
        true) then
  bif
      selI (vB a b c d e f g h) (loN a b e f) == selI (vB a b c d e f g h) (loN a b e f) &&
          (selI (vB a b c d e f g h) (loD a b e f) == selI (vB a b c d e f g h) (loD a b e f) && true) &&
        (selI (vB a b c d e f g h) (loN c d g h) == selI (vB a b c d e f g h) (loN c d g h) &&
            (selI (vB a b c d e f g h) (loD c d g h) == selI (vB a b c d e f g h) (loD c d g h) && true) &&
          true) then
    bif
        selI (vB a b c d e f g h) (hiN a b e f) == selI (vB a b c d e f g h) (hiN a b e f) &&
            (selI (vB a b c d e f g h) (hiD a b e f) == selI (vB a b c d e f g h) (hiD a b e f) && true) &&
          (selI (vB a b c d e f g h) (hiN c d g h) == selI (vB a b c d e f g h) (hiN c d g h) &&
              (selI (vB a b c d e f g h) (hiD c d g h) == selI (vB a b c d e f g h) (hiD c d g h) && true) &&
            true) then
      bif cmE op a b c d e f g h == cmE op a b c d e f g h then RB true else RB false
    else RB false
  else RB false
else RB false) := by kernel_rfl
theorem l4_ok : SpecHolds Try.prog InvD 4 fun a => (l4.2 a).run := by
  refine specD lx4 Try.func4 (c := codeOf Try.prog 4) (by kernel_rfl) (fun _ => .unroll 0) (fun _ _ => trivial) fun args r hh => ?_
  simp only [l4] at hh
  split at hh
  · rename_i op a b c d e f g h
    refine ⟨by kernel_rfl, tr_ok (by rfl) hh, ?_⟩
    refine (lt4 op a b c d e f g h).trans (Eq.trans ?_ hh)
    simp only [beq_self_eq_true, Bool.and_self, cond_true]
    rfl
  · simp [Tr.run] at hh
end Go.Proofs.Ytekkphoingjidaa

/- What the interval rows' readings give: the arguments' forms. Conditions: the rows' own. -/
namespace Go.Proofs.Ytekkphoingjidaa
open Go.ChangeShapes Go.WideShapes Go.ChangeAt Go.RowKit Go.Joins Go.Evl

theorem own : ownKnob Try.prog.godebug = none := by kernel_rfl
theorem laidOut : laidOutB Try.prog = true := by kernel_rfl
section
variable {H : Type} {enc : TypeId × Value → H} {w : World} {base b0 : Nat} {spare : Nat → Bool} {held : Bool} {rc : Reach} {v : Value} {d : DataW H} {p : List MemPlace}
set_option maxRecDepth 100000 in
theorem int_form (hv : Value.okWide Try.prog w rc b0 3 v) (h : DataW.Trod enc Try.prog w base spare held 3 v d p) : ∃ a, v = .int .i64 a := by
  obtain ⟨a, rfl, _⟩ := open_int Try.underlying3 hv h
  exact ⟨a, rfl⟩
set_option maxRecDepth 100000 in
theorem ratio_form (hv : Value.okWide Try.prog w rc b0 23 v) (h : DataW.Trod enc Try.prog w base spare held 23 v d p) : ∃ a b, v = .agg #[.int .i64 a, .int .i64 b] := by
  obtain ⟨c0, c1, y0, y1, m, rfl, _, _, h0, h1⟩ := open_agg2 Try.underlying23 (by kernel_rfl) (by kernel_rfl) hv h
  obtain ⟨a, x0, _⟩ := DataW.trod_int Try.underlying3 h0
  obtain ⟨b, x1, _⟩ := DataW.trod_int Try.underlying3 h1
  simp at x0 x1
  subst x0 x1
  exact ⟨a, b, rfl⟩
set_option maxRecDepth 100000 in
theorem iv_form (hv : Value.okWide Try.prog w rc b0 25 v) (h : DataW.Trod enc Try.prog w base spare held 25 v d p) : ∃ a b c d, v = .agg #[.int .i64 a, .int .i64 b, .int .i64 c, .int .i64 d] := by
  have c25 : Try.prog.cellsOf 25 = 4 := by kernel_rfl
  have c23 : Try.prog.cellsOf 23 = 2 := by kernel_rfl
  have c3 : Try.prog.cellsOf 3 = 1 := by kernel_rfl
  obtain ⟨cs, rfl, hsz⟩ := okWide_struct Try.underlying25 hv
  obtain ⟨e0, e1, e2, e3, rfl⟩ := array4 (hsz.trans c25)
  obtain ⟨fuel, hf⟩ := h
  obtain ⟨y0, y1, n, _, _, g0, g1⟩ := trod_struct2 Try.underlying25 hf
  obtain ⟨_, _, _, _, _, k0, k1⟩ := trod_struct2 Try.underlying23 g0
  obtain ⟨_, _, _, _, _, k2, k3⟩ := trod_struct2 Try.underlying23 g1
  obtain ⟨a, x0, _⟩ := DataW.trod_int Try.underlying3 k0
  obtain ⟨b, x1, _⟩ := DataW.trod_int Try.underlying3 k1
  obtain ⟨c, x2, _⟩ := DataW.trod_int Try.underlying3 k2
  obtain ⟨d, x3, _⟩ := DataW.trod_int Try.underlying3 k3
  simp [Value.cells, c23, c3] at x0 x1 x2 x3
  subst x0 x1 x2 x3
  exact ⟨a, b, c, d, rfl⟩
theorem below_trod {W W' : World} {t : TypeId} {v : Value} {d : DataW H} {ps : List MemPlace} (hr : Try.prog.readableRec t = true) (hrow : t < Try.prog.types.size) (h : DataW.Trod enc Try.prog W 0 (fun _ => true) true t v d ps) (hb : Below W.heap.size W W') (hlt : ∀ x ∈ ps, x.block < W.heap.size) :
    DataW.Trod enc Try.prog W' 0 (fun b => decide (b < W.heap.size)) true t v d ps := Below.trod laidOut hr hrow h hb hlt
end
theorem rvI {W : World} (x : Int) : Rv (fun i => i) (fun _ => False) W None_ (.int .i64 x) (.int .i64 x) := .int
theorem rvR {W : World} (x y : Int) : Rv (fun i => i) (fun _ => False) W None_ (.agg [.int .i64 x, .int .i64 y]) (.agg #[.int .i64 x, .int .i64 y]) :=
  .agg (vs := [.int .i64 x, .int .i64 y]) rfl fun i k1 k2 => by
    match i, k1 with
    | 0, _ => exact .int
    | 1, _ => exact .int
theorem rvV {W : World} (x y z t : Int) : Rv (fun i => i) (fun _ => False) W None_ (.agg [.int .i64 x, .int .i64 y, .int .i64 z, .int .i64 t]) (.agg #[.int .i64 x, .int .i64 y, .int .i64 z, .int .i64 t]) :=
  .agg (vs := [.int .i64 x, .int .i64 y, .int .i64 z, .int .i64 t]) rfl fun i k1 k2 => by
    match i, k1 with
    | 0, _ => exact .int
    | 1, _ => exact .int
    | 2, _ => exact .int
    | 3, _ => exact .int
end Go.Proofs.Ytekkphoingjidaa

/- IntervalOrder returns true for every input, and its arguments read as they did. No condition. -/
namespace Go.Proofs.Ytekkphoingjidaa
open Go.ChangeShapes Go.WideShapes Go.ChangeAt Go.RowKit Go.Joins Go.Evl

set_option maxRecDepth 100000 in
theorem intervalOrder_lifted (os : Os) (started : os.Started) (H : Type) (enc : TypeId × Value → H) :
    ReturnsInHanded {} Try.checked os 4 .any (Rows.intervalOrderSpec.pre6 enc Try.prog Try.f4 Rows.intervalOrderRow.domain false) (Rows.intervalOrderSpec.post enc Try.prog Try.f4 false true false false) := by
  refine returnsInHanded_of_change (C := Try.checked) own started (by kernel_rfl) Try.func4
    (ChangeSpec.witness6 (enc := enc) (C := Try.checked) false ⟨#[], #[.int .i64 0, .agg #[.int .i64 0, .int .i64 1, .int .i64 0, .int .i64 1], .agg #[.int .i64 0, .int .i64 1, .int .i64 0, .int .i64 1]], []⟩ 8 (by kernel_rfl) (by kernel_rfl) (by kernel_rfl) (by kernel_rfl)) ?_
  intro W base args ds gs before hval0 hW _ _
  have hval : ∀ (j : Nat) t v, Try.f4.params[j]? = some t → args[j]? = some v → Value.okWide Try.prog W .any base t v := hval0
  have hW' := hW
  obtain ⟨p, q, hA0, hV, rfl, hfz, hnd⟩ := hW
  have hA : DataW.TrodAll enc Try.prog W 0 (fun _ => true) true Try.f4.params.toList args.toList ds p := hA0
  rw [Try.params4] at hA hval
  obtain ⟨v0, v1, v2, d0, d1, d2, p0, p1, p2, rfl, rfl, rfl, h0, h1, h2⟩ := trodAll_three hA
  obtain ⟨rfl, rfl⟩ := trodVars_none hV
  have hlt0 : ∀ x ∈ p0, x.block < W.heap.size := fun x hx => by simpa using hW'.lt x (by simp [hx])
  have hlt1 : ∀ x ∈ p1, x.block < W.heap.size := fun x hx => by simpa using hW'.lt x (by simp [hx])
  have hlt2 : ∀ x ∈ p2, x.block < W.heap.size := fun x hx => by simpa using hW'.lt x (by simp [hx])
  obtain ⟨a0, rfl⟩ := int_form (hval 0 3 v0 rfl rfl) h0
  obtain ⟨a1, b1, c1, e1, rfl⟩ := iv_form (hval 1 25 v1 rfl rfl) h1
  obtain ⟨a2, b2, c2, e2, rfl⟩ := iv_form (hval 2 25 v2 rfl rfl) h2
  clear hA0 hval0
  have hrv : Rvs (fun i => i) (fun _ => False) W None_ [.int .i64 a0, .agg [.int .i64 a1, .int .i64 b1, .int .i64 c1, .int .i64 e1], .agg [.int .i64 a2, .int .i64 b2, .int .i64 c2, .int .i64 e2]] [.int .i64 a0, .agg #[.int .i64 a1, .int .i64 b1, .int .i64 c1, .int .i64 e1], .agg #[.int .i64 a2, .int .i64 b2, .int .i64 c2, .int .i64 e2]] := (.cons (rvI a0) (.cons (rvV a1 b1 c1 e1) (.cons (rvV a2 b2 c2 e2) .nil)))
  refine (l4_ok [.int .i64 a0, .agg [.int .i64 a1, .int .i64 b1, .int .i64 c1, .int .i64 e1], .agg [.int .i64 a2, .int .i64 b2, .int .i64 c2, .int .i64 e2]] (.ret (.bool true)) rfl (fun i => i) (fun _ => False) W [.int .i64 a0, .agg #[.int .i64 a1, .int .i64 b1, .int .i64 c1, .int .i64 e1], .agg #[.int .i64 a2, .int .i64 b2, .int .i64 c2, .int .i64 e2]] (fun _ h => h.elim) trivial hrv).mono fun e W' ⟨hbel, u, he, hu⟩ => ?_
  subst he
  rw [hu.of_bool]
  refine ⟨_, rfl, _, _, _, [], p0 ++ (p1 ++ (p2)), [], hW', ?_, ?_, rfl, hbel.frame _, fun h => by cases h⟩
  · exact trodAll_mk1 (shut_bool Try.underlying4 true)
  · exact trodAll_mk3 (below_trod (by kernel_rfl) (of_decide_eq_true (by kernel_rfl)) h0 hbel hlt0) (below_trod (by kernel_rfl) (of_decide_eq_true (by kernel_rfl)) h1 hbel hlt1) (below_trod (by kernel_rfl) (of_decide_eq_true (by kernel_rfl)) h2 hbel hlt2)
theorem intervalOrder_holds : Rows.IntervalOrderSaid :=
  OpenClaim.holds_of_wide 4 Try.f4 rfl rfl rfl rfl rfl rfl rfl ⟨rfl, rfl, rfl, rfl, rfl⟩ rfl rfl rfl rfl rfl (by kernel_rfl) Try.func4 (by kernel_rfl)
    (of_decide_eq_true (by kernel_rfl)) (by unfold Func.isWrapper; first | (rw [if_pos (by decide +kernel)]; kernel_rfl) | (rw [if_neg (by decide +kernel)]; exact ⟨rfl, rfl⟩))
    (fun os started H enc _ => intervalOrder_lifted os started H enc)
#print axioms intervalOrder_holds
end Go.Proofs.Ytekkphoingjidaa
