/- Intervals as rational intervals: Hull, Min, Max, containment. No model. Conditions: in each statement. -/
import Derived.Test.YtekkphoingjidaaCore4
/- The intervals' arithmetic, in the interval package and in the reference: contracts in merged form. Conditions: none beyond the context's. -/
namespace Go.Proofs.Ytekkphoingjidaa
open Go.Evl Go.RowKit

abbrev F2 : Type := Int × Int
def mn (p q : F2) : F2 := (loN p.1 p.2 q.1 q.2, loD p.1 p.2 q.1 q.2)
def mx (p q : F2) : F2 := (hiN p.1 p.2 q.1 q.2, hiD p.1 p.2 q.1 q.2)
def zF (e : Int) (p : F2) : F2 := if e = 0 then p else (0, 0)
def opF (k : Bool) (n m : Int) : F2 := (opN k n m, opD k n m)
def dvF (k : Bool) (a b c d : Int) : F2 := (dvA k a b c d, dvB k a b c d)
/-- the first error of two, of four -/
def bwE (k : Bool) (e1 e2 : Int) : Int := if k then (if e1 = 0 then e2 else e1) else 1
def qdE (k : Bool) (e1 e2 e3 e4 : Int) : Int := if k then (if e1 = 0 then (if e2 = 0 then (if e3 = 0 then e4 else e3) else e2) else e1) else 1
def lo4 (p q r s : F2) : F2 := mn (mn (mn p q) r) s
def hi4 (p q r s : F2) : F2 := mx (mx (mx p q) r) s
abbrev T5 (e : Int) (p q : F2) : Res := .ret (.tup [.agg [.int .i64 (zF e p).1, .int .i64 (zF e p).2, .int .i64 (zF e q).1, .int .i64 (zF e q).2], .int .i64 e])
abbrev R5 (x : Int) : Option Res := some (.ret (.tup [I4 0 0 0 0, .int .i64 x]))
abbrev RO (p q : F2) : Option Res := some (.ret (.tup [I4 p.1 p.2 q.1 q.2, .int .i64 0]))
def adE (a b c d e f g h : Int) : Int := bwE (vB a b c d e f g h) (opE (okB a b && okB e f) (a * f + e * b) (b * f)) (opE (okB c d && okB g h) (c * h + g * d) (d * h))
def adP (a b _c _d e f _g _h : Int) : F2 := opF (okB a b && okB e f) (a * f + e * b) (b * f)
def adQ (_a _b c d _e _f g h : Int) : F2 := opF (okB c d && okB g h) (c * h + g * d) (d * h)
def sbE (a b c d e f g h : Int) : Int := bwE (vB a b c d e f g h) (opE (okB a b && okB g h) (a * h - g * b) (b * h)) (opE (okB c d && okB e f) (c * f - e * d) (d * f))
def sbP (a b _c _d _e _f g h : Int) : F2 := opF (okB a b && okB g h) (a * h - g * b) (b * h)
def sbQ (_a _b c d e f _g _h : Int) : F2 := opF (okB c d && okB e f) (c * f - e * d) (d * f)
def mlE (a b c d e f g h : Int) : Int := qdE (vB a b c d e f g h) (opE (okB a b && okB e f) (a * e) (b * f)) (opE (okB a b && okB g h) (a * g) (b * h)) (opE (okB c d && okB e f) (c * e) (d * f)) (opE (okB c d && okB g h) (c * g) (d * h))
def mlP (a b c d e f g h : Int) : F2 := lo4 (opF (okB a b && okB e f) (a * e) (b * f)) (opF (okB a b && okB g h) (a * g) (b * h)) (opF (okB c d && okB e f) (c * e) (d * f)) (opF (okB c d && okB g h) (c * g) (d * h))
def mlQ (a b c d e f g h : Int) : F2 := hi4 (opF (okB a b && okB e f) (a * e) (b * f)) (opF (okB a b && okB g h) (a * g) (b * h)) (opF (okB c d && okB e f) (c * e) (d * f)) (opF (okB c d && okB g h) (c * g) (d * h))
def qoE (a b c d e f g h : Int) : Int := if vB a b c d e f g h then (if e = 0 ∧ g = 0 then 26 else if e ≤ 0 ∧ g ≥ 0 then 23 else
  qdE true (dvE (okB a b && okB e f) a b e f) (dvE (okB a b && okB g h) a b g h) (dvE (okB c d && okB e f) c d e f) (dvE (okB c d && okB g h) c d g h)) else 1
def qoP (a b c d e f g h : Int) : F2 := lo4 (dvF (okB a b && okB e f) a b e f) (dvF (okB a b && okB g h) a b g h) (dvF (okB c d && okB e f) c d e f) (dvF (okB c d && okB g h) c d g h)
def qoQ (a b c d e f g h : Int) : F2 := hi4 (dvF (okB a b && okB e f) a b e f) (dvF (okB a b && okB g h) a b g h) (dvF (okB c d && okB e f) c d e f) (dvF (okB c d && okB g h) c d g h)
def bwT (e1 e2 : Int) (r : Option Res) : Option Res := bif e1 != 0 then R5 e1 else bif e2 != 0 then R5 e2 else r
def qdT (e1 e2 e3 e4 : Int) (r : Option Res) : Option Res := bif e1 != 0 then R5 e1 else bif e2 != 0 then R5 e2 else bif e3 != 0 then R5 e3 else bif e4 != 0 then R5 e4 else r
theorem bw_run (k : Bool) (e1 e2 : Int) (p q : F2) : (bif k then bwT e1 e2 (RO p q) else R5 1) = some (T5 (bwE k e1 e2) p q) := by
  cases k with
  | false => rfl
  | true =>
    by_cases h1 : e1 = 0
    · by_cases h2 : e2 = 0
      · simp [bwT, bwE, zF, h1, h2]
      · simp [bwT, bwE, zF, h1, h2, show (e2 != 0) = true from bne_iff_ne.2 h2]
    · simp [bwT, bwE, zF, h1, show (e1 != 0) = true from bne_iff_ne.2 h1]
theorem qd_run (k : Bool) (e1 e2 e3 e4 : Int) (p q : F2) : (bif k then qdT e1 e2 e3 e4 (RO p q) else R5 1) = some (T5 (qdE k e1 e2 e3 e4) p q) := by
  cases k with
  | false => rfl
  | true =>
    by_cases h1 : e1 = 0
    · by_cases h2 : e2 = 0
      · by_cases h3 : e3 = 0
        · by_cases h4 : e4 = 0
          · simp [qdT, qdE, zF, h1, h2, h3, h4]
          · simp [qdT, qdE, zF, h1, h2, h3, h4, show (e4 != 0) = true from bne_iff_ne.2 h4]
        · simp [qdT, qdE, zF, h1, h2, h3, show (e3 != 0) = true from bne_iff_ne.2 h3]
      · simp [qdT, qdE, zF, h1, h2, show (e2 != 0) = true from bne_iff_ne.2 h2]
    · simp [qdT, qdE, zF, h1, show (e1 != 0) = true from bne_iff_ne.2 h1]
theorem lo_same (a b : Int) : loN a b a b = a ∧ loD a b a b = b := by unfold loN loD; constructor <;> split <;> rfl
theorem hi_same (a b : Int) : hiN a b a b = a ∧ hiD a b a b = b := by unfold hiN hiD; constructor <;> split <;> rfl
theorem mn_same (p : F2) : mn p p = p := by unfold mn; rw [(lo_same _ _).1, (lo_same _ _).2]
theorem mx_same (p : F2) : mx p p = p := by unfold mx; rw [(hi_same _ _).1, (hi_same _ _).2]
def i51 : Ent := ⟨51, fun
  | [.agg [.int .i64 a, .int .i64 b, .int .i64 c, .int .i64 d], .agg [.int .i64 e, .int .i64 f, .int .i64 g, .int .i64 h]] => .leaf (T5 (adE a b c d e f g h) (adP a b c d e f g h) (adQ a b c d e f g h))
  | _ => .non⟩
theorem jx51 : (mkCx Try.prog (spOf [i37, e20m]) (inlOf [80]) extD).Ok InvD := cx_of [80] (by kernel_rfl) (by
  intro p hp
  simp only [List.mem_cons, List.not_mem_nil, or_false] at hp
  rcases hp with rfl | rfl
  · exact i37_ok
  · exact e20m_ok)
theorem vtree51 (a b c d e f g h : Int) : evFn Try.prog (spOf [i37, e20m]) (inlOf [80]) extD (cKD [i37, e20m] [80]) (fun _ => .unroll 0) Try.f51 [I4 a b c d, I4 e f g h] [] (fun r _ => some r) =
    (bif vB a b c d e f g h then bwT (opE (okB a b && okB e f) (a * f + e * b) (b * f)) (opE (okB c d && okB g h) (c * h + g * d) (d * h)) (RO (adP a b c d e f g h) (adQ a b c d e f g h)) else R5 1 : Option Res) := by kernel_rfl
theorem i51_ok : SpecHolds Try.prog InvD 51 fun a => (i51.2 a).run := by
  refine specD jx51 Try.func51 (c := codeOf Try.prog 51) (by kernel_rfl) (fun _ => .unroll 0) (fun _ _ => trivial) fun args r hh => ?_
  simp only [i51] at hh
  split at hh
  · rename_i a b c d e f g h
    refine ⟨by kernel_rfl, tr_ok (by rfl) hh, ?_⟩
    refine (vtree51 a b c d e f g h).trans (Eq.trans ?_ hh)
    exact bw_run _ _ _ _ _
  · simp [Tr.run] at hh
def i53 : Ent := ⟨53, fun
  | [.agg [.int .i64 a, .int .i64 b, .int .i64 c, .int .i64 d], .agg [.int .i64 e, .int .i64 f, .int .i64 g, .int .i64 h]] => .leaf (T5 (adE a b c d e f g h) (adP a b c d e f g h) (adQ a b c d e f g h))
  | _ => .non⟩
theorem jx53 : (mkCx Try.prog (spOf [i45, e27m]) (inlOf []) extD).Ok InvD := cx_of [] (by kernel_rfl) (by
  intro p hp
  simp only [List.mem_cons, List.not_mem_nil, or_false] at hp
  rcases hp with rfl | rfl
  · exact i45_ok
  · exact e27m_ok)
theorem vtree53 (a b c d e f g h : Int) : evFn Try.prog (spOf [i45, e27m]) (inlOf []) extD (cKD [i45, e27m] []) (fun _ => .unroll 0) Try.f53 [I4 a b c d, I4 e f g h] [] (fun r _ => some r) =
    (bif vB a b c d e f g h then bwT (opE (okB a b && okB e f) (a * f + e * b) (b * f)) (opE (okB c d && okB g h) (c * h + g * d) (d * h)) (RO (adP a b c d e f g h) (adQ a b c d e f g h)) else R5 1 : Option Res) := by kernel_rfl
theorem i53_ok : SpecHolds Try.prog InvD 53 fun a => (i53.2 a).run := by
  refine specD jx53 Try.func53 (c := codeOf Try.prog 53) (by kernel_rfl) (fun _ => .unroll 0) (fun _ _ => trivial) fun args r hh => ?_
  simp only [i53] at hh
  split at hh
  · rename_i a b c d e f g h
    refine ⟨by kernel_rfl, tr_ok (by rfl) hh, ?_⟩
    refine (vtree53 a b c d e f g h).trans (Eq.trans ?_ hh)
    exact bw_run _ _ _ _ _
  · simp [Tr.run] at hh
def i52 : Ent := ⟨52, fun
  | [.agg [.int .i64 a, .int .i64 b, .int .i64 c, .int .i64 d], .agg [.int .i64 e, .int .i64 f, .int .i64 g, .int .i64 h]] => .leaf (T5 (sbE a b c d e f g h) (sbP a b c d e f g h) (sbQ a b c d e f g h))
  | _ => .non⟩
theorem jx52 : (mkCx Try.prog (spOf [i37, e22m]) (inlOf [80]) extD).Ok InvD := cx_of [80] (by kernel_rfl) (by
  intro p hp
  simp only [List.mem_cons, List.not_mem_nil, or_false] at hp
  rcases hp with rfl | rfl
  · exact i37_ok
  · exact e22m_ok)
theorem vtree52 (a b c d e f g h : Int) : evFn Try.prog (spOf [i37, e22m]) (inlOf [80]) extD (cKD [i37, e22m] [80]) (fun _ => .unroll 0) Try.f52 [I4 a b c d, I4 e f g h] [] (fun r _ => some r) =
    (bif vB a b c d e f g h then bwT (opE (okB a b && okB g h) (a * h - g * b) (b * h)) (opE (okB c d && okB e f) (c * f - e * d) (d * f)) (RO (sbP a b c d e f g h) (sbQ a b c d e f g h)) else R5 1 : Option Res) := by kernel_rfl
theorem i52_ok : SpecHolds Try.prog InvD 52 fun a => (i52.2 a).run := by
  refine specD jx52 Try.func52 (c := codeOf Try.prog 52) (by kernel_rfl) (fun _ => .unroll 0) (fun _ _ => trivial) fun args r hh => ?_
  simp only [i52] at hh
  split at hh
  · rename_i a b c d e f g h
    refine ⟨by kernel_rfl, tr_ok (by rfl) hh, ?_⟩
    refine (vtree52 a b c d e f g h).trans (Eq.trans ?_ hh)
    exact bw_run _ _ _ _ _
  · simp [Tr.run] at hh
def i54 : Ent := ⟨54, fun
  | [.agg [.int .i64 a, .int .i64 b, .int .i64 c, .int .i64 d], .agg [.int .i64 e, .int .i64 f, .int .i64 g, .int .i64 h]] => .leaf (T5 (sbE a b c d e f g h) (sbP a b c d e f g h) (sbQ a b c d e f g h))
  | _ => .non⟩
theorem jx54 : (mkCx Try.prog (spOf [i45, e28m]) (inlOf []) extD).Ok InvD := cx_of [] (by kernel_rfl) (by
  intro p hp
  simp only [List.mem_cons, List.not_mem_nil, or_false] at hp
  rcases hp with rfl | rfl
  · exact i45_ok
  · exact e28m_ok)
theorem vtree54 (a b c d e f g h : Int) : evFn Try.prog (spOf [i45, e28m]) (inlOf []) extD (cKD [i45, e28m] []) (fun _ => .unroll 0) Try.f54 [I4 a b c d, I4 e f g h] [] (fun r _ => some r) =
    (bif vB a b c d e f g h then bwT (opE (okB a b && okB g h) (a * h - g * b) (b * h)) (opE (okB c d && okB e f) (c * f - e * d) (d * f)) (RO (sbP a b c d e f g h) (sbQ a b c d e f g h)) else R5 1 : Option Res) := by kernel_rfl
theorem i54_ok : SpecHolds Try.prog InvD 54 fun a => (i54.2 a).run := by
  refine specD jx54 Try.func54 (c := codeOf Try.prog 54) (by kernel_rfl) (fun _ => .unroll 0) (fun _ _ => trivial) fun args r hh => ?_
  simp only [i54] at hh
  split at hh
  · rename_i a b c d e f g h
    refine ⟨by kernel_rfl, tr_ok (by rfl) hh, ?_⟩
    refine (vtree54 a b c d e f g h).trans (Eq.trans ?_ hh)
    exact bw_run _ _ _ _ _
  · simp [Tr.run] at hh
def i38 : Ent := ⟨38, fun
  | [.agg [.int .i64 a, .int .i64 b, .int .i64 c, .int .i64 d], .agg [.int .i64 e, .int .i64 f, .int .i64 g, .int .i64 h]] => .leaf (T5 (mlE a b c d e f g h) (mlP a b c d e f g h) (mlQ a b c d e f g h))
  | _ => .non⟩
theorem jx38 : (mkCx Try.prog (spOf [i37, e21m, i27, i43, i44]) (inlOf [70, 90, 103]) extD).Ok InvD := cx_of [70, 90, 103] (by kernel_rfl) (by
  intro p hp
  simp only [List.mem_cons, List.not_mem_nil, or_false] at hp
  rcases hp with rfl | rfl | rfl | rfl | rfl
  · exact i37_ok
  · exact e21m_ok
  · exact i27_ok
  · exact i43_ok
  · exact i44_ok)
theorem vtree38 (a b c d e f g h : Int) : evFn Try.prog (spOf [i37, e21m, i27, i43, i44]) (inlOf [70, 90, 103]) extD (cKD [i37, e21m, i27, i43, i44] [70, 90, 103]) (fun _ => .unroll 0) Try.f38 [I4 a b c d, I4 e f g h] [] (fun r _ => some r) =
    (bif vB a b c d e f g h then qdT (opE (okB a b && okB e f) (a * e) (b * f)) (opE (okB a b && okB g h) (a * g) (b * h)) (opE (okB c d && okB e f) (c * e) (d * f)) (opE (okB c d && okB g h) (c * g) (d * h)) (RO (mlP a b c d e f g h) (mlQ a b c d e f g h)) else R5 1 : Option Res) := by kernel_rfl
theorem i38_ok : SpecHolds Try.prog InvD 38 fun a => (i38.2 a).run := by
  refine specD jx38 Try.func38 (c := codeOf Try.prog 38) (by kernel_rfl) (fun _ => .unroll 0) (fun _ _ => trivial) fun args r hh => ?_
  simp only [i38] at hh
  split at hh
  · rename_i a b c d e f g h
    refine ⟨by kernel_rfl, tr_ok (by rfl) hh, ?_⟩
    refine (vtree38 a b c d e f g h).trans (Eq.trans ?_ hh)
    exact qd_run _ _ _ _ _ _ _
  · simp [Tr.run] at hh
def i55 : Ent := ⟨55, fun
  | [.agg [.int .i64 a, .int .i64 b, .int .i64 c, .int .i64 d], .agg [.int .i64 e, .int .i64 f, .int .i64 g, .int .i64 h]] => .leaf (T5 (mlE a b c d e f g h) (mlP a b c d e f g h) (mlQ a b c d e f g h))
  | _ => .non⟩
theorem jx55 : (mkCx Try.prog (spOf [i45, e29m, i28, i46]) (inlOf [82]) extD).Ok InvD := cx_of [82] (by kernel_rfl) (by
  intro p hp
  simp only [List.mem_cons, List.not_mem_nil, or_false] at hp
  rcases hp with rfl | rfl | rfl | rfl
  · exact i45_ok
  · exact e29m_ok
  · exact i28_ok
  · exact i46_ok)
theorem vtree55 (a b c d e f g h : Int) : evFn Try.prog (spOf [i45, e29m, i28, i46]) (inlOf [82]) extD (cKD [i45, e29m, i28, i46] [82]) (fun _ => .unroll 0) Try.f55 [I4 a b c d, I4 e f g h] [] (fun r _ => some r) =
    (bif vB a b c d e f g h then qdT (opE (okB a b && okB e f) (a * e) (b * f)) (opE (okB a b && okB g h) (a * g) (b * h)) (opE (okB c d && okB e f) (c * e) (d * f)) (opE (okB c d && okB g h) (c * g) (d * h)) (RO (mn (mn (mn (mn (opF (okB a b && okB e f) (a * e) (b * f)) (opF (okB a b && okB e f) (a * e) (b * f))) (opF (okB a b && okB g h) (a * g) (b * h))) (opF (okB c d && okB e f) (c * e) (d * f))) (opF (okB c d && okB g h) (c * g) (d * h))) (mx (mx (mx (mx (opF (okB a b && okB e f) (a * e) (b * f)) (opF (okB a b && okB e f) (a * e) (b * f))) (opF (okB a b && okB g h) (a * g) (b * h))) (opF (okB c d && okB e f) (c * e) (d * f))) (opF (okB c d && okB g h) (c * g) (d * h)))) else R5 1 : Option Res) := by kernel_rfl
theorem i55_ok : SpecHolds Try.prog InvD 55 fun a => (i55.2 a).run := by
  refine specD jx55 Try.func55 (c := codeOf Try.prog 55) (by kernel_rfl) (fun _ => .unroll 0) (fun _ _ => trivial) fun args r hh => ?_
  simp only [i55] at hh
  split at hh
  · rename_i a b c d e f g h
    refine ⟨by kernel_rfl, tr_ok (by rfl) hh, ?_⟩
    refine (vtree55 a b c d e f g h).trans (Eq.trans ?_ hh)
    rw [mn_same, mx_same]
    exact qd_run _ _ _ _ _ _ _
  · simp [Tr.run] at hh
theorem qo_run (k : Bool) (e g e1 e2 e3 e4 : Int) (p q : F2) : (bif k then bif e == 0 then bif g == 0 then R5 26 else bif decide (e ≤ 0) then bif decide (g ≥ 0) then R5 23 else qdT e1 e2 e3 e4 (RO p q) else qdT e1 e2 e3 e4 (RO p q)
    else bif decide (e ≤ 0) then bif decide (g ≥ 0) then R5 23 else qdT e1 e2 e3 e4 (RO p q) else qdT e1 e2 e3 e4 (RO p q) else R5 1) =
    some (T5 (if k then (if e = 0 ∧ g = 0 then 26 else if e ≤ 0 ∧ g ≥ 0 then 23 else qdE true e1 e2 e3 e4) else 1) p q) := by
  have hq := qd_run true e1 e2 e3 e4 p q
  simp only [cond_true] at hq
  rw [hq]
  cases k with
  | false => rfl
  | true =>
    by_cases h1 : e = 0
    · by_cases h2 : g = 0
      · simp [h1, h2, zF]
      · have b2 : (g == 0) = false := beq_false_of_ne h2
        by_cases h3 : g ≥ 0
        · simp [h1, h2, h3, b2, zF]
        · simp [h1, h2, h3, b2, zF]
    · have b1 : (e == 0) = false := beq_false_of_ne h1
      by_cases h2 : e ≤ 0
      · by_cases h3 : g ≥ 0
        · simp [h1, h2, h3, b1, zF]
        · simp [h1, h2, h3, b1, zF]
      · simp [h1, h2, b1, zF]
def i40 : Ent := ⟨40, fun
  | [.agg [.int .i64 a, .int .i64 b, .int .i64 c, .int .i64 d], .agg [.int .i64 e, .int .i64 f, .int .i64 g, .int .i64 h]] => .leaf (T5 (qoE a b c d e f g h) (qoP a b c d e f g h) (qoQ a b c d e f g h))
  | _ => .non⟩
theorem jx40 : (mkCx Try.prog (spOf [i37, e23m, i27, i43, i44]) (inlOf [70, 90, 103]) extD).Ok InvD := cx_of [70, 90, 103] (by kernel_rfl) (by
  intro p hp
  simp only [List.mem_cons, List.not_mem_nil, or_false] at hp
  rcases hp with rfl | rfl | rfl | rfl | rfl
  · exact i37_ok
  · exact e23m_ok
  · exact i27_ok
  · exact i43_ok
  · exact i44_ok)
theorem vtree40 (a b c d e f g h : Int) : evFn Try.prog (spOf [i37, e23m, i27, i43, i44]) (inlOf [70, 90, 103]) extD (cKD [i37, e23m, i27, i43, i44] [70, 90, 103]) (fun _ => .unroll 0) Try.f40 [I4 a b c d, I4 e f g h] [] (fun r _ => some r) =
    (bif vB a b c d e f g h then bif e == 0 then bif g == 0 then R5 26 else bif decide (e ≤ 0) then bif decide (g ≥ 0) then R5 23 else qdT (dvE (okB a b && okB e f) a b e f) (dvE (okB a b && okB g h) a b g h) (dvE (okB c d && okB e f) c d e f) (dvE (okB c d && okB g h) c d g h) (RO (qoP a b c d e f g h) (qoQ a b c d e f g h)) else qdT (dvE (okB a b && okB e f) a b e f) (dvE (okB a b && okB g h) a b g h) (dvE (okB c d && okB e f) c d e f) (dvE (okB c d && okB g h) c d g h) (RO (qoP a b c d e f g h) (qoQ a b c d e f g h)) else bif decide (e ≤ 0) then bif decide (g ≥ 0) then R5 23 else qdT (dvE (okB a b && okB e f) a b e f) (dvE (okB a b && okB g h) a b g h) (dvE (okB c d && okB e f) c d e f) (dvE (okB c d && okB g h) c d g h) (RO (qoP a b c d e f g h) (qoQ a b c d e f g h)) else qdT (dvE (okB a b && okB e f) a b e f) (dvE (okB a b && okB g h) a b g h) (dvE (okB c d && okB e f) c d e f) (dvE (okB c d && okB g h) c d g h) (RO (qoP a b c d e f g h) (qoQ a b c d e f g h)) else R5 1 : Option Res) := by kernel_rfl
theorem i40_ok : SpecHolds Try.prog InvD 40 fun a => (i40.2 a).run := by
  refine specD jx40 Try.func40 (c := codeOf Try.prog 40) (by kernel_rfl) (fun _ => .unroll 0) (fun _ _ => trivial) fun args r hh => ?_
  simp only [i40] at hh
  split at hh
  · rename_i a b c d e f g h
    refine ⟨by kernel_rfl, tr_ok (by rfl) hh, ?_⟩
    refine (vtree40 a b c d e f g h).trans (Eq.trans ?_ hh)
    exact qo_run _ _ _ _ _ _ _ _ _
  · simp [Tr.run] at hh
def i56 : Ent := ⟨56, fun
  | [.agg [.int .i64 a, .int .i64 b, .int .i64 c, .int .i64 d], .agg [.int .i64 e, .int .i64 f, .int .i64 g, .int .i64 h]] => .leaf (T5 (qoE a b c d e f g h) (qoP a b c d e f g h) (qoQ a b c d e f g h))
  | _ => .non⟩
theorem jx56 : (mkCx Try.prog (spOf [i45, e29m, e30m, i28, i46]) (inlOf [82]) extD).Ok InvD := cx_of [82] (by kernel_rfl) (by
  intro p hp
  simp only [List.mem_cons, List.not_mem_nil, or_false] at hp
  rcases hp with rfl | rfl | rfl | rfl | rfl
  · exact i45_ok
  · exact e29m_ok
  · exact e30m_ok
  · exact i28_ok
  · exact i46_ok)
theorem vtree56 (a b c d e f g h : Int) : evFn Try.prog (spOf [i45, e29m, e30m, i28, i46]) (inlOf [82]) extD (cKD [i45, e29m, e30m, i28, i46] [82]) (fun _ => .unroll 0) Try.f56 [I4 a b c d, I4 e f g h] [] (fun r _ => some r) =
    (bif vB a b c d e f g h then bif e == 0 then bif g == 0 then R5 26 else bif decide (e ≤ 0) then bif decide (g ≥ 0) then R5 23 else qdT (dvE (okB a b && okB e f) a b e f) (dvE (okB a b && okB g h) a b g h) (dvE (okB c d && okB e f) c d e f) (dvE (okB c d && okB g h) c d g h) (RO (mn (mn (mn (mn (dvF (okB a b && okB e f) a b e f) (dvF (okB a b && okB e f) a b e f)) (dvF (okB a b && okB g h) a b g h)) (dvF (okB c d && okB e f) c d e f)) (dvF (okB c d && okB g h) c d g h)) (mx (mx (mx (mx (dvF (okB a b && okB e f) a b e f) (dvF (okB a b && okB e f) a b e f)) (dvF (okB a b && okB g h) a b g h)) (dvF (okB c d && okB e f) c d e f)) (dvF (okB c d && okB g h) c d g h))) else qdT (dvE (okB a b && okB e f) a b e f) (dvE (okB a b && okB g h) a b g h) (dvE (okB c d && okB e f) c d e f) (dvE (okB c d && okB g h) c d g h) (RO (mn (mn (mn (mn (dvF (okB a b && okB e f) a b e f) (dvF (okB a b && okB e f) a b e f)) (dvF (okB a b && okB g h) a b g h)) (dvF (okB c d && okB e f) c d e f)) (dvF (okB c d && okB g h) c d g h)) (mx (mx (mx (mx (dvF (okB a b && okB e f) a b e f) (dvF (okB a b && okB e f) a b e f)) (dvF (okB a b && okB g h) a b g h)) (dvF (okB c d && okB e f) c d e f)) (dvF (okB c d && okB g h) c d g h))) else bif decide (e ≤ 0) then bif decide (g ≥ 0) then R5 23 else qdT (dvE (okB a b && okB e f) a b e f) (dvE (okB a b && okB g h) a b g h) (dvE (okB c d && okB e f) c d e f) (dvE (okB c d && okB g h) c d g h) (RO (mn (mn (mn (mn (dvF (okB a b && okB e f) a b e f) (dvF (okB a b && okB e f) a b e f)) (dvF (okB a b && okB g h) a b g h)) (dvF (okB c d && okB e f) c d e f)) (dvF (okB c d && okB g h) c d g h)) (mx (mx (mx (mx (dvF (okB a b && okB e f) a b e f) (dvF (okB a b && okB e f) a b e f)) (dvF (okB a b && okB g h) a b g h)) (dvF (okB c d && okB e f) c d e f)) (dvF (okB c d && okB g h) c d g h))) else qdT (dvE (okB a b && okB e f) a b e f) (dvE (okB a b && okB g h) a b g h) (dvE (okB c d && okB e f) c d e f) (dvE (okB c d && okB g h) c d g h) (RO (mn (mn (mn (mn (dvF (okB a b && okB e f) a b e f) (dvF (okB a b && okB e f) a b e f)) (dvF (okB a b && okB g h) a b g h)) (dvF (okB c d && okB e f) c d e f)) (dvF (okB c d && okB g h) c d g h)) (mx (mx (mx (mx (dvF (okB a b && okB e f) a b e f) (dvF (okB a b && okB e f) a b e f)) (dvF (okB a b && okB g h) a b g h)) (dvF (okB c d && okB e f) c d e f)) (dvF (okB c d && okB g h) c d g h))) else R5 1 : Option Res) := by kernel_rfl
theorem i56_ok : SpecHolds Try.prog InvD 56 fun a => (i56.2 a).run := by
  refine specD jx56 Try.func56 (c := codeOf Try.prog 56) (by kernel_rfl) (fun _ => .unroll 0) (fun _ _ => trivial) fun args r hh => ?_
  simp only [i56] at hh
  split at hh
  · rename_i a b c d e f g h
    refine ⟨by kernel_rfl, tr_ok (by rfl) hh, ?_⟩
    refine (vtree56 a b c d e f g h).trans (Eq.trans ?_ hh)
    rw [mn_same, mx_same]
    exact qo_run _ _ _ _ _ _ _ _ _
  · simp [Tr.run] at hh
end Go.Proofs.Ytekkphoingjidaa

/- Intervals as rational intervals: Hull, Min, Max, containment. No model. Conditions: in each statement. -/
namespace Go.Proofs.Ytekkphoingjidaa
open Go.Evl Go.RowKit

abbrev V4 : Type := Int × Int × Int × Int
abbrev loK (X : V4) : Rat := key X.1 X.2.1
abbrev hiK (X : V4) : Rat := key X.2.2.1 X.2.2.2
structure IV (X : V4) : Prop where
  l : okB X.1 X.2.1 = true
  h : okB X.2.2.1 X.2.2.2 = true
  o : loK X ≤ hiK X
abbrev vV (X Y : V4) : Bool := vB X.1 X.2.1 X.2.2.1 X.2.2.2 Y.1 Y.2.1 Y.2.2.1 Y.2.2.2
abbrev cnV (X Y : V4) : Bool := cnB X.1 X.2.1 X.2.2.1 X.2.2.2 Y.1 Y.2.1 Y.2.2.1 Y.2.2.2
abbrev ivV (X : V4) : Int := ivI X.1 X.2.1 X.2.2.1 X.2.2.2
def eqV (X Y : V4) : Bool := X.1 == Y.1 && (X.2.1 == Y.2.1 && true) && (X.2.2.1 == Y.2.2.1 && (X.2.2.2 == Y.2.2.2 && true) && true)
def huV (X Y : V4) : V4 := (selI (vV X Y) (loN X.1 X.2.1 Y.1 Y.2.1), selI (vV X Y) (loD X.1 X.2.1 Y.1 Y.2.1), selI (vV X Y) (hiN X.2.2.1 X.2.2.2 Y.2.2.1 Y.2.2.2), selI (vV X Y) (hiD X.2.2.1 X.2.2.2 Y.2.2.1 Y.2.2.2))
def miV (X Y : V4) : V4 := (selI (vV X Y) (loN X.1 X.2.1 Y.1 Y.2.1), selI (vV X Y) (loD X.1 X.2.1 Y.1 Y.2.1), selI (vV X Y) (loN X.2.2.1 X.2.2.2 Y.2.2.1 Y.2.2.2), selI (vV X Y) (loD X.2.2.1 X.2.2.2 Y.2.2.1 Y.2.2.2))
def maV (X Y : V4) : V4 := (selI (vV X Y) (hiN X.1 X.2.1 Y.1 Y.2.1), selI (vV X Y) (hiD X.1 X.2.1 Y.1 Y.2.1), selI (vV X Y) (hiN X.2.2.1 X.2.2.2 Y.2.2.1 Y.2.2.2), selI (vV X Y) (hiD X.2.2.1 X.2.2.2 Y.2.2.1 Y.2.2.2))
def rmin (x y : Rat) : Rat := if y < x then y else x
def rmax (x y : Rat) : Rat := if x < y then y else x

theorem IV_iff {X : V4} : ivB X.1 X.2.1 X.2.2.1 X.2.2.2 = true ↔ IV X := by
  rw [ivB_iff]
  exact ⟨fun ⟨h1, h2, h3⟩ => ⟨h1, h2, h3⟩, fun h => ⟨h.l, h.h, h.o⟩⟩
theorem vV_iff {X Y : V4} : vV X Y = true ↔ IV X ∧ IV Y := by
  show (ivB X.1 X.2.1 X.2.2.1 X.2.2.2 && ivB Y.1 Y.2.1 Y.2.2.1 Y.2.2.2) = true ↔ _
  rw [Bool.and_eq_true, IV_iff, IV_iff]
theorem ivV_zero {X : V4} : (ivV X != 0) = false ↔ IV X := by
  rw [ivI_ne, Bool.not_eq_false', IV_iff]
theorem eqV_iff {X Y : V4} : eqV X Y = true ↔ X = Y := by
  obtain ⟨a, b, c, d⟩ := X
  obtain ⟨e, f, g, h⟩ := Y
  simp only [eqV, Bool.and_true, Bool.and_eq_true, beq_iff_eq, Prod.mk.injEq]
  constructor
  · rintro ⟨⟨rfl, rfl⟩, rfl, rfl⟩; exact ⟨rfl, rfl, rfl, rfl⟩
  · rintro ⟨rfl, rfl, rfl, rfl⟩; exact ⟨⟨rfl, rfl⟩, rfl, rfl⟩
theorem IV.ext {X Y : V4} (hX : IV X) (hY : IV Y) (h1 : loK X = loK Y) (h2 : hiK X = hiK Y) : X = Y := by
  obtain ⟨a, b, c, d⟩ := X
  obtain ⟨e, f, g, h⟩ := Y
  obtain ⟨rfl, rfl⟩ := key_inj hX.l hY.l h1
  obtain ⟨rfl, rfl⟩ := key_inj hX.h hY.h h2
  rfl
theorem lo_key {a b c d : Int} (h1 : okB a b = true) (h2 : okB c d = true) : okB (loN a b c d) (loD a b c d) = true ∧ key (loN a b c d) (loD a b c d) = rmin (key a b) (key c d) := by
  unfold rmin
  rcases lo_cases h1 h2 with ⟨e1, e2, k⟩ | ⟨e1, e2, k⟩ <;> rw [e1, e2]
  · exact ⟨h1, by rw [if_neg (by grind)]⟩
  · exact ⟨h2, by rw [if_pos k]⟩
theorem hi_key {a b c d : Int} (h1 : okB a b = true) (h2 : okB c d = true) : okB (hiN a b c d) (hiD a b c d) = true ∧ key (hiN a b c d) (hiD a b c d) = rmax (key a b) (key c d) := by
  unfold rmax
  rcases hi_cases h1 h2 with ⟨e1, e2, k⟩ | ⟨e1, e2, k⟩ <;> rw [e1, e2]
  · exact ⟨h1, by rw [if_neg (by grind)]⟩
  · exact ⟨h2, by rw [if_pos k]⟩
theorem selI_true (x : Int) : selI true x = x := rfl
structure Is (Z : V4) (l h : Rat) : Prop where
  v : IV Z
  l : loK Z = l
  h : hiK Z = h
theorem Is.eq {Z Z' : V4} {l h l' h' : Rat} (k : Is Z l h) (k' : Is Z' l' h') (hl : l = l') (hh : h = h') : eqV Z Z' = true :=
  eqV_iff.2 (k.v.ext k'.v (by rw [k.l, k'.l, hl]) (by rw [k.h, k'.h, hh]))
theorem IV.is {X : V4} (h : IV X) : Is X (loK X) (hiK X) := ⟨h, rfl, rfl⟩
theorem hu_is {X Y : V4} {a b c d : Rat} (hX : Is X a b) (hY : Is Y c d) : Is (huV X Y) (rmin a c) (rmax b d) := by
  obtain ⟨hX, rfl, rfl⟩ := hX
  obtain ⟨hY, rfl, rfl⟩ := hY
  have e : huV X Y = (loN X.1 X.2.1 Y.1 Y.2.1, loD X.1 X.2.1 Y.1 Y.2.1, hiN X.2.2.1 X.2.2.2 Y.2.2.1 Y.2.2.2, hiD X.2.2.1 X.2.2.2 Y.2.2.1 Y.2.2.2) := by
    unfold huV; rw [vV_iff.2 ⟨hX, hY⟩]; rfl
  obtain ⟨l1, l2⟩ := lo_key hX.l hY.l
  obtain ⟨k1, k2⟩ := hi_key hX.h hY.h
  rw [e]
  refine ⟨⟨l1, k1, ?_⟩, l2, k2⟩
  show key _ _ ≤ key _ _
  have := hX.o
  have := hY.o
  simp only [l2, k2]
  unfold rmin rmax
  split <;> split <;> grind
theorem mi_is {X Y : V4} {a b c d : Rat} (hX : Is X a b) (hY : Is Y c d) : Is (miV X Y) (rmin a c) (rmin b d) := by
  obtain ⟨hX, rfl, rfl⟩ := hX
  obtain ⟨hY, rfl, rfl⟩ := hY
  have e : miV X Y = (loN X.1 X.2.1 Y.1 Y.2.1, loD X.1 X.2.1 Y.1 Y.2.1, loN X.2.2.1 X.2.2.2 Y.2.2.1 Y.2.2.2, loD X.2.2.1 X.2.2.2 Y.2.2.1 Y.2.2.2) := by
    unfold miV; rw [vV_iff.2 ⟨hX, hY⟩]; rfl
  obtain ⟨l1, l2⟩ := lo_key hX.l hY.l
  obtain ⟨k1, k2⟩ := lo_key hX.h hY.h
  rw [e]
  refine ⟨⟨l1, k1, ?_⟩, l2, k2⟩
  show key _ _ ≤ key _ _
  have := hX.o
  have := hY.o
  simp only [l2, k2]
  unfold rmin
  split <;> split <;> grind
theorem ma_is {X Y : V4} {a b c d : Rat} (hX : Is X a b) (hY : Is Y c d) : Is (maV X Y) (rmax a c) (rmax b d) := by
  obtain ⟨hX, rfl, rfl⟩ := hX
  obtain ⟨hY, rfl, rfl⟩ := hY
  have e : maV X Y = (hiN X.1 X.2.1 Y.1 Y.2.1, hiD X.1 X.2.1 Y.1 Y.2.1, hiN X.2.2.1 X.2.2.2 Y.2.2.1 Y.2.2.2, hiD X.2.2.1 X.2.2.2 Y.2.2.1 Y.2.2.2) := by
    unfold maV; rw [vV_iff.2 ⟨hX, hY⟩]; rfl
  obtain ⟨l1, l2⟩ := hi_key hX.l hY.l
  obtain ⟨k1, k2⟩ := hi_key hX.h hY.h
  rw [e]
  refine ⟨⟨l1, k1, ?_⟩, l2, k2⟩
  show key _ _ ≤ key _ _
  have := hX.o
  have := hY.o
  simp only [l2, k2]
  unfold rmax
  split <;> split <;> grind
theorem cnV_iff {X Y : V4} : cnV X Y = true ↔ IV X ∧ IV Y ∧ loK X ≤ loK Y ∧ hiK Y ≤ hiK X := by
  show (vV X Y && (decide (cmpR X.1 X.2.1 Y.1 Y.2.1 ≤ 0) && decide (cmpR Y.2.2.1 Y.2.2.2 X.2.2.1 X.2.2.2 ≤ 0))) = true ↔ _
  rw [Bool.and_eq_true, vV_iff]
  constructor
  · rintro ⟨⟨h1, h2⟩, h3⟩
    rw [dle h1.l h2.l, dle h2.h h1.h, Bool.and_eq_true, decide_eq_true_eq, decide_eq_true_eq] at h3
    exact ⟨h1, h2, h3.1, h3.2⟩
  · rintro ⟨h1, h2, h3, h4⟩
    refine ⟨⟨h1, h2⟩, ?_⟩
    rw [dle h1.l h2.l, dle h2.h h1.h, Bool.and_eq_true, decide_eq_true_eq, decide_eq_true_eq]
    exact ⟨h3, h4⟩
theorem rmin_comm (a b : Rat) : rmin a b = rmin b a := by unfold rmin; split <;> split <;> grind
theorem rmax_comm (a b : Rat) : rmax a b = rmax b a := by unfold rmax; split <;> split <;> grind
theorem rmin_assoc (a b c : Rat) : rmin (rmin a b) c = rmin a (rmin b c) := by unfold rmin; repeat (split <;> try grind)
theorem rmax_assoc (a b c : Rat) : rmax (rmax a b) c = rmax a (rmax b c) := by unfold rmax; repeat (split <;> try grind)
theorem rmin_self (a : Rat) : rmin a a = a := by unfold rmin; split <;> rfl
theorem rmax_self (a : Rat) : rmax a a = a := by unfold rmax; split <;> rfl
theorem rmin_le (a b : Rat) : rmin a b ≤ a ∧ rmin a b ≤ b := by unfold rmin; split <;> grind
theorem rmax_ge (a b : Rat) : a ≤ rmax a b ∧ b ≤ rmax a b := by unfold rmax; split <;> grind
theorem rmin_absorb (a b : Rat) : rmin a (rmax a b) = a := by unfold rmin rmax; split <;> (try split) <;> grind
end Go.Proofs.Ytekkphoingjidaa
