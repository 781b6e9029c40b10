/- IntervalMonotone: its loop over the operations. Conditions: none beyond the context's. -/
import Derived.Test.YtekkphoingjidaaCore5
/- The interval laws' own small functions: contracts. Conditions: none beyond the context's. -/
namespace Go.Proofs.Ytekkphoingjidaa
open Go.Evl Go.RowKit

/-- an element of an interval -/
def inB (a b c d e f : Int) : Bool := okB a b && (ivB c d e f && (decide (cmpR c d a b ≤ 0) && decide (cmpR a b e f ≤ 0)))
/-- whether a comparison holds of two fractions -/
def hoB (op n : Int) : Bool := if op = 5 then n == 0 else if op = 6 then n != 0 else if op = 7 then decide (n < 0) else if op = 8 then decide (n ≤ 0) else if op = 9 then decide (n > 0) else decide (n ≥ 0)
/-- the lesser and the greater of two fractions, by the reference's order -/
def leF (p q : F2) : F2 := if cmpR p.1 p.2 q.1 q.2 ≤ 0 then p else q
def geF (p q : F2) : F2 := if cmpR p.1 p.2 q.1 q.2 ≤ 0 then q else p
def i14 : Ent := ⟨14, fun
  | [.agg [.int .i64 a, .int .i64 b], .agg [.int .i64 c, .int .i64 d, .int .i64 e, .int .i64 f]] => .leaf (.ret (.bool (inB a b c d e f)))
  | _ => .non⟩
def i15 : Ent := ⟨15, fun
  | [.int .i64 op, .agg [.int .i64 a, .int .i64 b], .agg [.int .i64 c, .int .i64 d]] => .leaf (.ret (.bool (hoB op (cmpR a b c d))))
  | _ => .non⟩
def i33 : Ent := ⟨33, fun
  | [.agg [.int .i64 a, .int .i64 b], .agg [.int .i64 c, .int .i64 d]] => .leaf (.ret (.tup [I2 (leF (a, b) (c, d)).1 (leF (a, b) (c, d)).2, I2 (geF (a, b) (c, d)).1 (geF (a, b) (c, d)).2]))
  | _ => .non⟩
abbrev RJ (b : Bool) : Option Res := some (.ret (.bool b))
theorem jx14 : (mkCx Try.prog (spOf [e14m, i11, e31m]) (inlOf []) extD).Ok InvD := cx_of [] (by kernel_rfl) (by
  intro p hp
  simp only [List.mem_cons, List.not_mem_nil, or_false] at hp
  rcases hp with rfl | rfl | rfl
  · exact e14m_ok
  · exact i11_ok
  · exact e31m_ok)
theorem vtree14 (a b c d e f : Int) : evFn Try.prog (spOf [e14m, i11, e31m]) (inlOf []) extD (cKD [e14m, i11, e31m] []) (fun _ => .unroll 0) Try.f14 [I2 a b, I4 c d e f] [] (fun r _ => some r) =
    (bif ckI a b == 0 then bif ivI c d e f == 0 then bif decide (cmpR c d a b ≤ 0) then bif decide (cmpR a b e f ≤ 0) then RJ true else RJ false else RJ false else RJ false else RJ false) := by kernel_rfl
theorem ckI_zero {a b : Int} : (ckI a b == 0) = okB a b := by unfold ckI; cases okB a b <;> rfl
theorem i14_ok : SpecHolds Try.prog InvD 14 fun a => (i14.2 a).run := by
  refine specD jx14 Try.func14 (c := codeOf Try.prog 14) (by kernel_rfl) (fun _ => .unroll 0) (fun _ _ => trivial) fun args r hh => ?_
  simp only [i14] at hh
  split at hh
  · rename_i a b c d e f
    refine ⟨by kernel_rfl, tr_ok (by rfl) hh, ?_⟩
    refine (vtree14 a b c d e f).trans (Eq.trans ?_ hh)
    rw [ivI_zero, ckI_zero]
    unfold inB
    cases okB a b <;> cases ivB c d e f <;> cases decide (cmpR c d a b ≤ 0) <;> cases decide (cmpR a b e f ≤ 0) <;> rfl
  · simp [Tr.run] at hh
theorem jx15 : (mkCx Try.prog (spOf [e31m]) (inlOf []) extD).Ok InvD := cx_of [] (by kernel_rfl) (by
  intro p hp
  simp only [List.mem_cons, List.not_mem_nil, or_false] at hp
  rcases hp with rfl
  exact e31m_ok)
theorem vtree15 (op a b c d : Int) : evFn Try.prog (spOf [e31m]) (inlOf []) extD (cKD [e31m] []) (fun _ => .unroll 0) Try.f15 [.int .i64 op, I2 a b, I2 c d] [] (fun r _ => some r) =
    (bif op == 5 then bif cmpR a b c d == 0 then RJ true else RJ false else bif op == 6 then bif cmpR a b c d != 0 then RJ true else RJ false else bif op == 7 then bif decide (cmpR a b c d < 0) then RJ true else RJ false
    else bif op == 8 then bif decide (cmpR a b c d ≤ 0) then RJ true else RJ false else bif op == 9 then bif decide (cmpR a b c d > 0) then RJ true else RJ false else bif decide (cmpR a b c d ≥ 0) then RJ true else RJ false) := by kernel_rfl
theorem bif_rj (b : Bool) : (bif b then RJ true else RJ false) = RJ b := by cases b <;> rfl
theorem i15_ok : SpecHolds Try.prog InvD 15 fun a => (i15.2 a).run := by
  refine specD jx15 Try.func15 (c := codeOf Try.prog 15) (by kernel_rfl) (fun _ => .unroll 0) (fun _ _ => trivial) fun args r hh => ?_
  simp only [i15] at hh
  split at hh
  · rename_i op a b c d
    refine ⟨by kernel_rfl, tr_ok (by rfl) hh, ?_⟩
    refine (vtree15 op a b c d).trans (Eq.trans ?_ hh)
    simp only [bif_rj, Tr.run]
    unfold hoB
    by_cases k5 : op = 5
    · simp [k5]
    by_cases k6 : op = 6
    · simp [k6]
    by_cases k7 : op = 7
    · simp [k7]
    by_cases k8 : op = 8
    · simp [k8]
    by_cases k9 : op = 9
    · simp [k9]
    simp [k5, k6, k7, k8, k9, beq_false_of_ne]
  · simp [Tr.run] at hh
theorem vtree33 (a b c d : Int) : evFn Try.prog (spOf [e31m]) (inlOf []) extD (cKD [e31m] []) (fun _ => .unroll 0) Try.f33 [I2 a b, I2 c d] [] (fun r _ => some r) =
    (bif decide (cmpR a b c d ≤ 0) then some (.ret (.tup [I2 a b, I2 c d])) else some (.ret (.tup [I2 c d, I2 a b])) : Option Res) := by kernel_rfl
theorem i33_ok : SpecHolds Try.prog InvD 33 fun a => (i33.2 a).run := by
  refine specD jx15 Try.func33 (c := codeOf Try.prog 33) (by kernel_rfl) (fun _ => .unroll 0) (fun _ _ => trivial) fun args r hh => ?_
  simp only [i33] at hh
  split at hh
  · rename_i a b c d
    refine ⟨by kernel_rfl, tr_ok (by rfl) hh, ?_⟩
    refine (vtree33 a b c d).trans (Eq.trans ?_ hh)
    simp only [Tr.run, leF, geF]
    by_cases k : cmpR a b c d ≤ 0
    · simp only [k, if_true, decide_true, cond_true]
    · simp only [k, if_false, decide_false, cond_false]
  · simp [Tr.run] at hh
/-- an element, in keys -/
theorem inB_iff {a b : Int} {X : V4} : inB a b X.1 X.2.1 X.2.2.1 X.2.2.2 = true ↔ okB a b = true ∧ IV X ∧ loK X ≤ key a b ∧ key a b ≤ hiK X := by
  unfold inB
  rw [Bool.and_eq_true, Bool.and_eq_true, IV_iff, Bool.and_eq_true]
  constructor
  · rintro ⟨h1, h2, h3, h4⟩
    rw [dle h2.l h1, decide_eq_true_eq] at h3
    rw [dle h1 h2.h, decide_eq_true_eq] at h4
    exact ⟨h1, h2, h3, h4⟩
  · rintro ⟨h1, h2, h3, h4⟩
    refine ⟨h1, h2, ?_, ?_⟩
    · rw [dle h2.l h1, decide_eq_true_eq]; exact h3
    · rw [dle h1 h2.h, decide_eq_true_eq]; exact h4
end Go.Proofs.Ytekkphoingjidaa

/- The intervals' arithmetic as that of rational intervals. No model. Conditions: in each statement. -/
namespace Go.Proofs.Ytekkphoingjidaa
open Go.Evl Go.RowKit

/-- a valid fraction of this value -/
structure Fr (p : F2) (r : Rat) : Prop where
  v : okB p.1 p.2 = true
  k : key p.1 p.2 = r
theorem opE_z {k : Bool} {n m : Int} (h : opE k n m = 0) : k = true ∧ mkFits n m = true := by
  unfold opE at h
  cases k with
  | false => simp at h
  | true =>
    cases hf : mkFits n m with
    | false => simp [hf] at h
    | true => exact ⟨rfl, rfl⟩
theorem opE_range (k : Bool) (n m : Int) : opE k n m = 0 ∨ opE k n m = 14 ∨ opE k n m = 1 := by
  unfold opE; cases k <;> cases mkFits n m <;> simp
theorem opF_fr {k : Bool} {n m : Int} (hm : 0 < m) (h : opE k n m = 0) : Fr (opF k n m) (key n m) := by
  obtain ⟨rfl, hf⟩ := opE_z h
  have e : opF true n m = (mkN n m, mkD n m) := by unfold opF opN opD; simp [hf]
  rw [e]
  exact ⟨mk_ok hm hf, key_mk hm⟩
theorem mul_pos' {a b : Int} (ha : 0 < a) (hb : 0 < b) : 0 < a * b := Int.mul_pos ha hb
theorem add_fr {k : Bool} {a b c d : Int} (h1 : okB a b = true) (h2 : okB c d = true) (h : opE k (a * d + c * b) (b * d) = 0) : Fr (opF k (a * d + c * b) (b * d)) (key a b + key c d) := by
  rw [← key_add (okB_pos h1) (okB_pos h2)]
  exact opF_fr (mul_pos' (okB_pos h1) (okB_pos h2)) h
theorem sub_fr {k : Bool} {a b c d : Int} (h1 : okB a b = true) (h2 : okB c d = true) (h : opE k (a * d - c * b) (b * d) = 0) : Fr (opF k (a * d - c * b) (b * d)) (key a b - key c d) := by
  rw [← key_sub (okB_pos h1) (okB_pos h2)]
  exact opF_fr (mul_pos' (okB_pos h1) (okB_pos h2)) h
theorem mul_fr {k : Bool} {a b c d : Int} (h1 : okB a b = true) (h2 : okB c d = true) (h : opE k (a * c) (b * d) = 0) : Fr (opF k (a * c) (b * d)) (key a b * key c d) := by
  rw [← key_mul (okB_pos h1) (okB_pos h2)]
  exact opF_fr (mul_pos' (okB_pos h1) (okB_pos h2)) h
theorem dvM_pos {b c : Int} (hb : 0 < b) (hc : c ≠ 0) : 0 < dvM b c := by
  unfold dvM
  split
  · exact Int.mul_pos hb (by omega)
  · exact Int.mul_pos hb (by omega)
theorem key_div {a b c d : Int} (hb : 0 < b) (hd : 0 < d) (hc : c ≠ 0) : key (dvN a c d) (dvM b c) = key a b / key c d := by
  have hb' := rat_pos hb
  have hd' := rat_pos hd
  have hc' : (c : Rat) ≠ 0 := by
    intro h
    apply hc
    have : (c : Rat) = ((0 : Int) : Rat) := h
    exact Rat.intCast_inj.1 this
  unfold key dvN dvM
  split
  · simp only [Rat.intCast_mul, Rat.intCast_neg]
    grind
  · simp only [Rat.intCast_mul]
    grind
theorem dvE_zero {k : Bool} {a b c d : Int} (h : dvE k a b c d = 0) : k = true ∧ c ≠ 0 ∧ opE k (dvN a c d) (dvM b c) = 0 := by
  unfold dvE at h
  cases k with
  | false => simp [opE] at h
  | true =>
    by_cases hc : c = 0
    · simp [hc] at h
    · simp [hc] at h
      exact ⟨rfl, hc, h⟩
theorem dvE_range {k : Bool} {a b c d : Int} (hc : c ≠ 0) : dvE k a b c d = 0 ∨ dvE k a b c d = 14 ∨ dvE k a b c d = 1 := by
  have e : dvE k a b c d = opE k (dvN a c d) (dvM b c) := by unfold dvE; simp [hc]
  rw [e]; exact opE_range _ _ _
theorem div_fr {k : Bool} {a b c d : Int} (h1 : okB a b = true) (h2 : okB c d = true) (h : dvE k a b c d = 0) : Fr (dvF k a b c d) (key a b / key c d) := by
  obtain ⟨rfl, hc, h⟩ := dvE_zero h
  have e : dvF true a b c d = opF true (dvN a c d) (dvM b c) := by unfold dvF dvA dvB opF; simp [hc]
  rw [e, ← key_div (okB_pos h1) (okB_pos h2) hc]
  exact opF_fr (dvM_pos (okB_pos h1) hc) h
theorem mn_fr {p q : F2} {r s : Rat} (hp : Fr p r) (hq : Fr q s) : Fr (mn p q) (rmin r s) := by
  obtain ⟨h1, h2⟩ := lo_key hp.v hq.v
  exact ⟨h1, by rw [← hp.k, ← hq.k]; exact h2⟩
theorem mx_fr {p q : F2} {r s : Rat} (hp : Fr p r) (hq : Fr q s) : Fr (mx p q) (rmax r s) := by
  obtain ⟨h1, h2⟩ := hi_key hp.v hq.v
  exact ⟨h1, by rw [← hp.k, ← hq.k]; exact h2⟩
def r4 (p q r s : Rat) : Rat := rmin (rmin (rmin p q) r) s
def R4 (p q r s : Rat) : Rat := rmax (rmax (rmax p q) r) s
theorem lo4_fr {p q r s : F2} {x y z t : Rat} (hp : Fr p x) (hq : Fr q y) (hr : Fr r z) (hs : Fr s t) : Fr (lo4 p q r s) (r4 x y z t) := mn_fr (mn_fr (mn_fr hp hq) hr) hs
theorem hi4_fr {p q r s : F2} {x y z t : Rat} (hp : Fr p x) (hq : Fr q y) (hr : Fr r z) (hs : Fr s t) : Fr (hi4 p q r s) (R4 x y z t) := mx_fr (mx_fr (mx_fr hp hq) hr) hs
theorem r4_le (x y z t : Rat) : r4 x y z t ≤ x ∧ r4 x y z t ≤ y ∧ r4 x y z t ≤ z ∧ r4 x y z t ≤ t := by
  unfold r4
  have h1 := rmin_le (rmin (rmin x y) z) t
  have h2 := rmin_le (rmin x y) z
  have h3 := rmin_le x y
  refine ⟨?_, ?_, ?_, ?_⟩ <;> grind
theorem R4_ge (x y z t : Rat) : x ≤ R4 x y z t ∧ y ≤ R4 x y z t ∧ z ≤ R4 x y z t ∧ t ≤ R4 x y z t := by
  unfold R4
  have h1 := rmax_ge (rmax (rmax x y) z) t
  have h2 := rmax_ge (rmax x y) z
  have h3 := rmax_ge x y
  refine ⟨?_, ?_, ?_, ?_⟩ <;> grind
theorem le_rmin {a b c : Rat} (h1 : a ≤ b) (h2 : a ≤ c) : a ≤ rmin b c := by unfold rmin; split <;> assumption
theorem rmax_le {a b c : Rat} (h1 : b ≤ a) (h2 : c ≤ a) : rmax b c ≤ a := by unfold rmax; split <;> assumption
theorem le_r4 {a x y z t : Rat} (h1 : a ≤ x) (h2 : a ≤ y) (h3 : a ≤ z) (h4 : a ≤ t) : a ≤ r4 x y z t := le_rmin (le_rmin (le_rmin h1 h2) h3) h4
theorem R4_le {a x y z t : Rat} (h1 : x ≤ a) (h2 : y ≤ a) (h3 : z ≤ a) (h4 : t ≤ a) : R4 x y z t ≤ a := rmax_le (rmax_le (rmax_le h1 h2) h3) h4

/-- what an operation yields: its error, its ends -/
def rsV (e : Int) (p q : F2) : V4 := ((zF e p).1, (zF e p).2, (zF e q).1, (zF e q).2)
theorem rs_is {e : Int} {p q : F2} {l h : Rat} (he : e = 0) (hp : Fr p l) (hq : Fr q h) (hl : l ≤ h) : Is (rsV e p q) l h := by
  subst he
  refine ⟨⟨hp.v, hq.v, ?_⟩, hp.k, hq.k⟩
  show key _ _ ≤ key _ _
  have h1 := hp.k
  have h2 := hq.k
  simp only [rsV, zF, if_true]
  rw [h1, h2]; exact hl
abbrev adV (X Y : V4) : V4 := rsV (adE X.1 X.2.1 X.2.2.1 X.2.2.2 Y.1 Y.2.1 Y.2.2.1 Y.2.2.2) (adP X.1 X.2.1 X.2.2.1 X.2.2.2 Y.1 Y.2.1 Y.2.2.1 Y.2.2.2) (adQ X.1 X.2.1 X.2.2.1 X.2.2.2 Y.1 Y.2.1 Y.2.2.1 Y.2.2.2)
abbrev sbV (X Y : V4) : V4 := rsV (sbE X.1 X.2.1 X.2.2.1 X.2.2.2 Y.1 Y.2.1 Y.2.2.1 Y.2.2.2) (sbP X.1 X.2.1 X.2.2.1 X.2.2.2 Y.1 Y.2.1 Y.2.2.1 Y.2.2.2) (sbQ X.1 X.2.1 X.2.2.1 X.2.2.2 Y.1 Y.2.1 Y.2.2.1 Y.2.2.2)
abbrev mlV (X Y : V4) : V4 := rsV (mlE X.1 X.2.1 X.2.2.1 X.2.2.2 Y.1 Y.2.1 Y.2.2.1 Y.2.2.2) (mlP X.1 X.2.1 X.2.2.1 X.2.2.2 Y.1 Y.2.1 Y.2.2.1 Y.2.2.2) (mlQ X.1 X.2.1 X.2.2.1 X.2.2.2 Y.1 Y.2.1 Y.2.2.1 Y.2.2.2)
abbrev qoV (X Y : V4) : V4 := rsV (qoE X.1 X.2.1 X.2.2.1 X.2.2.2 Y.1 Y.2.1 Y.2.2.1 Y.2.2.2) (qoP X.1 X.2.1 X.2.2.1 X.2.2.2 Y.1 Y.2.1 Y.2.2.1 Y.2.2.2) (qoQ X.1 X.2.1 X.2.2.1 X.2.2.2 Y.1 Y.2.1 Y.2.2.1 Y.2.2.2)
abbrev adEV (X Y : V4) : Int := adE X.1 X.2.1 X.2.2.1 X.2.2.2 Y.1 Y.2.1 Y.2.2.1 Y.2.2.2
abbrev sbEV (X Y : V4) : Int := sbE X.1 X.2.1 X.2.2.1 X.2.2.2 Y.1 Y.2.1 Y.2.2.1 Y.2.2.2
abbrev mlEV (X Y : V4) : Int := mlE X.1 X.2.1 X.2.2.1 X.2.2.2 Y.1 Y.2.1 Y.2.2.1 Y.2.2.2
abbrev qoEV (X Y : V4) : Int := qoE X.1 X.2.1 X.2.2.1 X.2.2.2 Y.1 Y.2.1 Y.2.2.1 Y.2.2.2
theorem bwE_zero {k : Bool} {e1 e2 : Int} (h : bwE k e1 e2 = 0) : k = true ∧ e1 = 0 ∧ e2 = 0 := by
  unfold bwE at h
  cases k with
  | false => simp at h
  | true =>
    by_cases h1 : e1 = 0
    · simp [h1] at h; exact ⟨rfl, h1, h⟩
    · simp [h1] at h
theorem qdE_zero {k : Bool} {e1 e2 e3 e4 : Int} (h : qdE k e1 e2 e3 e4 = 0) : k = true ∧ e1 = 0 ∧ e2 = 0 ∧ e3 = 0 ∧ e4 = 0 := by
  unfold qdE at h
  cases k with
  | false => simp at h
  | true =>
    by_cases h1 : e1 = 0
    · by_cases h2 : e2 = 0
      · by_cases h3 : e3 = 0
        · simp [h1, h2, h3] at h; exact ⟨rfl, h1, h2, h3, h⟩
        · simp [h1, h2, h3] at h
      · simp [h1, h2] at h
    · simp [h1] at h
theorem ad_is {X Y : V4} (h : adEV X Y = 0) : IV X ∧ IV Y ∧ Is (adV X Y) (loK X + loK Y) (hiK X + hiK Y) := by
  obtain ⟨hv, h1, h2⟩ := bwE_zero h
  obtain ⟨hX, hY⟩ := vV_iff.1 hv
  refine ⟨hX, hY, rs_is h (add_fr hX.l hY.l h1) (add_fr hX.h hY.h h2) ?_⟩
  have := hX.o
  have := hY.o
  grind
theorem sb_is {X Y : V4} (h : sbEV X Y = 0) : IV X ∧ IV Y ∧ Is (sbV X Y) (loK X - hiK Y) (hiK X - loK Y) := by
  obtain ⟨hv, h1, h2⟩ := bwE_zero h
  obtain ⟨hX, hY⟩ := vV_iff.1 hv
  refine ⟨hX, hY, rs_is h (sub_fr hX.l hY.h h1) (sub_fr hX.h hY.l h2) ?_⟩
  have := hX.o
  have := hY.o
  grind
theorem ml_is {X Y : V4} (h : mlEV X Y = 0) : IV X ∧ IV Y ∧ Is (mlV X Y) (r4 (loK X * loK Y) (loK X * hiK Y) (hiK X * loK Y) (hiK X * hiK Y)) (R4 (loK X * loK Y) (loK X * hiK Y) (hiK X * loK Y) (hiK X * hiK Y)) := by
  obtain ⟨hv, h1, h2, h3, h4⟩ := qdE_zero h
  obtain ⟨hX, hY⟩ := vV_iff.1 hv
  have f1 := mul_fr hX.l hY.l h1
  have f2 := mul_fr hX.l hY.h h2
  have f3 := mul_fr hX.h hY.l h3
  have f4 := mul_fr hX.h hY.h h4
  exact ⟨hX, hY, rs_is h (lo4_fr f1 f2 f3 f4) (hi4_fr f1 f2 f3 f4) (Rat.le_trans (r4_le _ _ _ _).1 (R4_ge _ _ _ _).1)⟩
theorem key_sign {a b : Int} (hb : 0 < b) : (0 < key a b ↔ 0 < a) ∧ (key a b < 0 ↔ a < 0) := by
  have e : key 0 1 = 0 := by unfold key; grind
  constructor
  · rw [← e, key_lt (by omega) hb]; simp
  · rw [← e, key_lt hb (by omega)]; simp
theorem qo_is {X Y : V4} (h : qoEV X Y = 0) : IV X ∧ IV Y ∧ (0 < loK Y ∨ hiK Y < 0) ∧
    Is (qoV X Y) (r4 (loK X / loK Y) (loK X / hiK Y) (hiK X / loK Y) (hiK X / hiK Y)) (R4 (loK X / loK Y) (loK X / hiK Y) (hiK X / loK Y) (hiK X / hiK Y)) := by
  have h0 := h
  unfold qoEV qoE at h
  cases hv : vB X.1 X.2.1 X.2.2.1 X.2.2.2 Y.1 Y.2.1 Y.2.2.1 Y.2.2.2 with
  | false => simp [hv] at h
  | true =>
    obtain ⟨hX, hY⟩ := vV_iff.1 hv
    rw [hv] at h
    simp only [if_true] at h
    split at h
    · simp at h
    · split at h
      · simp at h
      · rename_i n1 n2
        obtain ⟨_, h1, h2, h3, h4⟩ := qdE_zero h
        have f1 := div_fr hX.l hY.l h1
        have f2 := div_fr hX.l hY.h h2
        have f3 := div_fr hX.h hY.l h3
        have f4 := div_fr hX.h hY.h h4
        refine ⟨hX, hY, ?_, rs_is h0 (lo4_fr f1 f2 f3 f4) (hi4_fr f1 f2 f3 f4) (Rat.le_trans (r4_le _ _ _ _).1 (R4_ge _ _ _ _).1)⟩
        by_cases k : Y.1 ≤ 0
        · right
          exact (key_sign (okB_pos hY.h)).2.2 (by omega)
        · left
          exact (key_sign (okB_pos hY.l)).1.2 (by omega)
/-- a product lies between those of the ends -/
theorem lin_bd {A C s t : Rat} (h1 : A ≤ s) (h2 : s ≤ C) : rmin (A * t) (C * t) ≤ s * t ∧ s * t ≤ rmax (A * t) (C * t) := by
  have hl := rmin_le (A * t) (C * t)
  have hr := rmax_ge (A * t) (C * t)
  rcases Rat.le_total (a := 0) (b := t) with ht | ht
  · have k1 : A * t ≤ s * t := Rat.mul_le_mul_of_nonneg_right h1 ht
    have k2 : s * t ≤ C * t := Rat.mul_le_mul_of_nonneg_right h2 ht
    constructor <;> grind
  · have k1 : A * (-t) ≤ s * (-t) := Rat.mul_le_mul_of_nonneg_right h1 (by grind)
    have k2 : s * (-t) ≤ C * (-t) := Rat.mul_le_mul_of_nonneg_right h2 (by grind)
    constructor <;> grind
theorem mul_bd {A C E G s t : Rat} (h1 : A ≤ s) (h2 : s ≤ C) (h3 : E ≤ t) (h4 : t ≤ G) : r4 (A * E) (A * G) (C * E) (C * G) ≤ s * t ∧ s * t ≤ R4 (A * E) (A * G) (C * E) (C * G) := by
  have b1 := lin_bd (t := t) h1 h2
  have b2 := lin_bd (t := A) h3 h4
  have b3 := lin_bd (t := C) h3 h4
  have hl := r4_le (A * E) (A * G) (C * E) (C * G)
  have hr := R4_ge (A * E) (A * G) (C * E) (C * G)
  have e1 : A * t = t * A := Rat.mul_comm _ _
  have e2 : C * t = t * C := Rat.mul_comm _ _
  have g1 : r4 (A * E) (A * G) (C * E) (C * G) ≤ rmin (E * A) (G * A) := le_rmin (by grind) (by grind)
  have g2 : r4 (A * E) (A * G) (C * E) (C * G) ≤ rmin (E * C) (G * C) := le_rmin (by grind) (by grind)
  have g3 : rmax (E * A) (G * A) ≤ R4 (A * E) (A * G) (C * E) (C * G) := rmax_le (by grind) (by grind)
  have g4 : rmax (E * C) (G * C) ≤ R4 (A * E) (A * G) (C * E) (C * G) := rmax_le (by grind) (by grind)
  have g5 : r4 (A * E) (A * G) (C * E) (C * G) ≤ rmin (A * t) (C * t) := le_rmin (by grind) (by grind)
  have g6 : rmax (A * t) (C * t) ≤ R4 (A * E) (A * G) (C * E) (C * G) := rmax_le (by grind) (by grind)
  exact ⟨Rat.le_trans g5 b1.1, Rat.le_trans b1.2 g6⟩
theorem inv_bd {E G t : Rat} (h0 : 0 < E ∨ G < 0) (h3 : E ≤ t) (h4 : t ≤ G) : G⁻¹ ≤ t⁻¹ ∧ t⁻¹ ≤ E⁻¹ := by
  have key : ∀ x y : Rat, 0 < x → x ≤ y → y⁻¹ ≤ x⁻¹ := by
    intro x y hx hxy
    have hy : 0 < y := by grind
    have i1 : 0 < x⁻¹ := Rat.inv_pos.2 hx
    have i2 : 0 < y⁻¹ := Rat.inv_pos.2 hy
    have m := Rat.mul_le_mul_of_nonneg_right hxy (Rat.le_of_lt (Rat.mul_pos i1 i2))
    have e1 : x * (x⁻¹ * y⁻¹) = y⁻¹ := by grind
    have e2 : y * (x⁻¹ * y⁻¹) = x⁻¹ := by grind
    rw [e1, e2] at m
    exact m
  rcases h0 with h0 | h0
  · exact ⟨key t G (by grind) h4, key E t h0 h3⟩
  · have k1 := key (-G) (-t) (by grind) (by grind)
    have k2 := key (-t) (-E) (by grind) (by grind)
    have n : ∀ x : Rat, (-x)⁻¹ = -x⁻¹ := by intro x; grind
    rw [n, n] at k1 k2
    constructor <;> grind
theorem div_bd {A C E G s t : Rat} (h0 : 0 < E ∨ G < 0) (h1 : A ≤ s) (h2 : s ≤ C) (h3 : E ≤ t) (h4 : t ≤ G) : r4 (A / E) (A / G) (C / E) (C / G) ≤ s / t ∧ s / t ≤ R4 (A / E) (A / G) (C / E) (C / G) := by
  obtain ⟨k1, k2⟩ := inv_bd h0 h3 h4
  have b := mul_bd h1 h2 k1 k2
  have hl := r4_le (A / E) (A / G) (C / E) (C / G)
  have hr := R4_ge (A / E) (A / G) (C / E) (C / G)
  simp only [Rat.div_def] at hl hr ⊢
  exact ⟨Rat.le_trans (le_r4 hl.2.1 hl.1 hl.2.2.2 hl.2.2.1) b.1, Rat.le_trans b.2 (R4_le hr.2.1 hr.1 hr.2.2.2 hr.2.2.1)⟩
end Go.Proofs.Ytekkphoingjidaa

/- IntervalElements: its loop over the operations. Conditions: none beyond the context's. -/
namespace Go.Proofs.Ytekkphoingjidaa
open Go.Evl Go.RowKit

theorem bool_beq0 {x : Int} : (x == 0) = decide (x = 0) := rfl
abbrev keep9 : List Nat := [4, 5, 6, 7, 27]
abbrev vs9 (i : Int) : List AV := [.ptr 0 0, .ptr 1 0, .ptr 2 0, .ptr 3 0, .int .i64 i]
abbrev hp9 (a b c d e f g h p q r s : Int) : List Ob := [.cells [.int .i64 a, .int .i64 b, .int .i64 c, .int .i64 d] 25, .cells [.int .i64 e, .int .i64 f, .int .i64 g, .int .i64 h] 25, .cells [.int .i64 p, .int .i64 q] 23, .cells [.int .i64 r, .int .i64 s] 23]
def gd9 (a b c d e f g h p q r s : Int) : Bool := inB p q a b c d && inB r s e f g h
def f9s : List AV → List Ob → Tr (Ex × List AV × List Ob)
  | [.ptr 0 0, .ptr 1 0, .ptr 2 0, .ptr 3 0, .int .i64 i], [.cells [.int .i64 a, .int .i64 b, .int .i64 c, .int .i64 d] 25, .cells [.int .i64 e, .int .i64 f, .int .i64 g, .int .i64 h] 25, .cells [.int .i64 p, .int .i64 q] 23, .cells [.int .i64 r, .int .i64 s] 23] =>
    .chk (gd9 a b c d e f g h p q r s && (decide (0 ≤ i) && decide (i ≤ 4))) (.leaf (.exit 0, vs9 4, hp9 a b c d e f g h p q r s))
  | _, _ => .non
abbrev sp9 : List Ent := [i51, i52, i38, i40, e27m, e28m, e29m, e30m, i14, i33, i16, i18, i20, iAw]
abbrev lp9 (i : Nat) : LT := bif Nat.beq i 0 then .sum keep9 f9s else .unroll 0
theorem jx9 : (mkCx Try.prog (spOf sp9) (inlOf [30, 32]) extD).Ok InvD := cx_of [30, 32] (by kernel_rfl) (by
  intro p hp
  simp only [sp9, List.mem_cons, List.not_mem_nil, or_false] at hp
  rcases hp with rfl | rfl | rfl | rfl | rfl | rfl | rfl | rfl | rfl | rfl | rfl | rfl | rfl | rfl
  · exact i51_ok
  · exact i52_ok
  · exact i38_ok
  · exact i40_ok
  · exact e27m_ok
  · exact e28m_ok
  · exact e29m_ok
  · exact e30m_ok
  · exact i14_ok
  · exact i33_ok
  · exact i16_ok
  · exact i18_ok
  · exact i20_ok
  · exact iAw_ok)
noncomputable def rd9 (i a b c d e f g h p q r s : Int) : Option (Ex × List AV × List Ob) :=
  evC (β := Ex × List AV × List Ob) Try.prog (spOf sp9) (inlOf [30, 32]) extD (cKD sp9 [30, 32]) lp9 (bodyOf Try.prog 9 0) ⟨mkF Try.f9.ntmps keep9 (vs9 i), hp9 a b c d e f g h p q r s⟩ (fun e st => (cutBack keep9 4 st).map fun q => (e, q.1, q.2))
abbrev N9 (i a b c d e f g h p q r s : Int) : Option (Ex × List AV × List Ob) := some (.normal, vs9 (i + 1), hp9 a b c d e f g h p q r s)
abbrev X9 (i a b c d e f g h p q r s : Int) : Option (Ex × List AV × List Ob) := some (.ret, vs9 i, hp9 a b c d e f g h p q r s)
def ro9 {α : Type} (e f : Int) (c : F2) (z : V4) (n x : α) : α := bif e == 0 then bif f == 0 then bif inB c.1 c.2 z.1 z.2.1 z.2.2.1 z.2.2.2 then n else x else n else n
theorem rd9_0 (a b c d e f g h p q r s : Int) : rd9 0 a b c d e f g h p q r s = ro9 (adE a b c d e f g h) (opE (okB p q && okB r s) (p * s + r * q) (q * s)) (opF (okB p q && okB r s) (p * s + r * q) (q * s)) (adV (a, b, c, d) (e, f, g, h)) (N9 0 a b c d e f g h p q r s) (X9 0 a b c d e f g h p q r s) := by kernel_rfl
theorem rd9_1 (a b c d e f g h p q r s : Int) : rd9 1 a b c d e f g h p q r s = ro9 (sbE a b c d e f g h) (opE (okB p q && okB r s) (p * s - r * q) (q * s)) (opF (okB p q && okB r s) (p * s - r * q) (q * s)) (sbV (a, b, c, d) (e, f, g, h)) (N9 1 a b c d e f g h p q r s) (X9 1 a b c d e f g h p q r s) := by kernel_rfl
theorem rd9_2 (a b c d e f g h p q r s : Int) : rd9 2 a b c d e f g h p q r s = ro9 (mlE a b c d e f g h) (opE (okB p q && okB r s) (p * r) (q * s)) (opF (okB p q && okB r s) (p * r) (q * s)) (mlV (a, b, c, d) (e, f, g, h)) (N9 2 a b c d e f g h p q r s) (X9 2 a b c d e f g h p q r s) := by kernel_rfl
def en9 {α : Type} (e f : Int) (n x : α) : α := bif e == 0 then bif f == 26 then x else n else n
theorem rd9_3 (a b c d e f g h p q r s : Int) : rd9 3 a b c d e f g h p q r s =
    (bif qoE a b c d e f g h == 0 then bif dvE (okB p q && okB r s) p q r s == 0 then
      bif inB (dvF (okB p q && okB r s) p q r s).1 (dvF (okB p q && okB r s) p q r s).2 (qoV (a, b, c, d) (e, f, g, h)).1 (qoV (a, b, c, d) (e, f, g, h)).2.1 (qoV (a, b, c, d) (e, f, g, h)).2.2.1 (qoV (a, b, c, d) (e, f, g, h)).2.2.2 then
        en9 (qoE a b c d e f g h) (dvE (okB p q && okB r s) p q r s) (N9 3 a b c d e f g h p q r s) (X9 3 a b c d e f g h p q r s)
      else X9 3 a b c d e f g h p q r s
    else en9 (qoE a b c d e f g h) (dvE (okB p q && okB r s) p q r s) (N9 3 a b c d e f g h p q r s) (X9 3 a b c d e f g h p q r s)
    else en9 (qoE a b c d e f g h) (dvE (okB p q && okB r s) p q r s) (N9 3 a b c d e f g h p q r s) (X9 3 a b c d e f g h p q r s)) := by kernel_rfl
theorem rd9_4 (a b c d e f g h p q r s : Int) : rd9 4 a b c d e f g h p q r s = some (.exit 0, vs9 4, hp9 a b c d e f g h p q r s) := by kernel_rfl
theorem inV {c : F2} {x l h : Rat} {z : V4} (hc : Fr c x) (hz : Is z l h) (h1 : l ≤ x) (h2 : x ≤ h) : inB c.1 c.2 z.1 z.2.1 z.2.2.1 z.2.2.2 = true :=
  inB_iff.2 ⟨hc.v, hz.v, by rw [hz.l, hc.k]; exact h1, by rw [hz.h, hc.k]; exact h2⟩
theorem ro9_eq {α : Type} {e f : Int} {c : F2} {z : V4} {n x : α} (h : e = 0 → f = 0 → inB c.1 c.2 z.1 z.2.1 z.2.2.1 z.2.2.2 = true) : ro9 e f c z n x = n := by
  unfold ro9
  by_cases h1 : e = 0
  · by_cases h2 : f = 0
    · rw [h h1 h2]; cases e == 0 <;> cases f == 0 <;> rfl
    · rw [show (f == 0) = false from beq_false_of_ne h2]; cases e == 0 <;> rfl
  · rw [show (e == 0) = false from beq_false_of_ne h1]; rfl
section
variable {a b c d e f g h p q r s : Int}
theorem gd9_iff : gd9 a b c d e f g h p q r s = true ↔ (okB p q = true ∧ IV (a, b, c, d) ∧ loK (a, b, c, d) ≤ key p q ∧ key p q ≤ hiK (a, b, c, d)) ∧ (okB r s = true ∧ IV (e, f, g, h) ∧ loK (e, f, g, h) ≤ key r s ∧ key r s ≤ hiK (e, f, g, h)) := by
  unfold gd9
  rw [Bool.and_eq_true]
  exact and_congr (inB_iff (X := (a, b, c, d))) (inB_iff (X := (e, f, g, h)))
theorem st9_0 (hg : gd9 a b c d e f g h p q r s = true) : rd9 0 a b c d e f g h p q r s = N9 0 a b c d e f g h p q r s := by
  obtain ⟨⟨k1, k2, k3, k4⟩, k5, k6, k7, k8⟩ := gd9_iff.1 hg
  rw [rd9_0]
  refine ro9_eq fun h1 h2 => ?_
  obtain ⟨_, _, hz⟩ := ad_is (X := (a, b, c, d)) (Y := (e, f, g, h)) h1
  exact inV (add_fr k1 k5 h2) hz (by grind) (by grind)
theorem st9_1 (hg : gd9 a b c d e f g h p q r s = true) : rd9 1 a b c d e f g h p q r s = N9 1 a b c d e f g h p q r s := by
  obtain ⟨⟨k1, k2, k3, k4⟩, k5, k6, k7, k8⟩ := gd9_iff.1 hg
  rw [rd9_1]
  refine ro9_eq fun h1 h2 => ?_
  obtain ⟨_, _, hz⟩ := sb_is (X := (a, b, c, d)) (Y := (e, f, g, h)) h1
  exact inV (sub_fr k1 k5 h2) hz (by grind) (by grind)
theorem st9_2 (hg : gd9 a b c d e f g h p q r s = true) : rd9 2 a b c d e f g h p q r s = N9 2 a b c d e f g h p q r s := by
  obtain ⟨⟨k1, k2, k3, k4⟩, k5, k6, k7, k8⟩ := gd9_iff.1 hg
  rw [rd9_2]
  refine ro9_eq fun h1 h2 => ?_
  obtain ⟨_, _, hz⟩ := ml_is (X := (a, b, c, d)) (Y := (e, f, g, h)) h1
  have := mul_bd k3 k4 k7 k8
  exact inV (mul_fr k1 k5 h2) hz this.1 this.2
theorem st9_3 (hg : gd9 a b c d e f g h p q r s = true) : rd9 3 a b c d e f g h p q r s = N9 3 a b c d e f g h p q r s := by
  obtain ⟨⟨k1, k2, k3, k4⟩, k5, k6, k7, k8⟩ := gd9_iff.1 hg
  rw [rd9_3]
  by_cases h1 : qoE a b c d e f g h = 0
  · obtain ⟨_, _, h0, hz⟩ := qo_is (X := (a, b, c, d)) (Y := (e, f, g, h)) h1
    have hr : r ≠ 0 := by
      intro hr0
      have k0 : key r s = 0 := by rw [hr0]; unfold key; grind
      rcases h0 with h0 | h0 <;> grind
    have n26 : (dvE (okB p q && okB r s) p q r s == 26) = false := by
      rcases dvE_range (k := okB p q && okB r s) (a := p) (b := q) (d := s) hr with h | h | h <;> rw [h] <;> rfl
    have e9 : en9 (qoE a b c d e f g h) (dvE (okB p q && okB r s) p q r s) (N9 3 a b c d e f g h p q r s) (X9 3 a b c d e f g h p q r s) = N9 3 a b c d e f g h p q r s := by
      unfold en9; rw [n26]; cases qoE a b c d e f g h == 0 <;> rfl
    rw [e9]
    by_cases h2 : dvE (okB p q && okB r s) p q r s = 0
    · have := div_bd h0 k3 k4 k7 k8
      rw [inV (div_fr k1 k5 h2) hz this.1 this.2]
      cases qoE a b c d e f g h == 0 <;> cases dvE (okB p q && okB r s) p q r s == 0 <;> rfl
    · rw [show (dvE (okB p q && okB r s) p q r s == 0) = false from beq_false_of_ne h2]
      cases qoE a b c d e f g h == 0 <;> rfl
  · unfold en9
    rw [show (qoE a b c d e f g h == 0) = false from beq_false_of_ne h1]
    rfl
end
theorem sum9 : LoopOkT Try.prog (spOf sp9) (inlOf [30, 32]) extD (cKD sp9 [30, 32]) lp9 Try.f9.ntmps (bodyOf Try.prog 9 0) (.sum keep9 f9s) := by
  dsimp only [LoopOkT]
  refine ⟨by decide, by decide, fun vs _ => match vs with | [_, _, _, _, .int _ i] => (4 - i).toNat | _ => 0, fun vs H R hv hR => ?_⟩
  unfold f9s at hR
  split at hR
  · rename_i i a b c d e f g h p q r s
    cases hc : (gd9 a b c d e f g h p q r s && (decide (0 ≤ i) && decide (i ≤ 4))) with
    | false => rw [hc] at hR; simp [Tr.run] at hR
    | true =>
      rw [hc] at hR
      simp only [Tr.run, cond_true, Option.some.injEq] at hR
      subst hR
      rw [Bool.and_eq_true, Bool.and_eq_true, decide_eq_true_eq, decide_eq_true_eq] at hc
      obtain ⟨hg, h0, h4⟩ := hc
      have stp : ∀ j : Int, 0 ≤ j → j < 4 → rd9 j a b c d e f g h p q r s = N9 j a b c d e f g h p q r s → ∃ e1 vs1 H1, rd9 j a b c d e f g h p q r s = some (e1, vs1, H1) ∧ match e1 with
          | .normal => (f9s vs1 H1).run = some (.exit 0, vs9 4, hp9 a b c d e f g h p q r s) ∧ (match vs1 with | [_, _, _, _, .int _ i] => (4 - i).toNat | _ => 0) < (4 - j).toNat
          | ex => (Ex.exit 0, vs9 4, hp9 a b c d e f g h p q r s) = (ex, vs1, H1) := by
        intro j j0 j4 hs
        refine ⟨_, _, _, hs, ?_, ?_⟩
        · simp only [f9s]
          rw [hg, decide_eq_true (show 0 ≤ j + 1 by omega), decide_eq_true (show j + 1 ≤ 4 by omega)]
          rfl
        · show (4 - (j + 1)).toNat < (4 - j).toNat
          omega
      have cs : i = 0 ∨ i = 1 ∨ i = 2 ∨ i = 3 ∨ i = 4 := by omega
      rcases cs with rfl | rfl | rfl | rfl | rfl
      · exact stp 0 (by omega) (by omega) (st9_0 hg)
      · exact stp 1 (by omega) (by omega) (st9_1 hg)
      · exact stp 2 (by omega) (by omega) (st9_2 hg)
      · exact stp 3 (by omega) (by omega) (st9_3 hg)
      · exact ⟨_, _, _, rd9_4 a b c d e f g h p q r s, rfl⟩
  · simp [Tr.run] at hR
end Go.Proofs.Ytekkphoingjidaa

/- IntervalMonotone: its loop over the operations. Conditions: none beyond the context's. -/
namespace Go.Proofs.Ytekkphoingjidaa
open Go.Evl Go.RowKit

abbrev keep10 : List Nat := [4, 5, 6, 7, 25]
abbrev ob4 (X : V4) : Ob := .cells [.int .i64 X.1, .int .i64 X.2.1, .int .i64 X.2.2.1, .int .i64 X.2.2.2] 25
abbrev hp10 (X Y U W : V4) : List Ob := [ob4 X, ob4 Y, ob4 U, ob4 W]
def gd10 (X Y U W : V4) : Bool := cnV X U && cnV Y W
def f10s : List AV → List Ob → Tr (Ex × List AV × List Ob)
  | [.ptr 0 0, .ptr 1 0, .ptr 2 0, .ptr 3 0, .int .i64 i], [.cells [.int .i64 a, .int .i64 b, .int .i64 c, .int .i64 d] 25, .cells [.int .i64 e, .int .i64 f, .int .i64 g, .int .i64 h] 25, .cells [.int .i64 k, .int .i64 l, .int .i64 m, .int .i64 n] 25, .cells [.int .i64 p, .int .i64 q, .int .i64 r, .int .i64 s] 25] =>
    .chk (gd10 (a, b, c, d) (e, f, g, h) (k, l, m, n) (p, q, r, s) && (decide (0 ≤ i) && decide (i ≤ 4))) (.leaf (.exit 0, vs9 4, hp10 (a, b, c, d) (e, f, g, h) (k, l, m, n) (p, q, r, s)))
  | _, _ => .non
abbrev sp10 : List Ent := [i51, i52, i38, i40, i23, i16, i18, i20, iAw]
abbrev lp10 (i : Nat) : LT := bif Nat.beq i 0 then .sum keep10 f10s else .unroll 0
theorem jx10 : (mkCx Try.prog (spOf sp10) (inlOf [30]) extD).Ok InvD := cx_of [30] (by kernel_rfl) (by
  intro p hp
  simp only [sp10, List.mem_cons, List.not_mem_nil, or_false] at hp
  rcases hp with rfl | rfl | rfl | rfl | rfl | rfl | rfl | rfl | rfl
  · exact i51_ok
  · exact i52_ok
  · exact i38_ok
  · exact i40_ok
  · exact i23_ok
  · exact i16_ok
  · exact i18_ok
  · exact i20_ok
  · exact iAw_ok)
noncomputable def rd10 (i : Int) (X Y U W : V4) : Option (Ex × List AV × List Ob) :=
  evC (β := Ex × List AV × List Ob) Try.prog (spOf sp10) (inlOf [30]) extD (cKD sp10 [30]) lp10 (bodyOf Try.prog 10 0) ⟨mkF Try.f10.ntmps keep10 (vs9 i), hp10 X Y U W⟩ (fun e st => (cutBack keep10 4 st).map fun q => (e, q.1, q.2))
abbrev N10 (i : Int) (X Y U W : V4) : Option (Ex × List AV × List Ob) := some (.normal, vs9 (i + 1), hp10 X Y U W)
abbrev X10 (i : Int) (X Y U W : V4) : Option (Ex × List AV × List Ob) := some (.ret, vs9 i, hp10 X Y U W)
def en10 {α : Type} (e f : Int) (n x : α) : α := bif e == 0 then bif f == 26 then x else bif f == 23 then x else n else n
def ro10 {α : Type} (e f : Int) (z t : V4) (n x : α) : α := bif e == 0 then bif f == 0 then bif cnV z t then en10 e f n x else x else en10 e f n x else en10 e f n x
section
variable (a b c d e f g h k l m n p q r s : Int)
theorem rd10_0 : rd10 0 (a, b, c, d) (e, f, g, h) (k, l, m, n) (p, q, r, s) = ro10 (adEV (a, b, c, d) (e, f, g, h)) (adEV (k, l, m, n) (p, q, r, s)) (adV (a, b, c, d) (e, f, g, h)) (adV (k, l, m, n) (p, q, r, s)) (N10 0 (a, b, c, d) (e, f, g, h) (k, l, m, n) (p, q, r, s)) (X10 0 (a, b, c, d) (e, f, g, h) (k, l, m, n) (p, q, r, s)) := by kernel_rfl
theorem rd10_1 : rd10 1 (a, b, c, d) (e, f, g, h) (k, l, m, n) (p, q, r, s) = ro10 (sbEV (a, b, c, d) (e, f, g, h)) (sbEV (k, l, m, n) (p, q, r, s)) (sbV (a, b, c, d) (e, f, g, h)) (sbV (k, l, m, n) (p, q, r, s)) (N10 1 (a, b, c, d) (e, f, g, h) (k, l, m, n) (p, q, r, s)) (X10 1 (a, b, c, d) (e, f, g, h) (k, l, m, n) (p, q, r, s)) := by kernel_rfl
theorem rd10_2 : rd10 2 (a, b, c, d) (e, f, g, h) (k, l, m, n) (p, q, r, s) = ro10 (mlEV (a, b, c, d) (e, f, g, h)) (mlEV (k, l, m, n) (p, q, r, s)) (mlV (a, b, c, d) (e, f, g, h)) (mlV (k, l, m, n) (p, q, r, s)) (N10 2 (a, b, c, d) (e, f, g, h) (k, l, m, n) (p, q, r, s)) (X10 2 (a, b, c, d) (e, f, g, h) (k, l, m, n) (p, q, r, s)) := by kernel_rfl
theorem rd10_3 : rd10 3 (a, b, c, d) (e, f, g, h) (k, l, m, n) (p, q, r, s) = ro10 (qoEV (a, b, c, d) (e, f, g, h)) (qoEV (k, l, m, n) (p, q, r, s)) (qoV (a, b, c, d) (e, f, g, h)) (qoV (k, l, m, n) (p, q, r, s)) (N10 3 (a, b, c, d) (e, f, g, h) (k, l, m, n) (p, q, r, s)) (X10 3 (a, b, c, d) (e, f, g, h) (k, l, m, n) (p, q, r, s)) := by kernel_rfl
theorem rd10_4 : rd10 4 (a, b, c, d) (e, f, g, h) (k, l, m, n) (p, q, r, s) = some (.exit 0, vs9 4, hp10 (a, b, c, d) (e, f, g, h) (k, l, m, n) (p, q, r, s)) := by kernel_rfl
end
theorem ro10_eq {α : Type} {e f : Int} {z t : V4} {n x : α} (h : e = 0 → f = 0 → cnV z t = true) (h2 : e = 0 → f ≠ 26 ∧ f ≠ 23) : ro10 e f z t n x = n := by
  have he : en10 e f n x = n := by
    unfold en10
    by_cases h1 : e = 0
    · rw [show (f == 26) = false from beq_false_of_ne (h2 h1).1, show (f == 23) = false from beq_false_of_ne (h2 h1).2]
      cases e == 0 <;> rfl
    · rw [show (e == 0) = false from beq_false_of_ne h1]; rfl
  unfold ro10
  rw [he]
  by_cases h1 : e = 0
  · by_cases h3 : f = 0
    · rw [h h1 h3]; cases e == 0 <;> cases f == 0 <;> rfl
    · rw [show (f == 0) = false from beq_false_of_ne h3]; cases e == 0 <;> rfl
  · rw [show (e == 0) = false from beq_false_of_ne h1]; rfl
theorem bwE_range (k : Bool) {e1 e2 : Int} (h1 : e1 = 0 ∨ e1 = 14 ∨ e1 = 1) (h2 : e2 = 0 ∨ e2 = 14 ∨ e2 = 1) : bwE k e1 e2 ≠ 26 ∧ bwE k e1 e2 ≠ 23 := by
  unfold bwE
  split
  · split <;> omega
  · omega
theorem qdE_range (k : Bool) {e1 e2 e3 e4 : Int} (h1 : e1 = 0 ∨ e1 = 14 ∨ e1 = 1) (h2 : e2 = 0 ∨ e2 = 14 ∨ e2 = 1) (h3 : e3 = 0 ∨ e3 = 14 ∨ e3 = 1) (h4 : e4 = 0 ∨ e4 = 14 ∨ e4 = 1) : qdE k e1 e2 e3 e4 ≠ 26 ∧ qdE k e1 e2 e3 e4 ≠ 23 := by
  unfold qdE
  split
  · split
    · split
      · split <;> omega
      · omega
    · omega
  · omega
theorem qoE_range {X Y : V4} (hY : IV X → IV Y → 0 < loK Y ∨ hiK Y < 0) : qoEV X Y ≠ 26 ∧ qoEV X Y ≠ 23 := by
  unfold qoEV qoE
  cases hv : vB X.1 X.2.1 X.2.2.1 X.2.2.2 Y.1 Y.2.1 Y.2.2.1 Y.2.2.2 with
  | false => simp
  | true =>
    obtain ⟨hX, hY'⟩ := vV_iff.1 hv
    have s1 := key_sign (a := Y.1) (okB_pos hY'.l)
    have s2 := key_sign (a := Y.2.2.1) (okB_pos hY'.h)
    have ho := hY'.o
    have hs : (0 < Y.1 ∧ 0 < Y.2.2.1) ∨ (Y.1 < 0 ∧ Y.2.2.1 < 0) := by
      rcases hY hX hY' with h | h
      · left
        exact ⟨s1.1.1 h, s2.1.1 (by grind)⟩
      · right
        exact ⟨s1.2.1 (by grind), s2.2.1 h⟩
    simp only [if_true]
    rw [if_neg (by omega), if_neg (by omega)]
    exact qdE_range true (dvE_range (by omega)) (dvE_range (by omega)) (dvE_range (by omega)) (dvE_range (by omega))
theorem cn_is {X Y : V4} {a b c d : Rat} (hX : Is X a b) (hY : Is Y c d) (h1 : a ≤ c) (h2 : d ≤ b) : cnV X Y = true :=
  cnV_iff.2 ⟨hX.v, hY.v, by rw [hX.l, hY.l]; exact h1, by rw [hX.h, hY.h]; exact h2⟩
theorem gd10_iff {X Y U W : V4} : gd10 X Y U W = true ↔ (IV X ∧ IV U ∧ loK X ≤ loK U ∧ hiK U ≤ hiK X) ∧ (IV Y ∧ IV W ∧ loK Y ≤ loK W ∧ hiK W ≤ hiK Y) := by
  unfold gd10
  rw [Bool.and_eq_true, cnV_iff, cnV_iff]
theorem st10_0 {X Y U W : V4} (hg : gd10 X Y U W = true) : rd10 0 X Y U W = N10 0 X Y U W := by
  obtain ⟨⟨k1, k2, k3, k4⟩, k5, k6, k7, k8⟩ := gd10_iff.1 hg
  rw [show rd10 0 X Y U W = _ from rd10_0 ..]
  refine ro10_eq (fun h1 h2 => ?_) fun _ => bwE_range _ (opE_range _ _ _) (opE_range _ _ _)
  obtain ⟨_, _, z1⟩ := ad_is h1
  obtain ⟨_, _, z2⟩ := ad_is h2
  exact cn_is z1 z2 (by grind) (by grind)
theorem st10_1 {X Y U W : V4} (hg : gd10 X Y U W = true) : rd10 1 X Y U W = N10 1 X Y U W := by
  obtain ⟨⟨k1, k2, k3, k4⟩, k5, k6, k7, k8⟩ := gd10_iff.1 hg
  rw [show rd10 1 X Y U W = _ from rd10_1 ..]
  refine ro10_eq (fun h1 h2 => ?_) fun _ => bwE_range _ (opE_range _ _ _) (opE_range _ _ _)
  obtain ⟨_, _, z1⟩ := sb_is h1
  obtain ⟨_, _, z2⟩ := sb_is h2
  exact cn_is z1 z2 (by grind) (by grind)
theorem st10_2 {X Y U W : V4} (hg : gd10 X Y U W = true) : rd10 2 X Y U W = N10 2 X Y U W := by
  obtain ⟨⟨k1, k2, k3, k4⟩, k5, k6, k7, k8⟩ := gd10_iff.1 hg
  rw [show rd10 2 X Y U W = _ from rd10_2 ..]
  refine ro10_eq (fun h1 h2 => ?_) fun _ => qdE_range _ (opE_range _ _ _) (opE_range _ _ _) (opE_range _ _ _) (opE_range _ _ _)
  obtain ⟨_, _, z1⟩ := ml_is h1
  obtain ⟨_, _, z2⟩ := ml_is h2
  have oU := k2.o
  have oW := k6.o
  have b1 := mul_bd (A := loK X) (C := hiK X) (E := loK Y) (G := hiK Y) k3 (show loK U ≤ hiK X by grind) k7 (show loK W ≤ hiK Y by grind)
  have b2 := mul_bd (A := loK X) (C := hiK X) (E := loK Y) (G := hiK Y) k3 (show loK U ≤ hiK X by grind) (show loK Y ≤ hiK W by grind) k8
  have b3 := mul_bd (A := loK X) (C := hiK X) (E := loK Y) (G := hiK Y) (show loK X ≤ hiK U by grind) k4 k7 (show loK W ≤ hiK Y by grind)
  have b4 := mul_bd (A := loK X) (C := hiK X) (E := loK Y) (G := hiK Y) (show loK X ≤ hiK U by grind) k4 (show loK Y ≤ hiK W by grind) k8
  exact cn_is z1 z2 (le_r4 b1.1 b2.1 b3.1 b4.1) (R4_le b1.2 b2.2 b3.2 b4.2)
theorem st10_3 {X Y U W : V4} (hg : gd10 X Y U W = true) : rd10 3 X Y U W = N10 3 X Y U W := by
  obtain ⟨⟨k1, k2, k3, k4⟩, k5, k6, k7, k8⟩ := gd10_iff.1 hg
  rw [show rd10 3 X Y U W = _ from rd10_3 ..]
  have oU := k2.o
  have oW := k6.o
  refine ro10_eq (fun h1 h2 => ?_) fun h1 => ?_
  · obtain ⟨_, _, h0, z1⟩ := qo_is h1
    obtain ⟨_, _, _, z2⟩ := qo_is h2
    have b1 := div_bd (A := loK X) (C := hiK X) (E := loK Y) (G := hiK Y) h0 k3 (show loK U ≤ hiK X by grind) k7 (show loK W ≤ hiK Y by grind)
    have b2 := div_bd (A := loK X) (C := hiK X) (E := loK Y) (G := hiK Y) h0 k3 (show loK U ≤ hiK X by grind) (show loK Y ≤ hiK W by grind) k8
    have b3 := div_bd (A := loK X) (C := hiK X) (E := loK Y) (G := hiK Y) h0 (show loK X ≤ hiK U by grind) k4 k7 (show loK W ≤ hiK Y by grind)
    have b4 := div_bd (A := loK X) (C := hiK X) (E := loK Y) (G := hiK Y) h0 (show loK X ≤ hiK U by grind) k4 (show loK Y ≤ hiK W by grind) k8
    exact cn_is z1 z2 (le_r4 b1.1 b2.1 b3.1 b4.1) (R4_le b1.2 b2.2 b3.2 b4.2)
  · obtain ⟨_, _, h0, _⟩ := qo_is h1
    refine qoE_range fun _ _ => ?_
    rcases h0 with h0 | h0
    · left; grind
    · right; grind
theorem sum10 : LoopOkT Try.prog (spOf sp10) (inlOf [30]) extD (cKD sp10 [30]) lp10 Try.f10.ntmps (bodyOf Try.prog 10 0) (.sum keep10 f10s) := by
  dsimp only [LoopOkT]
  refine ⟨by decide, by decide, fun vs _ => match vs with | [_, _, _, _, .int _ i] => (4 - i).toNat | _ => 0, fun vs H R hv hR => ?_⟩
  unfold f10s at hR
  split at hR
  · rename_i i a b c d e f g h k l m n p q r s
    cases hc : (gd10 (a, b, c, d) (e, f, g, h) (k, l, m, n) (p, q, r, s) && (decide (0 ≤ i) && decide (i ≤ 4))) with
    | false => rw [hc] at hR; simp [Tr.run] at hR
    | true =>
      rw [hc] at hR
      simp only [Tr.run, cond_true, Option.some.injEq] at hR
      subst hR
      rw [Bool.and_eq_true, Bool.and_eq_true, decide_eq_true_eq, decide_eq_true_eq] at hc
      obtain ⟨hg, h0, h4⟩ := hc
      have stp : ∀ j : Int, 0 ≤ j → j < 4 → rd10 j (a, b, c, d) (e, f, g, h) (k, l, m, n) (p, q, r, s) = N10 j (a, b, c, d) (e, f, g, h) (k, l, m, n) (p, q, r, s) → ∃ e1 vs1 H1, rd10 j (a, b, c, d) (e, f, g, h) (k, l, m, n) (p, q, r, s) = some (e1, vs1, H1) ∧ match e1 with
          | .normal => (f10s vs1 H1).run = some (.exit 0, vs9 4, hp10 (a, b, c, d) (e, f, g, h) (k, l, m, n) (p, q, r, s)) ∧ (match vs1 with | [_, _, _, _, .int _ i] => (4 - i).toNat | _ => 0) < (4 - j).toNat
          | ex => (Ex.exit 0, vs9 4, hp10 (a, b, c, d) (e, f, g, h) (k, l, m, n) (p, q, r, s)) = (ex, vs1, H1) := by
        intro j j0 j4 hs
        refine ⟨_, _, _, hs, ?_, ?_⟩
        · simp only [f10s]
          rw [hg, decide_eq_true (show 0 ≤ j + 1 by omega), decide_eq_true (show j + 1 ≤ 4 by omega)]
          rfl
        · show (4 - (j + 1)).toNat < (4 - j).toNat
          omega
      have cs : i = 0 ∨ i = 1 ∨ i = 2 ∨ i = 3 ∨ i = 4 := by omega
      rcases cs with rfl | rfl | rfl | rfl | rfl
      · exact stp 0 (by omega) (by omega) (st10_0 hg)
      · exact stp 1 (by omega) (by omega) (st10_1 hg)
      · exact stp 2 (by omega) (by omega) (st10_2 hg)
      · exact stp 3 (by omega) (by omega) (st10_3 hg)
      · exact ⟨_, _, _, rd10_4 a b c d e f g h k l m n p q r s, rfl⟩
  · simp [Tr.run] at hR
end Go.Proofs.Ytekkphoingjidaa
