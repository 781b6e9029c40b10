/- SamplingPriority returns true for every input, and its arguments read as they did. No condition. -/
import Derived.Test.YtebiafgcnmnacaaCore5
/- Counting in residues; sums of equal weights. No model. Conditions: in each statement. -/
namespace Go.Proofs.Ytebiafgcnmnacaa
open Go.Evl Go.RowKit

def tB (all part a : Int) : Int := if a % all < part then 1 else 0
def ctI (all part a : Int) : Nat → Int
  | 0 => 0
  | n + 1 => ctI all part a n + tB all part (a + n)
theorem tB_range (all part a : Int) : 0 ≤ tB all part a ∧ tB all part a ≤ 1 := by unfold tB; split <;> omega
theorem ctI_range (all part a : Int) (n : Nat) : 0 ≤ ctI all part a n ∧ ctI all part a n ≤ n := by
  induction n with
  | zero => simp [ctI]
  | succ n ih => have := tB_range all part (a + n); simp only [ctI]; omega
theorem ct_shift (all part a : Int) (n : Nat) : ctI all part (a + 1) n + tB all part a = ctI all part a n + tB all part (a + n) := by
  induction n with
  | zero => simp [ctI]
  | succ n ih =>
    simp only [ctI]
    have e : a + 1 + (n : Int) = a + ((n + 1 : Nat) : Int) := by omega
    rw [e]; omega
theorem ct_period {all part a : Int} (h : 0 < all) : ctI all part (a + 1) all.toNat = ctI all part a all.toNat := by
  have := ct_shift all part a all.toNat
  have e : tB all part (a + all.toNat) = tB all part a := by
    unfold tB
    have : (all.toNat : Int) = all := by omega
    rw [this, Int.add_emod_right]
  omega
theorem ct_base {all part : Int} (h0 : 0 ≤ part) : ∀ n : Nat, (n : Int) ≤ all → ctI all part 0 n = if (n : Int) ≤ part then (n : Int) else part := by
  intro n
  induction n with
  | zero => intro _; simp [ctI, h0]
  | succ n ih =>
    intro h
    simp only [ctI, ih (by omega), tB]
    rw [Int.zero_add, Int.emod_eq_of_lt (by omega) (by omega)]
    by_cases k : (n : Int) < part
    · rw [if_pos k, if_pos (by omega), if_pos (by omega)]; omega
    · rw [if_neg k]
      by_cases k2 : (n : Int) ≤ part
      · rw [if_pos k2, if_neg (by omega)]; omega
      · rw [if_neg k2, if_neg (by omega)]; omega
theorem ct_full {all part : Int} (h : 0 < all) (h0 : 0 ≤ part) (h1 : part ≤ all) : ∀ a : Nat, ctI all part a all.toNat = part := by
  intro a
  induction a with
  | zero =>
    have := ct_base (all := all) h0 all.toNat (by omega)
    rw [show ((0 : Nat) : Int) = 0 from rfl, this]
    split <;> omega
  | succ a ih =>
    have := ct_period (part := part) (a := (a : Int)) h
    rw [show ((a + 1 : Nat) : Int) = (a : Int) + 1 by omega, this, ih]

/-- c times the weight of a part of a whole -/
def sN (all part c : Int) : Int := if part = 0 then 0 else mkN (c * all) part
def sD (all part c : Int) : Int := if part = 0 then 1 else mkD (c * all) part
theorem fits_small {n m : Int} (hm : 0 < m) (h0 : 0 ≤ n) (h1 : n ≤ 1152921504606846976) (h2 : m ≤ 1152921504606846976) : mkFits n m = true := by
  obtain ⟨a0, a1⟩ := mkA_range (a := n) (show m ≠ 0 by omega)
  obtain ⟨d0, d1⟩ := mkD_range (a := n) (show m ≠ 0 by omega)
  have e1 : absI n = n := by rw [absI_eq]; omega
  have e2 : absI m = m := by rw [absI_eq]; omega
  unfold mkFits
  rw [Bool.and_eq_true, decide_eq_true_eq, decide_eq_true_eq]
  omega
theorem ok01 : okB 0 1 = true := by rw [okB_iff]; simp
/-- a fraction reduced stays -/
theorem mk_same {a b : Int} (h : okB a b = true) : mkN a b = a ∧ mkD a b = b ∧ mkFits a b = true := by
  obtain ⟨b1, b2, a1, a2, g⟩ := okB_iff.1 h
  obtain ⟨e1, e2⟩ := mk_unique (n := a) (m := b) (a := a) (b := b) (by omega) (by omega) g rfl
  refine ⟨e1, e2, ?_⟩
  unfold mkFits
  rw [mkA_of (by omega), e1, e2, absI_eq, Bool.and_eq_true, decide_eq_true_eq, decide_eq_true_eq]
  omega
theorem op_mk {n m : Int} (hf : mkFits n m = true) : opN true n m = mkN n m ∧ opD true n m = mkD n m ∧ opE true n m = 0 := by simp [opN, opD, opE, hf]
section
variable {all part c : Int} (ha : 1 ≤ all ∧ all ≤ 1000) (hp : 0 ≤ part ∧ part ≤ all) (hc : 0 ≤ c ∧ c ≤ 1000)
theorem s_prod (ha : 1 ≤ all ∧ all ≤ 1000) (hc : 0 ≤ c ∧ c ≤ 1000) : 0 ≤ c * all ∧ c * all ≤ 1000000 := by
  have h1 : 0 ≤ c * all := Int.mul_nonneg hc.1 (by omega)
  have h2 : c * all ≤ 1000 * 1000 := Int.mul_le_mul hc.2 ha.2 (by omega) (by omega)
  exact ⟨h1, by omega⟩
theorem s_ok (ha : 1 ≤ all ∧ all ≤ 1000) (hp : 0 ≤ part ∧ part ≤ all) (hc : 0 ≤ c ∧ c ≤ 1000) : okB (sN all part c) (sD all part c) = true := by
  unfold sN sD
  by_cases h : part = 0
  · rw [if_pos h, if_pos h]; exact ok01
  · rw [if_neg h, if_neg h]
    obtain ⟨q1, q2⟩ := s_prod ha hc
    exact mk_ok (by omega) (fits_small (by omega) (by omega) (by omega) (by omega))
/-- the weight of what is not kept adds nothing -/
theorem add_zero {a b : Int} (h : okB a b = true) : opN (okB a b && okB 0 1) (a * 1 + 0 * b) (b * 1) = a ∧ opD (okB a b && okB 0 1) (a * 1 + 0 * b) (b * 1) = b ∧ opE (okB a b && okB 0 1) (a * 1 + 0 * b) (b * 1) = 0 := by
  have e1 : a * 1 + 0 * b = a := by omega
  have e2 : b * 1 = b := by omega
  obtain ⟨m1, m2, m3⟩ := mk_same h
  rw [h, ok01, e1, e2, Bool.and_self]
  obtain ⟨o1, o2, o3⟩ := op_mk m3
  exact ⟨o1.trans m1, o2.trans m2, o3⟩
theorem add_weight (ha : 1 ≤ all ∧ all ≤ 1000) (hp : 1 ≤ part ∧ part ≤ all) (hc : 0 ≤ c ∧ c < 1000) :
    opN (okB (sN all part c) (sD all part c) && okB (mkN all part) (mkD all part)) (sN all part c * mkD all part + mkN all part * sD all part c) (sD all part c * mkD all part) = sN all part (c + 1) ∧
    opD (okB (sN all part c) (sD all part c) && okB (mkN all part) (mkD all part)) (sN all part c * mkD all part + mkN all part * sD all part c) (sD all part c * mkD all part) = sD all part (c + 1) ∧
    opE (okB (sN all part c) (sD all part c) && okB (mkN all part) (mkD all part)) (sN all part c * mkD all part + mkN all part * sD all part c) (sD all part c * mkD all part) = 0 := by
  have h1 : okB (sN all part c) (sD all part c) = true := s_ok ha ⟨by omega, hp.2⟩ ⟨by omega, by omega⟩
  have h2 : okB (mkN all part) (mkD all part) = true := mk_ok (by omega) (fits_small (by omega) (by omega) (by omega) (by omega))
  rw [h1, h2, Bool.and_self]
  have hp0 : part ≠ 0 := by omega
  have es : sN all part c = mkN (c * all) part ∧ sD all part c = mkD (c * all) part := by unfold sN sD; simp [hp0]
  have es' : sN all part (c + 1) = mkN ((c + 1) * all) part ∧ sD all part (c + 1) = mkD ((c + 1) * all) part := by unfold sN sD; simp [hp0]
  have v1 := mk_val (n := c * all) (m := part) (by omega)
  have v2 := mk_val (n := all) (m := part) (by omega)
  have p1 := mkD_pos (n := c * all) (m := part) (by omega)
  have p2 := mkD_pos (n := all) (m := part) (by omega)
  rw [es.1, es.2, es'.1, es'.2]
  generalize mkN (c * all) part = x at *
  generalize mkD (c * all) part = y at *
  generalize mkN all part = z at *
  generalize mkD all part = w at *
  have hm : 0 < y * w := Int.mul_pos p1 p2
  have hv : (x * w + z * y) * part = (c + 1) * all * (y * w) := by grind
  obtain ⟨q1, q2⟩ := s_prod ha (c := c + 1) ⟨by omega, by omega⟩
  obtain ⟨c1, c2⟩ := mk_congr hm (show 0 < part by omega) hv
  have hf : mkFits (x * w + z * y) (y * w) = true := by
    rw [mkFits_congr hm (show 0 < part by omega) hv]
    exact fits_small (by omega) (by omega) (by omega) (by omega)
  obtain ⟨o1, o2, o3⟩ := op_mk hf
  exact ⟨o1.trans c1, o2.trans c2, o3⟩
end
theorem s_full {all part : Int} (ha : 1 ≤ all) (hp : 1 ≤ part) : sN all part part = all ∧ sD all part part = 1 := by
  have hp0 : part ≠ 0 := by omega
  unfold sN sD
  rw [if_neg hp0, if_neg hp0]
  exact mk_unique (by omega) (by omega) (Nat.gcd_one_right _) (by rw [Int.mul_one, Int.mul_comm])
end Go.Proofs.Ytebiafgcnmnacaa

/- Fractions reduced: sums, differences, products by their values. No model. Conditions: in each statement. -/
namespace Go.Proofs.Ytebiafgcnmnacaa
open Go.Evl Go.RowKit

abbrev F2 : Type := Int × Int
def red (P Q : Int) : F2 := (mkN P Q, mkD P Q)
def opF (k : Bool) (n m : Int) : F2 := (opN k n m, opD k n m)
def aF (p q : F2) : F2 := opF (okB p.1 p.2 && okB q.1 q.2) (p.1 * q.2 + q.1 * p.2) (p.2 * q.2)
def aE (p q : F2) : Int := opE (okB p.1 p.2 && okB q.1 q.2) (p.1 * q.2 + q.1 * p.2) (p.2 * q.2)
def sF (p q : F2) : F2 := opF (okB p.1 p.2 && okB q.1 q.2) (p.1 * q.2 - q.1 * p.2) (p.2 * q.2)
def sE (p q : F2) : Int := opE (okB p.1 p.2 && okB q.1 q.2) (p.1 * q.2 - q.1 * p.2) (p.2 * q.2)
def mF (p q : F2) : F2 := opF (okB p.1 p.2 && okB q.1 q.2) (p.1 * q.1) (p.2 * q.2)
def mE (p q : F2) : Int := opE (okB p.1 p.2 && okB q.1 q.2) (p.1 * q.1) (p.2 * q.2)
theorem fits_abs {n m : Int} (hm : 0 < m) (h0 : -1152921504606846976 ≤ n) (h1 : n ≤ 1152921504606846976) (h2 : m ≤ 1152921504606846976) : mkFits n m = true := by
  obtain ⟨a0, a1⟩ := mkA_range (a := n) (show m ≠ 0 by omega)
  obtain ⟨d0, d1⟩ := mkD_range (a := n) (show m ≠ 0 by omega)
  have e1 : absI n ≤ 1152921504606846976 := by rw [absI_eq]; omega
  have e2 : absI m = m := by rw [absI_eq]; omega
  unfold mkFits
  rw [Bool.and_eq_true, decide_eq_true_eq, decide_eq_true_eq]
  omega
/-- a fraction of two numbers that are not too great -/
structure Fit (P Q : Int) : Prop where
  p : 0 < Q
  f : mkFits P Q = true
theorem Fit.ok {P Q : Int} (h : Fit P Q) : okB (red P Q).1 (red P Q).2 = true := mk_ok h.p h.f
theorem red_one (s : Int) (h0 : -1152921504606846976 ≤ s) (h1 : s ≤ 1152921504606846976) : red s 1 = (s, 1) ∧ Fit s 1 := by
  have hf : mkFits s 1 = true := fits_abs (by omega) h0 h1 (by omega)
  refine ⟨?_, by omega, hf⟩
  obtain ⟨e1, e2⟩ := mk_unique (n := s) (m := 1) (a := s) (b := 1) (by omega) (by omega) (Nat.gcd_one_right _) rfl
  unfold red; rw [e1, e2]
theorem op_red {n m P Q : Int} (hm : 0 < m) (h : Fit P Q) (hv : n * Q = P * m) : opF true n m = red P Q ∧ opE true n m = 0 := by
  obtain ⟨c1, c2⟩ := mk_congr hm h.p hv
  have hf : mkFits n m = true := by rw [mkFits_congr hm h.p hv]; exact h.f
  obtain ⟨o1, o2, o3⟩ := op_mk hf
  refine ⟨?_, o3⟩
  unfold opF red
  rw [o1, o2, c1, c2]
section
variable {P Q P' Q' R S : Int}
theorem a_red (h : Fit P Q) (h' : Fit P' Q') (h'' : Fit R S) (hv : (P * Q' + P' * Q) * S = R * (Q * Q')) : aF (red P Q) (red P' Q') = red R S ∧ aE (red P Q) (red P' Q') = 0 := by
  unfold aF aE
  rw [h.ok, h'.ok, Bool.and_self]
  have v1 := mk_val (n := P) (m := Q) h.p
  have v2 := mk_val (n := P') (m := Q') h'.p
  have p1 := mkD_pos (n := P) (m := Q) h.p
  have p2 := mkD_pos (n := P') (m := Q') h'.p
  have q1 := h.p
  have q2 := h'.p
  refine op_red (Int.mul_pos p1 p2) h'' ?_
  simp only [red]
  generalize mkN P Q = n at *
  generalize mkD P Q = d at *
  generalize mkN P' Q' = n' at *
  generalize mkD P' Q' = d' at *
  refine Int.eq_of_mul_eq_mul_right (show Q * Q' ≠ 0 from Int.ne_of_gt (Int.mul_pos q1 q2)) ?_
  grind
theorem s_red (h : Fit P Q) (h' : Fit P' Q') (h'' : Fit R S) (hv : (P * Q' - P' * Q) * S = R * (Q * Q')) : sF (red P Q) (red P' Q') = red R S ∧ sE (red P Q) (red P' Q') = 0 := by
  unfold sF sE
  rw [h.ok, h'.ok, Bool.and_self]
  have v1 := mk_val (n := P) (m := Q) h.p
  have v2 := mk_val (n := P') (m := Q') h'.p
  have p1 := mkD_pos (n := P) (m := Q) h.p
  have p2 := mkD_pos (n := P') (m := Q') h'.p
  have q1 := h.p
  have q2 := h'.p
  refine op_red (Int.mul_pos p1 p2) h'' ?_
  simp only [red]
  generalize mkN P Q = n at *
  generalize mkD P Q = d at *
  generalize mkN P' Q' = n' at *
  generalize mkD P' Q' = d' at *
  refine Int.eq_of_mul_eq_mul_right (show Q * Q' ≠ 0 from Int.ne_of_gt (Int.mul_pos q1 q2)) ?_
  grind
theorem m_red (h : Fit P Q) (h' : Fit P' Q') (h'' : Fit R S) (hv : P * P' * S = R * (Q * Q')) : mF (red P Q) (red P' Q') = red R S ∧ mE (red P Q) (red P' Q') = 0 := by
  unfold mF mE
  rw [h.ok, h'.ok, Bool.and_self]
  have v1 := mk_val (n := P) (m := Q) h.p
  have v2 := mk_val (n := P') (m := Q') h'.p
  have p1 := mkD_pos (n := P) (m := Q) h.p
  have p2 := mkD_pos (n := P') (m := Q') h'.p
  have q1 := h.p
  have q2 := h'.p
  refine op_red (Int.mul_pos p1 p2) h'' ?_
  simp only [red]
  generalize mkN P Q = n at *
  generalize mkD P Q = d at *
  generalize mkN P' Q' = n' at *
  generalize mkD P' Q' = d' at *
  refine Int.eq_of_mul_eq_mul_right (show Q * Q' ≠ 0 from Int.ne_of_gt (Int.mul_pos q1 q2)) ?_
  grind
/-- the same value is the same fraction -/
theorem red_same (h : Fit P Q) (h' : Fit R S) (hv : P * S = R * Q) : red P Q = red R S := by
  obtain ⟨c1, c2⟩ := mk_congr h.p h'.p hv
  unfold red; rw [c1, c2]
end
end Go.Proofs.Ytebiafgcnmnacaa

/- Variance, of one size and of two: contracts. Conditions: none beyond the context's. -/
namespace Go.Proofs.Ytebiafgcnmnacaa
open Go.Evl Go.RowKit

def gd5 (s t n : Int) : Bool := decide (1 ≤ n ∧ n ≤ 40 ∧ 1 ≤ s ∧ s ≤ 1048576 ∧ 1 ≤ t ∧ t ≤ 1099511627776)
def mk1 (x0 : Int) (r : Nat → List AV) : Nat → List AV
  | 0 => [.int .i64 x0]
  | n + 1 => r n
def mk2 (x0 x1 : Int) (r : Nat → List AV) : Nat → List AV
  | 0 => [.int .i64 x0]
  | 1 => [.int .i64 x1]
  | n + 2 => r n
theorem mk1_eq {el : Nat → List AV} {x : Int} (h : el 0 = [.int .i64 x]) : el = mk1 x fun n => el (n + 1) := by
  funext n
  match n with
  | 0 => exact h
  | n + 1 => rfl
theorem mk2_eq {el : Nat → List AV} {x y : Int} (h : el 0 = [.int .i64 x]) (h1 : el 1 = [.int .i64 y]) : el = mk2 x y fun n => el (n + 2) := by
  funext n
  match n with
  | 0 => exact h
  | 1 => exact h1
  | n + 2 => rfl
/-- the variance of one size: its numerator before it is reduced -/
def vaN (s t n : Int) : Int := s * s * (n - kcI s t n)
def v2N (s u t n : Int) : Int := vaN s t n * kcI u t n + vaN u t n * kcI s t n
def i17 : Ent := ⟨17, fun
  | [.isl 1 1 el, .int .i64 t, .int .i64 n] => match el 0 with
    | [.int .i64 s] => .chk (gd5 s t n) (.leaf (.ret (.tup [.agg [.int .i64 (mkN (vaN s t n) (kcI s t n)), .int .i64 (mkD (vaN s t n) (kcI s t n))], .int .i64 0])))
    | _ => .non
  | [.isl 2 1 el, .int .i64 t, .int .i64 n] => match el 0, el 1 with
    | [.int .i64 s], [.int .i64 u] => .chk (gd5 s t n && gd5 u t n) (.leaf (.ret (.tup [.agg [.int .i64 (mkN (v2N s u t n) (kcI s t n * kcI u t n)), .int .i64 (mkD (v2N s u t n) (kcI s t n * kcI u t n))], .int .i64 0])))
    | _, _ => .non
  | _ => .non⟩
abbrev RQ (x y e : Int) : Option Res := some (.ret (.tup [.agg [.int .i64 x, .int .i64 y], .int .i64 e]))
def vaW (s t n : Int) : Int := IntKind.i64.wrap (IntKind.i64.wrap (s * s) * IntKind.i64.wrap (n - kcI s t n))
/-- one size more -/
def vaT (s t n : Int) (p : F2) (k : F2 → Option Res) : Option Res :=
  bif s == 0 then k p else bif prB s t n then bif inI (vaW s t n) && inI (kcI s t n) then bif mkE (vaW s t n) (kcI s t n) != 0 then RQ 0 0 (mkE (vaW s t n) (kcI s t n))
    else bif aE p (mkX (vaW s t n) (kcI s t n), mkY (vaW s t n) (kcI s t n)) != 0 then RQ 0 0 (aE p (mkX (vaW s t n) (kcI s t n), mkY (vaW s t n) (kcI s t n))) else k (aF p (mkX (vaW s t n) (kcI s t n), mkY (vaW s t n) (kcI s t n)))
    else none else none
theorem sx17 : (mkCx Try.prog (spOf [i29, i30, i31, i32, e20m]) (inlOf []) extD).Ok InvD := cx_of [] (by kernel_rfl) (by
  intro p hp
  simp only [List.mem_cons, List.not_mem_nil, or_false] at hp
  rcases hp with rfl | rfl | rfl | rfl | rfl
  · exact i29_ok
  · exact i30_ok
  · exact i31_ok
  · exact i32_ok
  · exact e20m_ok)
theorem vt17a (s t n : Int) (r : Nat → List AV) : evFn Try.prog (spOf [i29, i30, i31, i32, e20m]) (inlOf []) extD (cKD [i29, i30, i31, i32, e20m] []) (fun _ => .unroll 3) Try.f17 [.isl 1 1 (mk1 s r), .int .i64 t, .int .i64 n] [] (fun r _ => some r) =
    (bif prB 0 t n then bif prB s t n then bif decide (s > 1048576) then RQ 0 0 1 else vaT s t n (0, 1) fun p => RQ p.1 p.2 0 else RQ 0 0 2 else RQ 0 0 2 : Option Res) := by kernel_rfl
theorem vt17b (s u t n : Int) (r : Nat → List AV) : evFn Try.prog (spOf [i29, i30, i31, i32, e20m]) (inlOf []) extD (cKD [i29, i30, i31, i32, e20m] []) (fun _ => .unroll 3) Try.f17 [.isl 2 1 (mk2 s u r), .int .i64 t, .int .i64 n] [] (fun r _ => some r) =
    (bif prB 0 t n then bif prB s t n then bif decide (s > 1048576) then RQ 0 0 1 else bif prB u t n then bif decide (u > 1048576) then RQ 0 0 1 else vaT s t n (0, 1) fun p => vaT u t n p fun p => RQ p.1 p.2 0 else RQ 0 0 2 else RQ 0 0 2 else RQ 0 0 2 : Option Res) := by kernel_rfl
theorem gd5_iff {s t n : Int} : gd5 s t n = true ↔ 1 ≤ n ∧ n ≤ 40 ∧ 1 ≤ s ∧ s ≤ 1048576 ∧ 1 ≤ t ∧ t ≤ 1099511627776 := by simp only [gd5, decide_eq_true_eq]
theorem gd5_pr {s t n : Int} (h : gd5 s t n = true) : prB s t n = true ∧ prB 0 t n = true := by
  have := gd5_iff.1 h
  exact ⟨prB_iff.2 (by omega), prB_iff.2 (by omega)⟩
theorem kc_pos {s t n : Int} (h : gd5 s t n = true) : 1 ≤ kcI s t n ∧ kcI s t n ≤ n := by
  have hg := gd5_iff.1 h
  obtain ⟨hp, _⟩ := gd5_pr h
  have h1 := (kcI_lt (k := 0) hp).2 ⟨by omega, by rw [Int.zero_mul]; exact Int.mul_pos (by omega) (by omega)⟩
  exact ⟨by omega, (kcI_range hp).2⟩
theorem va_range {s t n : Int} (h : gd5 s t n = true) : 0 ≤ vaN s t n ∧ vaN s t n ≤ 43980465111040 ∧ vaW s t n = vaN s t n := by
  have hg := gd5_iff.1 h
  obtain ⟨k1, k2⟩ := kc_pos h
  have p1 : 0 ≤ s * s := Int.mul_nonneg (by omega) (by omega)
  have p2 : s * s ≤ 1048576 * 1048576 := Int.mul_le_mul (by omega) (by omega) (by omega) (by omega)
  have p3 : 0 ≤ s * s * (n - kcI s t n) := Int.mul_nonneg p1 (by omega)
  have p4 : s * s * (n - kcI s t n) ≤ 1048576 * 1048576 * 40 := Int.mul_le_mul p2 (by omega) (by omega) (by omega)
  refine ⟨p3, by unfold vaN; omega, ?_⟩
  unfold vaW vaN
  rw [wrapI (x := s * s) (by omega) (by omega), wrapI (x := n - kcI s t n) (by omega) (by omega), wrapI (by omega) (by omega)]
theorem va_fit {s t n : Int} (h : gd5 s t n = true) : Fit (vaN s t n) (kcI s t n) := by
  obtain ⟨v1, v2, _⟩ := va_range h
  obtain ⟨k1, k2⟩ := kc_pos h
  have hg := gd5_iff.1 h
  exact ⟨by omega, fits_abs (by omega) (by omega) (by omega) (by omega)⟩
theorem fit01 : Fit 0 1 ∧ red 0 1 = (0, 1) := by
  obtain ⟨e, f⟩ := red_one 0 (by omega) (by omega)
  exact ⟨f, e⟩
theorem vaT_eq {s t n : Int} (h : gd5 s t n = true) {P Q R S : Int} (hp : Fit P Q) (hr : Fit R S) (hv : (P * kcI s t n + vaN s t n * Q) * S = R * (Q * kcI s t n)) (k : F2 → Option Res) : vaT s t n (red P Q) k = k (red R S) := by
  obtain ⟨v1, v2, vw⟩ := va_range h
  obtain ⟨k1, k2⟩ := kc_pos h
  have hg := gd5_iff.1 h
  have hf := va_fit h
  have he : mkE (vaN s t n) (kcI s t n) = 0 := by simp [mkE, hf.f]; omega
  have ex : (mkX (vaN s t n) (kcI s t n), mkY (vaN s t n) (kcI s t n)) = red (vaN s t n) (kcI s t n) := by simp [mkX, mkY, he, red]
  obtain ⟨a1, a2⟩ := a_red hp hf hr hv
  unfold vaT
  rw [vw, ex, he, a1, a2, (gd5_pr h).1, inI_of (by omega) (by omega), inI_of (by omega) (by omega), show (s == 0) = false from beq_false_of_ne (by omega)]
  rfl
theorem v2_fit {s u t n : Int} (h : gd5 s t n = true) (h' : gd5 u t n = true) : Fit (v2N s u t n) (kcI s t n * kcI u t n) := by
  obtain ⟨v1, v2, _⟩ := va_range h
  obtain ⟨k1, k2⟩ := kc_pos h
  obtain ⟨w1, w2, _⟩ := va_range h'
  obtain ⟨l1, l2⟩ := kc_pos h'
  have hg := gd5_iff.1 h
  have p0 : 0 < kcI s t n * kcI u t n := Int.mul_pos (by omega) (by omega)
  have p1 : kcI s t n * kcI u t n ≤ 40 * 40 := Int.mul_le_mul (by omega) (by omega) (by omega) (by omega)
  have p2 : 0 ≤ vaN s t n * kcI u t n := Int.mul_nonneg v1 (by omega)
  have p3 : vaN s t n * kcI u t n ≤ 43980465111040 * 40 := Int.mul_le_mul (by omega) (by omega) (by omega) (by omega)
  have p4 : 0 ≤ vaN u t n * kcI s t n := Int.mul_nonneg w1 (by omega)
  have p5 : vaN u t n * kcI s t n ≤ 43980465111040 * 40 := Int.mul_le_mul (by omega) (by omega) (by omega) (by omega)
  exact ⟨p0, fits_abs (by omega) (by unfold v2N; omega) (by unfold v2N; omega) (by omega)⟩
theorem i17_ok : SpecHolds Try.prog InvD 17 fun a => (i17.2 a).run := by
  refine specD sx17 Try.func17 (c := codeOf Try.prog 17) (by kernel_rfl) (fun _ => .unroll 3) (fun _ _ => trivial) fun args r hh => ?_
  simp only [i17] at hh
  split at hh
  · rename_i el t n
    split at hh
    · rename_i s hs
      obtain ⟨hg, hh⟩ := chk_run hh
      refine ⟨by kernel_rfl, tr_ok (by rfl) hh, ?_⟩
      rw [mk1_eq hs]
      refine (vt17a s t n _).trans (Eq.trans ?_ hh)
      have hg' := gd5_iff.1 hg
      rw [(gd5_pr hg).1, (gd5_pr hg).2, decide_eq_false (show ¬ s > 1048576 by omega), ← fit01.2, vaT_eq hg fit01.1 (va_fit hg) (by grind)]
      rfl
    · simp [Tr.run] at hh
  · rename_i el t n
    split at hh
    · rename_i s u hs hu
      obtain ⟨hg, hh⟩ := chk_run hh
      rw [Bool.and_eq_true] at hg
      refine ⟨by kernel_rfl, tr_ok (by rfl) hh, ?_⟩
      rw [mk2_eq hs hu]
      refine (vt17b s u t n _).trans (Eq.trans ?_ hh)
      have hg' := gd5_iff.1 hg.1
      have hg2 := gd5_iff.1 hg.2
      rw [(gd5_pr hg.1).1, (gd5_pr hg.1).2, (gd5_pr hg.2).1, decide_eq_false (show ¬ s > 1048576 by omega), decide_eq_false (show ¬ u > 1048576 by omega), ← fit01.2, vaT_eq hg.1 fit01.1 (va_fit hg.1) (by grind),
        vaT_eq hg.2 (va_fit hg.1) (v2_fit hg.1 hg.2) (by unfold v2N; grind)]
      rfl
    · simp [Tr.run] at hh
  · simp [Tr.run] at hh
end Go.Proofs.Ytebiafgcnmnacaa

/- SamplingPriority: its loop over the coins. Conditions: none beyond the context's. -/
namespace Go.Proofs.Ytebiafgcnmnacaa
open Go.Evl Go.RowKit

abbrev keep5 : List Nat := [0, 1, 7, 8, 9, 48, 49]
abbrev vs5 (s t n i : Int) : List AV := [.int .i64 s, .int .i64 t, .int .i64 n, .ptr 0 0, .ptr 1 0, .int .i64 n, .int .i64 i]
abbrev hp5 (x y z w : Int) : List Ob := [.cells [.int .i64 x, .int .i64 y] 23, .cells [.int .i64 z, .int .i64 w] 23]
def mnI (a b : Int) : Int := if a < b then a else b
def qP (s n k i : Int) : Int := mnI i k * (s * (n - k) * (s * (n - k))) + (i - mnI i k) * (s * k * (s * k))
def qN (s n k i : Int) : Int := mkN (qP s n k i) (k * k)
def qD (s n k i : Int) : Int := mkD (qP s n k i) (k * k)
def st5 (s t n i x y z w : Int) : Bool := decide (x = sN n (kcI s t n) (mnI i (kcI s t n)) ∧ y = sD n (kcI s t n) (mnI i (kcI s t n)) ∧ z = qN s n (kcI s t n) i ∧ w = qD s n (kcI s t n) i)
def f5s : List AV → List Ob → Tr (Ex × List AV × List Ob)
  | [.int .i64 s, .int .i64 t, .int .i64 n, .ptr 0 0, .ptr 1 0, .int .i64 n', .int .i64 i], [.cells [.int .i64 x, .int .i64 y] 23, .cells [.int .i64 z, .int .i64 w] 23] =>
    .chk (gd5 s t n && (decide (n' = n) && (decide (0 ≤ i ∧ i ≤ n) && st5 s t n i x y z w))) (.leaf (.exit 0, vs5 s t n n, hp5 (sN n (kcI s t n) (kcI s t n)) (sD n (kcI s t n) (kcI s t n)) (qN s n (kcI s t n) n) (qD s n (kcI s t n) n)))
  | _, _ => .non
abbrev sp5 : List Ent := [i10, i13, e27m, e28m, e29m, iAw, i17]
abbrev lp5 (_ : Nat) : LT := .sum keep5 f5s
theorem lx5 : (mkCx Try.prog (spOf sp5) (inlOf []) extD).Ok InvD := cx_of [] (by kernel_rfl) (by
  intro p hp
  simp only [sp5, List.mem_cons, List.not_mem_nil, or_false] at hp
  rcases hp with rfl | rfl | rfl | rfl | rfl | rfl | rfl
  · exact i10_ok
  · exact i13_ok
  · exact e27m_ok
  · exact e28m_ok
  · exact e29m_ok
  · exact iAw_ok
  · exact i17_ok)
noncomputable def rd5 (s t n i x y z w : Int) : Option (Ex × List AV × List Ob) := evC (β := Ex × List AV × List Ob) Try.prog (spOf sp5) (inlOf []) extD (cKD sp5 []) lp5 (bodyOf Try.prog 5 0) ⟨mkF Try.f5.ntmps keep5 (vs5 s t n i), hp5 x y z w⟩ (fun e st => (cutBack keep5 2 st).map fun q => (e, q.1, q.2))
end Go.Proofs.Ytebiafgcnmnacaa

/- SamplingPriority's walk. Conditions: none beyond the context's. -/
namespace Go.Proofs.Ytebiafgcnmnacaa
open Go.Evl Go.RowKit

abbrev X5 (s t n i x y z w : Int) : Option (Ex × List AV × List Ob) := some (.ret, vs5 s t n i, hp5 x y z w)
abbrev W5 (s t n i : Int) : F2 := (prN s t i n, prD s t i n)
def C5 (s t n i : Int) (p q : F2) : Option (Ex × List AV × List Ob) :=
  bif mE (s, 1) (W5 s t n i) != 0 then X5 s t n i p.1 p.2 q.1 q.2
  else bif sE (mF (s, 1) (W5 s t n i)) (s, 1) != 0 then X5 s t n i p.1 p.2 q.1 q.2
  else bif mE (sF (mF (s, 1) (W5 s t n i)) (s, 1)) (sF (mF (s, 1) (W5 s t n i)) (s, 1)) != 0 then X5 s t n i p.1 p.2 q.1 q.2
  else bif aE p (W5 s t n i) != 0 then X5 s t n i p.1 p.2 q.1 q.2
  else bif aE q (mF (sF (mF (s, 1) (W5 s t n i)) (s, 1)) (sF (mF (s, 1) (W5 s t n i)) (s, 1))) != 0 then X5 s t n i p.1 p.2 q.1 q.2
  else some (.normal, vs5 s t n (IntKind.i64.wrap (i + 1)), hp5 (aF p (W5 s t n i)).1 (aF p (W5 s t n i)).2 (aF q (mF (sF (mF (s, 1) (W5 s t n i)) (s, 1)) (sF (mF (s, 1) (W5 s t n i)) (s, 1)))).1 (aF q (mF (sF (mF (s, 1) (W5 s t n i)) (s, 1)) (sF (mF (s, 1) (W5 s t n i)) (s, 1)))).2)
theorem rd5_eq (s t n i x y z w : Int) : rd5 s t n i x y z w =
    (bif decide (i < n) then bif prE s t i n != 0 then X5 s t n i x y z w else bif decide (s ≥ t) then bif prK s t i n then bif !(prN s t i n == 1 && (prD s t i n == 1 && true)) then X5 s t n i x y z w else C5 s t n i (x, y) (z, w) else X5 s t n i x y z w else C5 s t n i (x, y) (z, w)
    else some (.exit 0, vs5 s t n i, hp5 x y z w)) := by kernel_rfl
theorem qP_range {s t n i : Int} (hg : gd5 s t n = true) (hi : 0 ≤ i ∧ i ≤ n) : 0 ≤ qP s n (kcI s t n) i ∧ qP s n (kcI s t n) i ≤ 70368744177664000 := by
  have g := gd5_iff.1 hg
  obtain ⟨k1, k2⟩ := kc_pos hg
  generalize kcI s t n = k at *
  have m1 : 0 ≤ mnI i k ∧ mnI i k ≤ i := by unfold mnI; split <;> omega
  have a1 : 0 ≤ s * (n - k) := Int.mul_nonneg (by omega) (by omega)
  have a2 : s * (n - k) ≤ 1048576 * 40 := Int.mul_le_mul (by omega) (by omega) (by omega) (by omega)
  have a3 : 0 ≤ s * (n - k) * (s * (n - k)) := Int.mul_nonneg a1 a1
  have a4 : s * (n - k) * (s * (n - k)) ≤ 41943040 * 41943040 := Int.mul_le_mul (by omega) (by omega) (by omega) (by omega)
  have b1 : 0 ≤ s * k := Int.mul_nonneg (by omega) (by omega)
  have b2 : s * k ≤ 1048576 * 40 := Int.mul_le_mul (by omega) (by omega) (by omega) (by omega)
  have b3 : 0 ≤ s * k * (s * k) := Int.mul_nonneg b1 b1
  have b4 : s * k * (s * k) ≤ 41943040 * 41943040 := Int.mul_le_mul (by omega) (by omega) (by omega) (by omega)
  have c1 : 0 ≤ mnI i k * (s * (n - k) * (s * (n - k))) := Int.mul_nonneg m1.1 a3
  have c2 : mnI i k * (s * (n - k) * (s * (n - k))) ≤ mnI i k * 1759218604441600 := Int.mul_le_mul_of_nonneg_left (by omega) m1.1
  have c3 : 0 ≤ (i - mnI i k) * (s * k * (s * k)) := Int.mul_nonneg (by omega) b3
  have c4 : (i - mnI i k) * (s * k * (s * k)) ≤ (i - mnI i k) * 1759218604441600 := Int.mul_le_mul_of_nonneg_left (by omega) (by omega)
  unfold qP
  omega
theorem kk_range {s t n : Int} (hg : gd5 s t n = true) : 0 < kcI s t n * kcI s t n ∧ kcI s t n * kcI s t n ≤ 1600 := by
  have g := gd5_iff.1 hg
  obtain ⟨k1, k2⟩ := kc_pos hg
  have p0 : 0 < kcI s t n * kcI s t n := Int.mul_pos (by omega) (by omega)
  have p1 : kcI s t n * kcI s t n ≤ 40 * 40 := Int.mul_le_mul (by omega) (by omega) (by omega) (by omega)
  omega
theorem q_fit {s t n i : Int} (hg : gd5 s t n = true) (hi : 0 ≤ i ∧ i ≤ n) : Fit (qP s n (kcI s t n) i) (kcI s t n * kcI s t n) := by
  obtain ⟨p1, p2⟩ := qP_range hg hi
  obtain ⟨k1, k2⟩ := kk_range hg
  exact ⟨k1, fits_abs k1 (by omega) (by omega) (by omega)⟩
theorem w_fit {s t n c : Int} (hg : gd5 s t n = true) (hc : 0 ≤ c ∧ c ≤ n) : Fit (c * n) (kcI s t n) := by
  have g := gd5_iff.1 hg
  obtain ⟨k1, k2⟩ := kc_pos hg
  have p0 : 0 ≤ c * n := Int.mul_nonneg (by omega) (by omega)
  have p1 : c * n ≤ 40 * 40 := Int.mul_le_mul (by omega) (by omega) (by omega) (by omega)
  exact ⟨by omega, fits_abs (by omega) (by omega) (by omega) (by omega)⟩
theorem s_red1 {n k c : Int} (h : 1 ≤ k) : (sN n k c, sD n k c) = red (c * n) k := by unfold sN sD red; rw [if_neg (by omega), if_neg (by omega)]
theorem small_fit {P Q : Int} (hQ : 0 < Q) (h0 : -1000000000 ≤ P) (h1 : P ≤ 1000000000) (h2 : Q ≤ 1000000000) : Fit P Q := ⟨hQ, fits_abs hQ (by omega) (by omega) (by omega)⟩
theorem kc_all {s t n : Int} (hg : gd5 s t n = true) (h : s ≥ t) : kcI s t n = n := by
  have g := gd5_iff.1 hg
  obtain ⟨k1, k2⟩ := kc_pos hg
  have hl := kcI_lt (k := kcI s t n) (gd5_pr hg).1
  rcases Int.lt_or_eq_of_le k2 with hlt | he
  · exfalso
    have : kcI s t n * t < s * n := by
      have c1 : kcI s t n * t ≤ kcI s t n * s := Int.mul_le_mul_of_nonneg_left h (by omega)
      have c2 : kcI s t n * s < n * s := Int.mul_lt_mul_of_pos_right hlt (by omega)
      rw [Int.mul_comm n s] at c2
      omega
    have := hl.2 ⟨hlt, this⟩
    omega
  · exact he
theorem mn_lt {i k : Int} (h : i < k) : mnI i k = i ∧ mnI (i + 1) k = i + 1 := by
  unfold mnI
  rw [if_pos h]
  refine ⟨rfl, ?_⟩
  split <;> omega
theorem mn_ge {i k : Int} (h : ¬ i < k) : mnI i k = k ∧ mnI (i + 1) k = k := by
  unfold mnI
  rw [if_neg h, if_neg (by omega)]
  exact ⟨rfl, rfl⟩
theorem rd5_step {s t n i x y z w : Int} (hg : gd5 s t n = true) (hi : 0 ≤ i ∧ i < n) (hs : st5 s t n i x y z w = true) :
    ∃ x' y' z' w', rd5 s t n i x y z w = some (.normal, vs5 s t n (i + 1), hp5 x' y' z' w') ∧ st5 s t n (i + 1) x' y' z' w' = true := by
  have g := gd5_iff.1 hg
  obtain ⟨k1, k2⟩ := kc_pos hg
  simp only [st5, decide_eq_true_eq] at hs
  obtain ⟨rfl, rfl, rfl, rfl⟩ := hs
  have ha : prA s t i n = true := prA_iff.2 ⟨(gd5_pr hg).1, hi.1, by omega⟩
  have he : prE s t i n = 0 := by simp [prE, ha]
  have wi : IntKind.i64.wrap (i + 1) = i + 1 := wrapI (by omega) (by omega)
  have fs : Fit s 1 ∧ red s 1 = (s, 1) := by obtain ⟨a, b⟩ := red_one s (by omega) (by omega); exact ⟨b, a⟩
  have ep : (sN n (kcI s t n) (mnI i (kcI s t n)), sD n (kcI s t n) (mnI i (kcI s t n))) = red (mnI i (kcI s t n) * n) (kcI s t n) := s_red1 k1
  have eq : (qN s n (kcI s t n) i, qD s n (kcI s t n) i) = red (qP s n (kcI s t n) i) (kcI s t n * kcI s t n) := rfl
  have m0 : 0 ≤ mnI i (kcI s t n) ∧ mnI i (kcI s t n) ≤ n := by unfold mnI; split <;> omega
  have m1 : 0 ≤ mnI (i + 1) (kcI s t n) ∧ mnI (i + 1) (kcI s t n) ≤ n := by unfold mnI; split <;> omega
  have fw0 := w_fit (c := mnI i (kcI s t n)) hg m0
  have fw1 := w_fit (c := mnI (i + 1) (kcI s t n)) hg m1
  have fq0 := q_fit (i := i) hg ⟨by omega, by omega⟩
  have fq1 := q_fit (i := i + 1) hg ⟨by omega, by omega⟩
  have kk := kk_range hg
  have sk : 0 ≤ s * n ∧ s * n ≤ 41943040 := ⟨Int.mul_nonneg (by omega) (by omega), by have : s * n ≤ 1048576 * 40 := Int.mul_le_mul (by omega) (by omega) (by omega) (by omega); omega⟩
  have snk : 0 ≤ s * (n - kcI s t n) ∧ s * (n - kcI s t n) ≤ 41943040 := ⟨Int.mul_nonneg (by omega) (by omega), by have : s * (n - kcI s t n) ≤ 1048576 * 40 := Int.mul_le_mul (by omega) (by omega) (by omega) (by omega); omega⟩
  have a3 : 0 ≤ s * (n - kcI s t n) * (s * (n - kcI s t n)) := Int.mul_nonneg snk.1 snk.1
  have a4 : s * (n - kcI s t n) * (s * (n - kcI s t n)) ≤ 41943040 * 41943040 := Int.mul_le_mul snk.2 snk.2 snk.1 (by omega)
  have ss : 0 ≤ s * s ∧ s * s ≤ 1048576 * 1048576 := ⟨Int.mul_nonneg (by omega) (by omega), Int.mul_le_mul (by omega) (by omega) (by omega) (by omega)⟩
  -- what is computed
  have main : C5 s t n i (sN n (kcI s t n) (mnI i (kcI s t n)), sD n (kcI s t n) (mnI i (kcI s t n))) (qN s n (kcI s t n) i, qD s n (kcI s t n) i) =
      some (.normal, vs5 s t n (i + 1), hp5 (sN n (kcI s t n) (mnI (i + 1) (kcI s t n))) (sD n (kcI s t n) (mnI (i + 1) (kcI s t n))) (qN s n (kcI s t n) (i + 1)) (qD s n (kcI s t n) (i + 1))) ∧
      (s ≥ t → prK s t i n = true ∧ prN s t i n = 1 ∧ prD s t i n = 1) := by
    have e1' : (sN n (kcI s t n) (mnI (i + 1) (kcI s t n)), sD n (kcI s t n) (mnI (i + 1) (kcI s t n))) = red (mnI (i + 1) (kcI s t n) * n) (kcI s t n) := s_red1 k1
    have fin : ∀ {p q : F2}, p = red (mnI (i + 1) (kcI s t n) * n) (kcI s t n) → q = red (qP s n (kcI s t n) (i + 1)) (kcI s t n * kcI s t n) →
        (some (.normal, vs5 s t n (i + 1), hp5 p.1 p.2 q.1 q.2) : Option (Ex × List AV × List Ob)) = some (.normal, vs5 s t n (i + 1), hp5 (sN n (kcI s t n) (mnI (i + 1) (kcI s t n))) (sD n (kcI s t n) (mnI (i + 1) (kcI s t n))) (qN s n (kcI s t n) (i + 1)) (qD s n (kcI s t n) (i + 1))) := by
      intro p q hp hq
      rw [← e1'] at hp
      rw [hp, hq]; rfl
    unfold C5
    rw [ep, eq, ← fs.2, wi]
    by_cases hk : i < kcI s t n
    · have hK : prK s t i n = true := by simp [prK, ha, hk]
      have hm : mkE n (kcI s t n) = 0 := mkE_part (by omega) (by omega) (by omega) (by omega)
      have hw : W5 s t n i = red n (kcI s t n) := by simp [W5, prN, prD, hK, mkX, mkY, hm, red]
      obtain ⟨q1, q2⟩ := mn_lt hk
      rw [q1] at fw0 ⊢
      have hp2 : ∀ m : Int, mnI (i + 1) (kcI s t n) = m → red (m * n) (kcI s t n) = red (mnI (i + 1) (kcI s t n) * n) (kcI s t n) := fun m hm => by rw [hm]
      have hp3 := hp2 _ q2
      rw [q2] at fw1
      have fW : Fit n (kcI s t n) := small_fit (by omega) (by omega) (by omega) (by omega)
      have fX : Fit (s * n) (kcI s t n) := small_fit (by omega) (by omega) (by omega) (by omega)
      have fY : Fit (s * (n - kcI s t n)) (kcI s t n) := small_fit (by omega) (by omega) (by omega) (by omega)
      have fZ : Fit (s * (n - kcI s t n) * (s * (n - kcI s t n))) (kcI s t n * kcI s t n) := ⟨kk.1, fits_abs kk.1 (by omega) (by omega) (by omega)⟩
      obtain ⟨x1, x2⟩ := m_red fs.1 fW fX (by rw [Int.one_mul])
      obtain ⟨y1, y2⟩ := s_red fX fs.1 fY (by grind)
      obtain ⟨z1, z2⟩ := m_red fY fY fZ rfl
      obtain ⟨w1, w2⟩ := a_red fw0 fW fw1 (by grind)
      have hq : qP s n (kcI s t n) (i + 1) = qP s n (kcI s t n) i + s * (n - kcI s t n) * (s * (n - kcI s t n)) := by
        unfold qP; rw [q1, q2]; grind
      obtain ⟨v1, v2⟩ := a_red fq0 fZ fq1 (by rw [hq]; grind)
      rw [hw, x1, x2, y1, y2, z1, z2, w1, w2, v1, v2]
      simp only [bne_self_eq_false, cond_false]
      refine ⟨fin hp3 rfl, fun hst => ?_⟩
      have hn := kc_all hg hst
      have hw2 : W5 s t n i = (1, 1) := by
        rw [hw, hn]
        obtain ⟨e1, e2⟩ := mk_unique (n := n) (m := n) (a := 1) (b := 1) (by omega) (by omega) rfl (by omega)
        unfold red; rw [e1, e2]
      exact ⟨hK, congrArg Prod.fst hw2, congrArg Prod.snd hw2⟩
    · have hK : prK s t i n = false := by simp [prK, hk]
      have hw : W5 s t n i = red 0 1 := by rw [fit01.2]; simp [W5, prN, prD, hK, he]
      obtain ⟨q1, q2⟩ := mn_ge hk
      rw [q1] at fw0 ⊢
      have hp2 : ∀ m : Int, mnI (i + 1) (kcI s t n) = m → red (m * n) (kcI s t n) = red (mnI (i + 1) (kcI s t n) * n) (kcI s t n) := fun m hm => by rw [hm]
      have hp3 := hp2 _ q2
      rw [q2] at fw1
      have f0 := fit01.1
      have fY : Fit (-s) 1 := small_fit (by omega) (by omega) (by omega) (by omega)
      have fZ : Fit (s * s) 1 := ⟨by omega, fits_abs (by omega) (by omega) (by omega) (by omega)⟩
      obtain ⟨x1, x2⟩ := m_red fs.1 f0 f0 (by grind)
      obtain ⟨y1, y2⟩ := s_red f0 fs.1 fY (by grind)
      obtain ⟨z1, z2⟩ := m_red fY fY fZ (by grind)
      obtain ⟨w1, w2⟩ := a_red fw0 f0 fw1 (by grind)
      have hq : qP s n (kcI s t n) (i + 1) = qP s n (kcI s t n) i + s * kcI s t n * (s * kcI s t n) := by
        unfold qP; rw [q1, q2]; grind
      obtain ⟨v1, v2⟩ := a_red fq0 fZ fq1 (by rw [hq]; grind)
      rw [hw, x1, x2, y1, y2, z1, z2, w1, w2, v1, v2]
      simp only [bne_self_eq_false, cond_false]
      refine ⟨fin hp3 rfl, fun hst => ?_⟩
      have hn := kc_all hg hst
      omega
  rw [rd5_eq, decide_eq_true hi.2, he, main.1]
  refine ⟨sN n (kcI s t n) (mnI (i + 1) (kcI s t n)), sD n (kcI s t n) (mnI (i + 1) (kcI s t n)), qN s n (kcI s t n) (i + 1), qD s n (kcI s t n) (i + 1), ?_, ?_⟩
  · by_cases hst : s ≥ t
    · obtain ⟨u1, u2, u3⟩ := main.2 hst
      rw [decide_eq_true hst, u1, u2, u3]; rfl
    · rw [decide_eq_false hst]; rfl
  · simp only [st5, decide_eq_true_eq]; exact ⟨trivial, trivial, trivial, trivial⟩
theorem rd5_end {s t n x y z w : Int} : rd5 s t n n x y z w = some (.exit 0, vs5 s t n n, hp5 x y z w) := by
  rw [rd5_eq, decide_eq_false (show ¬ n < n by omega)]; rfl
theorem sum5 : LoopOkT Try.prog (spOf sp5) (inlOf []) extD (cKD sp5 []) lp5 Try.f5.ntmps (bodyOf Try.prog 5 0) (.sum keep5 f5s) := by
  dsimp only [LoopOkT]
  refine ⟨by decide, by decide, fun vs _ => match vs with | [_, _, .int _ al, _, _, _, .int _ i] => (al - i).toNat | _ => 0, fun vs H R hv hR => ?_⟩
  unfold f5s at hR
  split at hR
  · rename_i s t n n' i x y z w
    obtain ⟨hc, hR⟩ := chk_run hR
    simp only [Tr.run, Option.some.injEq] at hR
    subst hR
    rw [Bool.and_eq_true, Bool.and_eq_true, Bool.and_eq_true, decide_eq_true_eq, decide_eq_true_eq] at hc
    obtain ⟨hg, rfl, hi, hs⟩ := hc
    by_cases h : i < n'
    · obtain ⟨x', y', z', w', hr, hs'⟩ := rd5_step hg ⟨hi.1, h⟩ hs
      refine ⟨_, _, _, hr, ?_, ?_⟩
      · simp only [f5s]
        rw [hg, hs', decide_eq_true (show 0 ≤ i + 1 ∧ i + 1 ≤ n' by omega)]
        rfl
      · show (n' - (i + 1)).toNat < (n' - i).toNat
        omega
    · have e : i = n' := by omega
      subst e
      refine ⟨_, _, _, rd5_end, ?_⟩
      simp only [st5, decide_eq_true_eq] at hs
      obtain ⟨k1, k2⟩ := kc_pos hg
      have : mnI i (kcI s t i) = kcI s t i := by unfold mnI; split <;> omega
      rw [this] at hs
      obtain ⟨rfl, rfl, rfl, rfl⟩ := hs
      rfl
  · simp [Tr.run] at hR
end Go.Proofs.Ytebiafgcnmnacaa

/- SamplingPriority's walk, joined. Conditions: none beyond the context's. -/
namespace Go.Proofs.Ytebiafgcnmnacaa
open Go.Evl Go.RowKit
abbrev V5 (s t n : Int) : F2 := (mkN (vaN s t n) (kcI s t n), mkD (vaN s t n) (kcI s t n))
def T5 (s t n : Int) : Option Res :=
  bif decide (s < 1) then RB true else bif decide (s > 1048576) then RB true else bif decide (t < 1) then RB true else bif decide (t > 1099511627776) then RB true
  else bif gd5 s t n && (decide (n = n) && (decide ((0 : Int) ≤ 0 ∧ 0 ≤ n) && st5 s t n 0 0 1 0 1)) then bif gd5 s t n then
    bif sN n (kcI s t n) (kcI s t n) == n && (sD n (kcI s t n) (kcI s t n) == 1 && true) then bif mE (V5 s t n) (n, 1) != 0 then RB true
      else bif (mF (V5 s t n) (n, 1)).1 == qN s n (kcI s t n) n && ((mF (V5 s t n) (n, 1)).2 == qD s n (kcI s t n) n && true) then RB true else RB false
    else RB false
  else none else none
theorem lt5 (s t w : Int) : evFn Try.prog (spOf sp5) (inlOf []) extD (cKD sp5 []) lp5 Try.f5 [.int .i64 s, .int .i64 t, .int .u8 w] [] (fun r _ => some r) = T5 s t (IntKind.i64.wrap (1 + (IntKind.i64.wrap w).tmod 40)) := by kernel_rfl
theorem T5_eq {s t n : Int} (hn : 1 ≤ n ∧ n ≤ 40) : T5 s t n = RB true := by
  unfold T5
  by_cases h1 : s < 1
  · rw [decide_eq_true h1]; rfl
  by_cases h2 : s > 1048576
  · rw [decide_eq_false h1, decide_eq_true h2]; rfl
  by_cases h3 : t < 1
  · rw [decide_eq_false h1, decide_eq_false h2, decide_eq_true h3]; rfl
  by_cases h4 : t > 1099511627776
  · rw [decide_eq_false h1, decide_eq_false h2, decide_eq_false h3, decide_eq_true h4]; rfl
  have hg : gd5 s t n = true := gd5_iff.2 (by omega)
  obtain ⟨k1, k2⟩ := kc_pos hg
  have m0 : mnI 0 (kcI s t n) = 0 := by unfold mnI; rw [if_pos (by omega)]
  have hs : st5 s t n 0 0 1 0 1 = true := by
    have e1 : (sN n (kcI s t n) 0, sD n (kcI s t n) 0) = (0, 1) := by
      rw [s_red1 k1, ← fit01.2]
      exact red_same (w_fit (c := 0) hg ⟨by omega, by omega⟩) fit01.1 (by grind)
    have e2 : (qN s n (kcI s t n) 0, qD s n (kcI s t n) 0) = (0, 1) := by
      rw [← fit01.2]
      have hq : qP s n (kcI s t n) 0 = 0 := by unfold qP; rw [m0]; grind
      exact red_same (q_fit (i := 0) hg ⟨by omega, by omega⟩) fit01.1 (by rw [hq]; grind)
    simp only [st5, decide_eq_true_eq, m0]
    exact ⟨(congrArg Prod.fst e1).symm, (congrArg Prod.snd e1).symm, (congrArg Prod.fst e2).symm, (congrArg Prod.snd e2).symm⟩
  obtain ⟨f1, f2⟩ := s_full (all := n) (part := kcI s t n) (by omega) (by omega)
  have fn1 : red n 1 = (n, 1) ∧ Fit n 1 := red_one n (by omega) (by omega)
  obtain ⟨v1, v2, _⟩ := va_range hg
  have vn : 0 ≤ vaN s t n * n ∧ vaN s t n * n ≤ 43980465111040 * 40 := ⟨Int.mul_nonneg v1 (by omega), Int.mul_le_mul v2 (by omega) (by omega) (by omega)⟩
  have fV : Fit (vaN s t n * n) (kcI s t n) := ⟨by omega, fits_abs (by omega) (by omega) (by omega) (by omega)⟩
  obtain ⟨a1, a2⟩ := m_red (va_fit hg) fn1.2 fV (by grind)
  have mn : mnI n (kcI s t n) = kcI s t n := by unfold mnI; split <;> omega
  have hsame : red (vaN s t n * n) (kcI s t n) = red (qP s n (kcI s t n) n) (kcI s t n * kcI s t n) := by
    refine red_same fV (q_fit (i := n) hg ⟨by omega, by omega⟩) ?_
    unfold qP vaN
    rw [mn]
    grind
  have e3 : mF (V5 s t n) (n, 1) = (qN s n (kcI s t n) n, qD s n (kcI s t n) n) := by
    rw [← fn1.1]
    exact a1.trans hsame
  have e4 : mE (V5 s t n) (n, 1) = 0 := by rw [← fn1.1]; exact a2
  rw [decide_eq_false h1, decide_eq_false h2, decide_eq_false h3, decide_eq_false h4, hg, hs, f1, f2, e3, e4, decide_eq_true (show (0 : Int) ≤ 0 ∧ 0 ≤ n by omega)]
  simp only [decide_true, Bool.and_self, cond_true, cond_false, beq_self_eq_true, bne_self_eq_false]
def l5 : Ent := ⟨5, fun
  | [.int .i64 _, .int .i64 _, .int .u8 w] => .chk (inU8 w) (.leaf (.ret (.bool true)))
  | _ => .non⟩
theorem l5_run {a b w : Int} (_ : inI a = true) (_ : inI b = true) (hw : inU8 w = true) : (l5.2 [.int .i64 a, .int .i64 b, .int .u8 w]).run = some (.ret (.bool true)) := by
  simp only [l5, Tr.run, hw, cond_true]
set_option maxRecDepth 100000 in
theorem l5_ok : SpecHolds Try.prog InvD 5 fun a => (l5.2 a).run := by
  refine specD lx5 Try.func5 (c := codeOf Try.prog 5) (by kernel_rfl) lp5 (fun p hp => ?_) fun args r hh => ?_
  · have hl : loops (codeOf Try.prog 5) = [(0, bodyOf Try.prog 5 0)] := by kernel_rfl
    rw [hl, List.mem_singleton] at hp
    subst hp
    exact sum5
  simp only [l5] at hh
  split at hh
  · rename_i a b w
    obtain ⟨hg, hh⟩ := chk_run hh
    refine ⟨by kernel_rfl, tr_ok (by rfl) hh, ?_⟩
    refine (lt5 a b w).trans (Eq.trans ?_ hh)
    simp only [inU8, decide_eq_true_eq] at hg
    have e1 : IntKind.i64.wrap w = w := wrapI (by omega) (by omega)
    have e3 : w.tmod 40 = w % 40 := Int.tmod_eq_emod_of_nonneg (by omega)
    rw [e1, e3, wrapI (x := 1 + w % 40) (by omega) (by omega)]
    exact T5_eq (by omega)
  · simp [Tr.run] at hh
end Go.Proofs.Ytebiafgcnmnacaa

/- SamplingPriority returns true for every input, and its arguments read as they did. No condition. -/
namespace Go.Proofs.Ytebiafgcnmnacaa
open Go.ChangeShapes Go.WideShapes Go.ChangeAt Go.RowKit Go.Joins Go.Evl

set_option maxRecDepth 100000 in
theorem samplingPriority_lifted (os : Os) (started : os.Started) (H : Type) (enc : TypeId × Value → H) :
    ReturnsInHanded {} Try.checked os 5 .any (Rows.samplingPrioritySpec.pre6 enc Try.prog Try.f5 Rows.samplingPriorityRow.domain false) (Rows.samplingPrioritySpec.post enc Try.prog Try.f5 false true false false) := by
  refine returnsInHanded_of_change (C := Try.checked) own started (by kernel_rfl) Try.func5
    (ChangeSpec.witness6 (enc := enc) (C := Try.checked) false ⟨#[], #[.int .i64 0, .int .i64 0, .int .u8 0], []⟩ 8 (by kernel_rfl) (by kernel_rfl) (by kernel_rfl) (by kernel_rfl)) ?_
  intro W base args ds gs before hval0 hW _ _
  have hval : ∀ (j : Nat) t v, Try.f5.params[j]? = some t → args[j]? = some v → Value.okWide Try.prog W .any base t v := hval0
  have hW' := hW
  obtain ⟨p, q, hA0, hV, rfl, hfz, hnd⟩ := hW
  have hA : DataW.TrodAll enc Try.prog W 0 (fun _ => true) true Try.f5.params.toList args.toList ds p := hA0
  rw [Try.params5] at hA hval
  obtain ⟨v0, v1, v2, d0, d1, d2, p0, p1, p2, rfl, rfl, rfl, h0, h1, h2⟩ := trodAll_three hA
  obtain ⟨rfl, rfl⟩ := trodVars_none hV
  have hlt0 : ∀ x ∈ p0, x.block < W.heap.size := fun x hx => by simpa using hW'.lt x (by simp [hx])
  have hlt1 : ∀ x ∈ p1, x.block < W.heap.size := fun x hx => by simpa using hW'.lt x (by simp [hx])
  have hlt2 : ∀ x ∈ p2, x.block < W.heap.size := fun x hx => by simpa using hW'.lt x (by simp [hx])
  obtain ⟨a0, rfl, g0⟩ := int_form (hval 0 3 v0 rfl rfl) h0
  obtain ⟨a1, rfl, g1⟩ := int_form (hval 1 3 v1 rfl rfl) h1
  obtain ⟨a2, rfl, g2⟩ := u8_form (hval 2 5 v2 rfl rfl) h2
  clear hA0 hval0
  have hrv : Rvs (fun i => i) (fun _ => False) W None_ [.int .i64 a0, .int .i64 a1, .int .u8 a2] [.int .i64 a0, .int .i64 a1, .int .u8 a2] := (.cons .int (.cons .int (.cons .int .nil)))
  refine (l5_ok [.int .i64 a0, .int .i64 a1, .int .u8 a2] (.ret (.bool true)) (l5_run g0 g1 g2) (fun i => i) (fun _ => False) W [.int .i64 a0, .int .i64 a1, .int .u8 a2] (fun _ h => h.elim) trivial hrv).mono fun e W' ⟨hbel, u, he, hu⟩ => ?_
  subst he
  rw [hu.of_bool]
  refine ⟨_, rfl, _, _, _, [], p0 ++ (p1 ++ (p2)), [], hW', ?_, ?_, rfl, hbel.frame _, fun h => by cases h⟩
  · exact trodAll_mk1 (shut_bool Try.underlying4 true)
  · exact trodAll_mk3 (below_trod (by kernel_rfl) (of_decide_eq_true (by kernel_rfl)) h0 hbel hlt0) (below_trod (by kernel_rfl) (of_decide_eq_true (by kernel_rfl)) h1 hbel hlt1) (below_trod (by kernel_rfl) (of_decide_eq_true (by kernel_rfl)) h2 hbel hlt2)
theorem samplingPriority_holds : Rows.SamplingPrioritySaid :=
  OpenClaim.holds_of_wide 5 Try.f5 rfl rfl rfl rfl rfl rfl rfl ⟨rfl, rfl, rfl, rfl, rfl⟩ rfl rfl rfl rfl rfl (by kernel_rfl) Try.func5 (by kernel_rfl)
    (of_decide_eq_true (by kernel_rfl)) (by unfold Func.isWrapper; first | (rw [if_pos (by decide +kernel)]; kernel_rfl) | (rw [if_neg (by decide +kernel)]; exact ⟨rfl, rfl⟩))
    (fun os started H enc _ => samplingPriority_lifted os started H enc)
#print axioms samplingPriority_holds
end Go.Proofs.Ytebiafgcnmnacaa
