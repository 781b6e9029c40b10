/- SamplingSums returns true for every input, and its arguments read as they did. No condition. -/
import Derived.Test.YtebiafgcnmnacaaCore5
/- Counting in residues; sums of equal weights. No model. Conditions: in each statement. -/
namespace Go.Proofs.Ytebiafgcnmnacaa
open Go.Evl Go.RowKit

def tB (all part a : Int) : Int := if a % all < part then 1 else 0
def ctI (all part a : Int) : Nat → Int
  | 0 => 0
  | n + 1 => ctI all part a n + tB all part (a + n)
theorem tB_range (all part a : Int) : 0 ≤ tB all part a ∧ tB all part a ≤ 1 := by unfold tB; split <;> omega
theorem ctI_range (all part a : Int) (n : Nat) : 0 ≤ ctI all part a n ∧ ctI all part a n ≤ n := by
  induction n with
  | zero => simp [ctI]
  | succ n ih => have := tB_range all part (a + n); simp only [ctI]; omega
theorem ct_shift (all part a : Int) (n : Nat) : ctI all part (a + 1) n + tB all part a = ctI all part a n + tB all part (a + n) := by
  induction n with
  | zero => simp [ctI]
  | succ n ih =>
    simp only [ctI]
    have e : a + 1 + (n : Int) = a + ((n + 1 : Nat) : Int) := by omega
    rw [e]; omega
theorem ct_period {all part a : Int} (h : 0 < all) : ctI all part (a + 1) all.toNat = ctI all part a all.toNat := by
  have := ct_shift all part a all.toNat
  have e : tB all part (a + all.toNat) = tB all part a := by
    unfold tB
    have : (all.toNat : Int) = all := by omega
    rw [this, Int.add_emod_right]
  omega
theorem ct_base {all part : Int} (h0 : 0 ≤ part) : ∀ n : Nat, (n : Int) ≤ all → ctI all part 0 n = if (n : Int) ≤ part then (n : Int) else part := by
  intro n
  induction n with
  | zero => intro _; simp [ctI, h0]
  | succ n ih =>
    intro h
    simp only [ctI, ih (by omega), tB]
    rw [Int.zero_add, Int.emod_eq_of_lt (by omega) (by omega)]
    by_cases k : (n : Int) < part
    · rw [if_pos k, if_pos (by omega), if_pos (by omega)]; omega
    · rw [if_neg k]
      by_cases k2 : (n : Int) ≤ part
      · rw [if_pos k2, if_neg (by omega)]; omega
      · rw [if_neg k2, if_neg (by omega)]; omega
theorem ct_full {all part : Int} (h : 0 < all) (h0 : 0 ≤ part) (h1 : part ≤ all) : ∀ a : Nat, ctI all part a all.toNat = part := by
  intro a
  induction a with
  | zero =>
    have := ct_base (all := all) h0 all.toNat (by omega)
    rw [show ((0 : Nat) : Int) = 0 from rfl, this]
    split <;> omega
  | succ a ih =>
    have := ct_period (part := part) (a := (a : Int)) h
    rw [show ((a + 1 : Nat) : Int) = (a : Int) + 1 by omega, this, ih]

/-- c times the weight of a part of a whole -/
def sN (all part c : Int) : Int := if part = 0 then 0 else mkN (c * all) part
def sD (all part c : Int) : Int := if part = 0 then 1 else mkD (c * all) part
theorem fits_small {n m : Int} (hm : 0 < m) (h0 : 0 ≤ n) (h1 : n ≤ 1152921504606846976) (h2 : m ≤ 1152921504606846976) : mkFits n m = true := by
  obtain ⟨a0, a1⟩ := mkA_range (a := n) (show m ≠ 0 by omega)
  obtain ⟨d0, d1⟩ := mkD_range (a := n) (show m ≠ 0 by omega)
  have e1 : absI n = n := by rw [absI_eq]; omega
  have e2 : absI m = m := by rw [absI_eq]; omega
  unfold mkFits
  rw [Bool.and_eq_true, decide_eq_true_eq, decide_eq_true_eq]
  omega
theorem ok01 : okB 0 1 = true := by rw [okB_iff]; simp
/-- a fraction reduced stays -/
theorem mk_same {a b : Int} (h : okB a b = true) : mkN a b = a ∧ mkD a b = b ∧ mkFits a b = true := by
  obtain ⟨b1, b2, a1, a2, g⟩ := okB_iff.1 h
  obtain ⟨e1, e2⟩ := mk_unique (n := a) (m := b) (a := a) (b := b) (by omega) (by omega) g rfl
  refine ⟨e1, e2, ?_⟩
  unfold mkFits
  rw [mkA_of (by omega), e1, e2, absI_eq, Bool.and_eq_true, decide_eq_true_eq, decide_eq_true_eq]
  omega
theorem op_mk {n m : Int} (hf : mkFits n m = true) : opN true n m = mkN n m ∧ opD true n m = mkD n m ∧ opE true n m = 0 := by simp [opN, opD, opE, hf]
section
variable {all part c : Int} (ha : 1 ≤ all ∧ all ≤ 1000) (hp : 0 ≤ part ∧ part ≤ all) (hc : 0 ≤ c ∧ c ≤ 1000)
theorem s_prod (ha : 1 ≤ all ∧ all ≤ 1000) (hc : 0 ≤ c ∧ c ≤ 1000) : 0 ≤ c * all ∧ c * all ≤ 1000000 := by
  have h1 : 0 ≤ c * all := Int.mul_nonneg hc.1 (by omega)
  have h2 : c * all ≤ 1000 * 1000 := Int.mul_le_mul hc.2 ha.2 (by omega) (by omega)
  exact ⟨h1, by omega⟩
theorem s_ok (ha : 1 ≤ all ∧ all ≤ 1000) (hp : 0 ≤ part ∧ part ≤ all) (hc : 0 ≤ c ∧ c ≤ 1000) : okB (sN all part c) (sD all part c) = true := by
  unfold sN sD
  by_cases h : part = 0
  · rw [if_pos h, if_pos h]; exact ok01
  · rw [if_neg h, if_neg h]
    obtain ⟨q1, q2⟩ := s_prod ha hc
    exact mk_ok (by omega) (fits_small (by omega) (by omega) (by omega) (by omega))
/-- the weight of what is not kept adds nothing -/
theorem add_zero {a b : Int} (h : okB a b = true) : opN (okB a b && okB 0 1) (a * 1 + 0 * b) (b * 1) = a ∧ opD (okB a b && okB 0 1) (a * 1 + 0 * b) (b * 1) = b ∧ opE (okB a b && okB 0 1) (a * 1 + 0 * b) (b * 1) = 0 := by
  have e1 : a * 1 + 0 * b = a := by omega
  have e2 : b * 1 = b := by omega
  obtain ⟨m1, m2, m3⟩ := mk_same h
  rw [h, ok01, e1, e2, Bool.and_self]
  obtain ⟨o1, o2, o3⟩ := op_mk m3
  exact ⟨o1.trans m1, o2.trans m2, o3⟩
theorem add_weight (ha : 1 ≤ all ∧ all ≤ 1000) (hp : 1 ≤ part ∧ part ≤ all) (hc : 0 ≤ c ∧ c < 1000) :
    opN (okB (sN all part c) (sD all part c) && okB (mkN all part) (mkD all part)) (sN all part c * mkD all part + mkN all part * sD all part c) (sD all part c * mkD all part) = sN all part (c + 1) ∧
    opD (okB (sN all part c) (sD all part c) && okB (mkN all part) (mkD all part)) (sN all part c * mkD all part + mkN all part * sD all part c) (sD all part c * mkD all part) = sD all part (c + 1) ∧
    opE (okB (sN all part c) (sD all part c) && okB (mkN all part) (mkD all part)) (sN all part c * mkD all part + mkN all part * sD all part c) (sD all part c * mkD all part) = 0 := by
  have h1 : okB (sN all part c) (sD all part c) = true := s_ok ha ⟨by omega, hp.2⟩ ⟨by omega, by omega⟩
  have h2 : okB (mkN all part) (mkD all part) = true := mk_ok (by omega) (fits_small (by omega) (by omega) (by omega) (by omega))
  rw [h1, h2, Bool.and_self]
  have hp0 : part ≠ 0 := by omega
  have es : sN all part c = mkN (c * all) part ∧ sD all part c = mkD (c * all) part := by unfold sN sD; simp [hp0]
  have es' : sN all part (c + 1) = mkN ((c + 1) * all) part ∧ sD all part (c + 1) = mkD ((c + 1) * all) part := by unfold sN sD; simp [hp0]
  have v1 := mk_val (n := c * all) (m := part) (by omega)
  have v2 := mk_val (n := all) (m := part) (by omega)
  have p1 := mkD_pos (n := c * all) (m := part) (by omega)
  have p2 := mkD_pos (n := all) (m := part) (by omega)
  rw [es.1, es.2, es'.1, es'.2]
  generalize mkN (c * all) part = x at *
  generalize mkD (c * all) part = y at *
  generalize mkN all part = z at *
  generalize mkD all part = w at *
  have hm : 0 < y * w := Int.mul_pos p1 p2
  have hv : (x * w + z * y) * part = (c + 1) * all * (y * w) := by grind
  obtain ⟨q1, q2⟩ := s_prod ha (c := c + 1) ⟨by omega, by omega⟩
  obtain ⟨c1, c2⟩ := mk_congr hm (show 0 < part by omega) hv
  have hf : mkFits (x * w + z * y) (y * w) = true := by
    rw [mkFits_congr hm (show 0 < part by omega) hv]
    exact fits_small (by omega) (by omega) (by omega) (by omega)
  obtain ⟨o1, o2, o3⟩ := op_mk hf
  exact ⟨o1.trans c1, o2.trans c2, o3⟩
end
theorem s_full {all part : Int} (ha : 1 ≤ all) (hp : 1 ≤ part) : sN all part part = all ∧ sD all part part = 1 := by
  have hp0 : part ≠ 0 := by omega
  unfold sN sD
  rw [if_neg hp0, if_neg hp0]
  exact mk_unique (by omega) (by omega) (Nat.gcd_one_right _) (by rw [Int.mul_one, Int.mul_comm])
end Go.Proofs.Ytebiafgcnmnacaa

/- Fractions reduced: sums, differences, products by their values. No model. Conditions: in each statement. -/
namespace Go.Proofs.Ytebiafgcnmnacaa
open Go.Evl Go.RowKit

abbrev F2 : Type := Int × Int
def red (P Q : Int) : F2 := (mkN P Q, mkD P Q)
def opF (k : Bool) (n m : Int) : F2 := (opN k n m, opD k n m)
def aF (p q : F2) : F2 := opF (okB p.1 p.2 && okB q.1 q.2) (p.1 * q.2 + q.1 * p.2) (p.2 * q.2)
def aE (p q : F2) : Int := opE (okB p.1 p.2 && okB q.1 q.2) (p.1 * q.2 + q.1 * p.2) (p.2 * q.2)
def sF (p q : F2) : F2 := opF (okB p.1 p.2 && okB q.1 q.2) (p.1 * q.2 - q.1 * p.2) (p.2 * q.2)
def sE (p q : F2) : Int := opE (okB p.1 p.2 && okB q.1 q.2) (p.1 * q.2 - q.1 * p.2) (p.2 * q.2)
def mF (p q : F2) : F2 := opF (okB p.1 p.2 && okB q.1 q.2) (p.1 * q.1) (p.2 * q.2)
def mE (p q : F2) : Int := opE (okB p.1 p.2 && okB q.1 q.2) (p.1 * q.1) (p.2 * q.2)
theorem fits_abs {n m : Int} (hm : 0 < m) (h0 : -1152921504606846976 ≤ n) (h1 : n ≤ 1152921504606846976) (h2 : m ≤ 1152921504606846976) : mkFits n m = true := by
  obtain ⟨a0, a1⟩ := mkA_range (a := n) (show m ≠ 0 by omega)
  obtain ⟨d0, d1⟩ := mkD_range (a := n) (show m ≠ 0 by omega)
  have e1 : absI n ≤ 1152921504606846976 := by rw [absI_eq]; omega
  have e2 : absI m = m := by rw [absI_eq]; omega
  unfold mkFits
  rw [Bool.and_eq_true, decide_eq_true_eq, decide_eq_true_eq]
  omega
/-- a fraction of two numbers that are not too great -/
structure Fit (P Q : Int) : Prop where
  p : 0 < Q
  f : mkFits P Q = true
theorem Fit.ok {P Q : Int} (h : Fit P Q) : okB (red P Q).1 (red P Q).2 = true := mk_ok h.p h.f
theorem red_one (s : Int) (h0 : -1152921504606846976 ≤ s) (h1 : s ≤ 1152921504606846976) : red s 1 = (s, 1) ∧ Fit s 1 := by
  have hf : mkFits s 1 = true := fits_abs (by omega) h0 h1 (by omega)
  refine ⟨?_, by omega, hf⟩
  obtain ⟨e1, e2⟩ := mk_unique (n := s) (m := 1) (a := s) (b := 1) (by omega) (by omega) (Nat.gcd_one_right _) rfl
  unfold red; rw [e1, e2]
theorem op_red {n m P Q : Int} (hm : 0 < m) (h : Fit P Q) (hv : n * Q = P * m) : opF true n m = red P Q ∧ opE true n m = 0 := by
  obtain ⟨c1, c2⟩ := mk_congr hm h.p hv
  have hf : mkFits n m = true := by rw [mkFits_congr hm h.p hv]; exact h.f
  obtain ⟨o1, o2, o3⟩ := op_mk hf
  refine ⟨?_, o3⟩
  unfold opF red
  rw [o1, o2, c1, c2]
section
variable {P Q P' Q' R S : Int}
theorem a_red (h : Fit P Q) (h' : Fit P' Q') (h'' : Fit R S) (hv : (P * Q' + P' * Q) * S = R * (Q * Q')) : aF (red P Q) (red P' Q') = red R S ∧ aE (red P Q) (red P' Q') = 0 := by
  unfold aF aE
  rw [h.ok, h'.ok, Bool.and_self]
  have v1 := mk_val (n := P) (m := Q) h.p
  have v2 := mk_val (n := P') (m := Q') h'.p
  have p1 := mkD_pos (n := P) (m := Q) h.p
  have p2 := mkD_pos (n := P') (m := Q') h'.p
  have q1 := h.p
  have q2 := h'.p
  refine op_red (Int.mul_pos p1 p2) h'' ?_
  simp only [red]
  generalize mkN P Q = n at *
  generalize mkD P Q = d at *
  generalize mkN P' Q' = n' at *
  generalize mkD P' Q' = d' at *
  refine Int.eq_of_mul_eq_mul_right (show Q * Q' ≠ 0 from Int.ne_of_gt (Int.mul_pos q1 q2)) ?_
  grind
theorem s_red (h : Fit P Q) (h' : Fit P' Q') (h'' : Fit R S) (hv : (P * Q' - P' * Q) * S = R * (Q * Q')) : sF (red P Q) (red P' Q') = red R S ∧ sE (red P Q) (red P' Q') = 0 := by
  unfold sF sE
  rw [h.ok, h'.ok, Bool.and_self]
  have v1 := mk_val (n := P) (m := Q) h.p
  have v2 := mk_val (n := P') (m := Q') h'.p
  have p1 := mkD_pos (n := P) (m := Q) h.p
  have p2 := mkD_pos (n := P') (m := Q') h'.p
  have q1 := h.p
  have q2 := h'.p
  refine op_red (Int.mul_pos p1 p2) h'' ?_
  simp only [red]
  generalize mkN P Q = n at *
  generalize mkD P Q = d at *
  generalize mkN P' Q' = n' at *
  generalize mkD P' Q' = d' at *
  refine Int.eq_of_mul_eq_mul_right (show Q * Q' ≠ 0 from Int.ne_of_gt (Int.mul_pos q1 q2)) ?_
  grind
theorem m_red (h : Fit P Q) (h' : Fit P' Q') (h'' : Fit R S) (hv : P * P' * S = R * (Q * Q')) : mF (red P Q) (red P' Q') = red R S ∧ mE (red P Q) (red P' Q') = 0 := by
  unfold mF mE
  rw [h.ok, h'.ok, Bool.and_self]
  have v1 := mk_val (n := P) (m := Q) h.p
  have v2 := mk_val (n := P') (m := Q') h'.p
  have p1 := mkD_pos (n := P) (m := Q) h.p
  have p2 := mkD_pos (n := P') (m := Q') h'.p
  have q1 := h.p
  have q2 := h'.p
  refine op_red (Int.mul_pos p1 p2) h'' ?_
  simp only [red]
  generalize mkN P Q = n at *
  generalize mkD P Q = d at *
  generalize mkN P' Q' = n' at *
  generalize mkD P' Q' = d' at *
  refine Int.eq_of_mul_eq_mul_right (show Q * Q' ≠ 0 from Int.ne_of_gt (Int.mul_pos q1 q2)) ?_
  grind
/-- the same value is the same fraction -/
theorem red_same (h : Fit P Q) (h' : Fit R S) (hv : P * S = R * Q) : red P Q = red R S := by
  obtain ⟨c1, c2⟩ := mk_congr h.p h'.p hv
  unfold red; rw [c1, c2]
end
end Go.Proofs.Ytebiafgcnmnacaa

/- Variance, of one size and of two: contracts. Conditions: none beyond the context's. -/
namespace Go.Proofs.Ytebiafgcnmnacaa
open Go.Evl Go.RowKit

def gd5 (s t n : Int) : Bool := decide (1 ≤ n ∧ n ≤ 40 ∧ 1 ≤ s ∧ s ≤ 1048576 ∧ 1 ≤ t ∧ t ≤ 1099511627776)
def mk1 (x0 : Int) (r : Nat → List AV) : Nat → List AV
  | 0 => [.int .i64 x0]
  | n + 1 => r n
def mk2 (x0 x1 : Int) (r : Nat → List AV) : Nat → List AV
  | 0 => [.int .i64 x0]
  | 1 => [.int .i64 x1]
  | n + 2 => r n
theorem mk1_eq {el : Nat → List AV} {x : Int} (h : el 0 = [.int .i64 x]) : el = mk1 x fun n => el (n + 1) := by
  funext n
  match n with
  | 0 => exact h
  | n + 1 => rfl
theorem mk2_eq {el : Nat → List AV} {x y : Int} (h : el 0 = [.int .i64 x]) (h1 : el 1 = [.int .i64 y]) : el = mk2 x y fun n => el (n + 2) := by
  funext n
  match n with
  | 0 => exact h
  | 1 => exact h1
  | n + 2 => rfl
/-- the variance of one size: its numerator before it is reduced -/
def vaN (s t n : Int) : Int := s * s * (n - kcI s t n)
def v2N (s u t n : Int) : Int := vaN s t n * kcI u t n + vaN u t n * kcI s t n
def i17 : Ent := ⟨17, fun
  | [.isl 1 1 el, .int .i64 t, .int .i64 n] => match el 0 with
    | [.int .i64 s] => .chk (gd5 s t n) (.leaf (.ret (.tup [.agg [.int .i64 (mkN (vaN s t n) (kcI s t n)), .int .i64 (mkD (vaN s t n) (kcI s t n))], .int .i64 0])))
    | _ => .non
  | [.isl 2 1 el, .int .i64 t, .int .i64 n] => match el 0, el 1 with
    | [.int .i64 s], [.int .i64 u] => .chk (gd5 s t n && gd5 u t n) (.leaf (.ret (.tup [.agg [.int .i64 (mkN (v2N s u t n) (kcI s t n * kcI u t n)), .int .i64 (mkD (v2N s u t n) (kcI s t n * kcI u t n))], .int .i64 0])))
    | _, _ => .non
  | _ => .non⟩
abbrev RQ (x y e : Int) : Option Res := some (.ret (.tup [.agg [.int .i64 x, .int .i64 y], .int .i64 e]))
def vaW (s t n : Int) : Int := IntKind.i64.wrap (IntKind.i64.wrap (s * s) * IntKind.i64.wrap (n - kcI s t n))
/-- one size more -/
def vaT (s t n : Int) (p : F2) (k : F2 → Option Res) : Option Res :=
  bif s == 0 then k p else bif prB s t n then bif inI (vaW s t n) && inI (kcI s t n) then bif mkE (vaW s t n) (kcI s t n) != 0 then RQ 0 0 (mkE (vaW s t n) (kcI s t n))
    else bif aE p (mkX (vaW s t n) (kcI s t n), mkY (vaW s t n) (kcI s t n)) != 0 then RQ 0 0 (aE p (mkX (vaW s t n) (kcI s t n), mkY (vaW s t n) (kcI s t n))) else k (aF p (mkX (vaW s t n) (kcI s t n), mkY (vaW s t n) (kcI s t n)))
    else none else none
theorem sx17 : (mkCx Try.prog (spOf [i29, i30, i31, i32, e20m]) (inlOf []) extD).Ok InvD := cx_of [] (by kernel_rfl) (by
  intro p hp
  simp only [List.mem_cons, List.not_mem_nil, or_false] at hp
  rcases hp with rfl | rfl | rfl | rfl | rfl
  · exact i29_ok
  · exact i30_ok
  · exact i31_ok
  · exact i32_ok
  · exact e20m_ok)
theorem vt17a (s t n : Int) (r : Nat → List AV) : evFn Try.prog (spOf [i29, i30, i31, i32, e20m]) (inlOf []) extD (cKD [i29, i30, i31, i32, e20m] []) (fun _ => .unroll 3) Try.f17 [.isl 1 1 (mk1 s r), .int .i64 t, .int .i64 n] [] (fun r _ => some r) =
    (bif prB 0 t n then bif prB s t n then bif decide (s > 1048576) then RQ 0 0 1 else vaT s t n (0, 1) fun p => RQ p.1 p.2 0 else RQ 0 0 2 else RQ 0 0 2 : Option Res) := by kernel_rfl
theorem vt17b (s u t n : Int) (r : Nat → List AV) : evFn Try.prog (spOf [i29, i30, i31, i32, e20m]) (inlOf []) extD (cKD [i29, i30, i31, i32, e20m] []) (fun _ => .unroll 3) Try.f17 [.isl 2 1 (mk2 s u r), .int .i64 t, .int .i64 n] [] (fun r _ => some r) =
    (bif prB 0 t n then bif prB s t n then bif decide (s > 1048576) then RQ 0 0 1 else bif prB u t n then bif decide (u > 1048576) then RQ 0 0 1 else vaT s t n (0, 1) fun p => vaT u t n p fun p => RQ p.1 p.2 0 else RQ 0 0 2 else RQ 0 0 2 else RQ 0 0 2 : Option Res) := by kernel_rfl
theorem gd5_iff {s t n : Int} : gd5 s t n = true ↔ 1 ≤ n ∧ n ≤ 40 ∧ 1 ≤ s ∧ s ≤ 1048576 ∧ 1 ≤ t ∧ t ≤ 1099511627776 := by simp only [gd5, decide_eq_true_eq]
theorem gd5_pr {s t n : Int} (h : gd5 s t n = true) : prB s t n = true ∧ prB 0 t n = true := by
  have := gd5_iff.1 h
  exact ⟨prB_iff.2 (by omega), prB_iff.2 (by omega)⟩
theorem kc_pos {s t n : Int} (h : gd5 s t n = true) : 1 ≤ kcI s t n ∧ kcI s t n ≤ n := by
  have hg := gd5_iff.1 h
  obtain ⟨hp, _⟩ := gd5_pr h
  have h1 := (kcI_lt (k := 0) hp).2 ⟨by omega, by rw [Int.zero_mul]; exact Int.mul_pos (by omega) (by omega)⟩
  exact ⟨by omega, (kcI_range hp).2⟩
theorem va_range {s t n : Int} (h : gd5 s t n = true) : 0 ≤ vaN s t n ∧ vaN s t n ≤ 43980465111040 ∧ vaW s t n = vaN s t n := by
  have hg := gd5_iff.1 h
  obtain ⟨k1, k2⟩ := kc_pos h
  have p1 : 0 ≤ s * s := Int.mul_nonneg (by omega) (by omega)
  have p2 : s * s ≤ 1048576 * 1048576 := Int.mul_le_mul (by omega) (by omega) (by omega) (by omega)
  have p3 : 0 ≤ s * s * (n - kcI s t n) := Int.mul_nonneg p1 (by omega)
  have p4 : s * s * (n - kcI s t n) ≤ 1048576 * 1048576 * 40 := Int.mul_le_mul p2 (by omega) (by omega) (by omega)
  refine ⟨p3, by unfold vaN; omega, ?_⟩
  unfold vaW vaN
  rw [wrapI (x := s * s) (by omega) (by omega), wrapI (x := n - kcI s t n) (by omega) (by omega), wrapI (by omega) (by omega)]
theorem va_fit {s t n : Int} (h : gd5 s t n = true) : Fit (vaN s t n) (kcI s t n) := by
  obtain ⟨v1, v2, _⟩ := va_range h
  obtain ⟨k1, k2⟩ := kc_pos h
  have hg := gd5_iff.1 h
  exact ⟨by omega, fits_abs (by omega) (by omega) (by omega) (by omega)⟩
theorem fit01 : Fit 0 1 ∧ red 0 1 = (0, 1) := by
  obtain ⟨e, f⟩ := red_one 0 (by omega) (by omega)
  exact ⟨f, e⟩
theorem vaT_eq {s t n : Int} (h : gd5 s t n = true) {P Q R S : Int} (hp : Fit P Q) (hr : Fit R S) (hv : (P * kcI s t n + vaN s t n * Q) * S = R * (Q * kcI s t n)) (k : F2 → Option Res) : vaT s t n (red P Q) k = k (red R S) := by
  obtain ⟨v1, v2, vw⟩ := va_range h
  obtain ⟨k1, k2⟩ := kc_pos h
  have hg := gd5_iff.1 h
  have hf := va_fit h
  have he : mkE (vaN s t n) (kcI s t n) = 0 := by simp [mkE, hf.f]; omega
  have ex : (mkX (vaN s t n) (kcI s t n), mkY (vaN s t n) (kcI s t n)) = red (vaN s t n) (kcI s t n) := by simp [mkX, mkY, he, red]
  obtain ⟨a1, a2⟩ := a_red hp hf hr hv
  unfold vaT
  rw [vw, ex, he, a1, a2, (gd5_pr h).1, inI_of (by omega) (by omega), inI_of (by omega) (by omega), show (s == 0) = false from beq_false_of_ne (by omega)]
  rfl
theorem v2_fit {s u t n : Int} (h : gd5 s t n = true) (h' : gd5 u t n = true) : Fit (v2N s u t n) (kcI s t n * kcI u t n) := by
  obtain ⟨v1, v2, _⟩ := va_range h
  obtain ⟨k1, k2⟩ := kc_pos h
  obtain ⟨w1, w2, _⟩ := va_range h'
  obtain ⟨l1, l2⟩ := kc_pos h'
  have hg := gd5_iff.1 h
  have p0 : 0 < kcI s t n * kcI u t n := Int.mul_pos (by omega) (by omega)
  have p1 : kcI s t n * kcI u t n ≤ 40 * 40 := Int.mul_le_mul (by omega) (by omega) (by omega) (by omega)
  have p2 : 0 ≤ vaN s t n * kcI u t n := Int.mul_nonneg v1 (by omega)
  have p3 : vaN s t n * kcI u t n ≤ 43980465111040 * 40 := Int.mul_le_mul (by omega) (by omega) (by omega) (by omega)
  have p4 : 0 ≤ vaN u t n * kcI s t n := Int.mul_nonneg w1 (by omega)
  have p5 : vaN u t n * kcI s t n ≤ 43980465111040 * 40 := Int.mul_le_mul (by omega) (by omega) (by omega) (by omega)
  exact ⟨p0, fits_abs (by omega) (by unfold v2N; omega) (by unfold v2N; omega) (by omega)⟩
theorem i17_ok : SpecHolds Try.prog InvD 17 fun a => (i17.2 a).run := by
  refine specD sx17 Try.func17 (c := codeOf Try.prog 17) (by kernel_rfl) (fun _ => .unroll 3) (fun _ _ => trivial) fun args r hh => ?_
  simp only [i17] at hh
  split at hh
  · rename_i el t n
    split at hh
    · rename_i s hs
      obtain ⟨hg, hh⟩ := chk_run hh
      refine ⟨by kernel_rfl, tr_ok (by rfl) hh, ?_⟩
      rw [mk1_eq hs]
      refine (vt17a s t n _).trans (Eq.trans ?_ hh)
      have hg' := gd5_iff.1 hg
      rw [(gd5_pr hg).1, (gd5_pr hg).2, decide_eq_false (show ¬ s > 1048576 by omega), ← fit01.2, vaT_eq hg fit01.1 (va_fit hg) (by grind)]
      rfl
    · simp [Tr.run] at hh
  · rename_i el t n
    split at hh
    · rename_i s u hs hu
      obtain ⟨hg, hh⟩ := chk_run hh
      rw [Bool.and_eq_true] at hg
      refine ⟨by kernel_rfl, tr_ok (by rfl) hh, ?_⟩
      rw [mk2_eq hs hu]
      refine (vt17b s u t n _).trans (Eq.trans ?_ hh)
      have hg' := gd5_iff.1 hg.1
      have hg2 := gd5_iff.1 hg.2
      rw [(gd5_pr hg.1).1, (gd5_pr hg.1).2, (gd5_pr hg.2).1, decide_eq_false (show ¬ s > 1048576 by omega), decide_eq_false (show ¬ u > 1048576 by omega), ← fit01.2, vaT_eq hg.1 fit01.1 (va_fit hg.1) (by grind),
        vaT_eq hg.2 (va_fit hg.1) (v2_fit hg.1 hg.2) (by unfold v2N; grind)]
      rfl
    · simp [Tr.run] at hh
  · simp [Tr.run] at hh
end Go.Proofs.Ytebiafgcnmnacaa

/- Estimate of two weighted numbers: a contract. Conditions: none beyond the context's. -/
namespace Go.Proofs.Ytebiafgcnmnacaa
open Go.Evl Go.RowKit

def mw2 (k1 v1 n1 d1 k2 v2 n2 d2 : Int) (r : Nat → List AV) : Nat → List AV
  | 0 => [.int .i64 k1, .int .i64 v1, .int .i64 n1, .int .i64 d1]
  | 1 => [.int .i64 k2, .int .i64 v2, .int .i64 n2, .int .i64 d2]
  | n + 2 => r n
theorem mw2_eq {el : Nat → List AV} {k1 v1 n1 d1 k2 v2 n2 d2 : Int} (h : el 0 = [.int .i64 k1, .int .i64 v1, .int .i64 n1, .int .i64 d1]) (h1 : el 1 = [.int .i64 k2, .int .i64 v2, .int .i64 n2, .int .i64 d2]) : el = mw2 k1 v1 n1 d1 k2 v2 n2 d2 fun n => el (n + 2) := by
  funext n
  match n with
  | 0 => exact h
  | 1 => exact h1
  | n + 2 => rfl
def esG (p : F2) (v n d : Int) : Bool := wiB v (-1099511627776) 1099511627776 && (okB n d && (decide (0 ≤ n) && (mE (v, 1) (n, d) == 0 && aE p (mF (v, 1) (n, d)) == 0)))
def esF (p : F2) (v n d : Int) : F2 := aF p (mF (v, 1) (n, d))
def i18 : Ent := ⟨18, fun
  | [.isl 2 4 el] => match el 0, el 1 with
    | [.int .i64 _, .int .i64 v1, .int .i64 n1, .int .i64 d1], [.int .i64 _, .int .i64 v2, .int .i64 n2, .int .i64 d2] =>
      .chk (esG (0, 1) v1 n1 d1 && esG (esF (0, 1) v1 n1 d1) v2 n2 d2) (.leaf (.ret (.tup [.agg [.int .i64 (esF (esF (0, 1) v1 n1 d1) v2 n2 d2).1, .int .i64 (esF (esF (0, 1) v1 n1 d1) v2 n2 d2).2], .int .i64 0])))
    | _, _ => .non
  | _ => .non⟩
def esT (p : F2) (v n d : Int) (k : F2 → Option Res) : Option Res :=
  bif decide (v < -1099511627776) then RQ 0 0 2 else bif decide (v > 1099511627776) then RQ 0 0 2 else bif ckI n d != 0 then RQ 0 0 1 else bif decide (n < 0) then RQ 0 0 1
  else bif mE (v, 1) (n, d) != 0 then RQ 0 0 (mE (v, 1) (n, d)) else bif aE p (mF (v, 1) (n, d)) != 0 then RQ 0 0 (aE p (mF (v, 1) (n, d))) else k (esF p v n d)
theorem sx18 : (mkCx Try.prog (spOf [e13m, i31, e21m, e20m]) (inlOf []) extD).Ok InvD := cx_of [] (by kernel_rfl) (by
  intro p hp
  simp only [List.mem_cons, List.not_mem_nil, or_false] at hp
  rcases hp with rfl | rfl | rfl | rfl
  · exact e13m_ok
  · exact i31_ok
  · exact e21m_ok
  · exact e20m_ok)
theorem vt18 (k1 v1 n1 d1 k2 v2 n2 d2 : Int) (r : Nat → List AV) : evFn Try.prog (spOf [e13m, i31, e21m, e20m]) (inlOf []) extD (cKD [e13m, i31, e21m, e20m] []) (fun _ => .unroll 3) Try.f18 [.isl 2 4 (mw2 k1 v1 n1 d1 k2 v2 n2 d2 r)] [] (fun r _ => some r) =
    esT (0, 1) v1 n1 d1 fun p => esT p v2 n2 d2 fun p => RQ p.1 p.2 0 := by kernel_rfl
theorem esT_eq {p : F2} {v n d : Int} (h : esG p v n d = true) (k : F2 → Option Res) : esT p v n d k = k (esF p v n d) := by
  simp only [esG, Bool.and_eq_true, decide_eq_true_eq, beq_iff_eq] at h
  obtain ⟨h1, h2, h3, h4, h5⟩ := h
  rw [wiB_iff] at h1
  unfold esT
  rw [decide_eq_false (show ¬ v < -1099511627776 by omega), decide_eq_false (show ¬ v > 1099511627776 by omega), ckI_ne, h2, decide_eq_false (show ¬ n < 0 by omega), h4, h5]
  rfl
theorem i18_ok : SpecHolds Try.prog InvD 18 fun a => (i18.2 a).run := by
  refine specD sx18 Try.func18 (c := codeOf Try.prog 18) (by kernel_rfl) (fun _ => .unroll 3) (fun _ _ => trivial) fun args r hh => ?_
  simp only [i18] at hh
  split at hh
  · rename_i el
    split at hh
    · rename_i k1 v1 n1 d1 k2 v2 n2 d2 h0 h1
      obtain ⟨hg, hh⟩ := chk_run hh
      rw [Bool.and_eq_true] at hg
      refine ⟨by kernel_rfl, tr_ok (by rfl) hh, ?_⟩
      rw [mw2_eq h0 h1]
      refine (vt18 k1 v1 n1 d1 k2 v2 n2 d2 _).trans (Eq.trans ?_ hh)
      rw [esT_eq hg.1, esT_eq hg.2]
      rfl
    · simp [Tr.run] at hh
  · simp [Tr.run] at hh
end Go.Proofs.Ytebiafgcnmnacaa

/- SamplingPriority: its loop over the coins. Conditions: none beyond the context's. -/
namespace Go.Proofs.Ytebiafgcnmnacaa
open Go.Evl Go.RowKit

abbrev keep5 : List Nat := [0, 1, 7, 8, 9, 48, 49]
abbrev vs5 (s t n i : Int) : List AV := [.int .i64 s, .int .i64 t, .int .i64 n, .ptr 0 0, .ptr 1 0, .int .i64 n, .int .i64 i]
abbrev hp5 (x y z w : Int) : List Ob := [.cells [.int .i64 x, .int .i64 y] 23, .cells [.int .i64 z, .int .i64 w] 23]
def mnI (a b : Int) : Int := if a < b then a else b
def qP (s n k i : Int) : Int := mnI i k * (s * (n - k) * (s * (n - k))) + (i - mnI i k) * (s * k * (s * k))
def qN (s n k i : Int) : Int := mkN (qP s n k i) (k * k)
def qD (s n k i : Int) : Int := mkD (qP s n k i) (k * k)
def st5 (s t n i x y z w : Int) : Bool := decide (x = sN n (kcI s t n) (mnI i (kcI s t n)) ∧ y = sD n (kcI s t n) (mnI i (kcI s t n)) ∧ z = qN s n (kcI s t n) i ∧ w = qD s n (kcI s t n) i)
def f5s : List AV → List Ob → Tr (Ex × List AV × List Ob)
  | [.int .i64 s, .int .i64 t, .int .i64 n, .ptr 0 0, .ptr 1 0, .int .i64 n', .int .i64 i], [.cells [.int .i64 x, .int .i64 y] 23, .cells [.int .i64 z, .int .i64 w] 23] =>
    .chk (gd5 s t n && (decide (n' = n) && (decide (0 ≤ i ∧ i ≤ n) && st5 s t n i x y z w))) (.leaf (.exit 0, vs5 s t n n, hp5 (sN n (kcI s t n) (kcI s t n)) (sD n (kcI s t n) (kcI s t n)) (qN s n (kcI s t n) n) (qD s n (kcI s t n) n)))
  | _, _ => .non
abbrev sp5 : List Ent := [i10, i13, e27m, e28m, e29m, iAw, i17]
abbrev lp5 (_ : Nat) : LT := .sum keep5 f5s
theorem lx5 : (mkCx Try.prog (spOf sp5) (inlOf []) extD).Ok InvD := cx_of [] (by kernel_rfl) (by
  intro p hp
  simp only [sp5, List.mem_cons, List.not_mem_nil, or_false] at hp
  rcases hp with rfl | rfl | rfl | rfl | rfl | rfl | rfl
  · exact i10_ok
  · exact i13_ok
  · exact e27m_ok
  · exact e28m_ok
  · exact e29m_ok
  · exact iAw_ok
  · exact i17_ok)
noncomputable def rd5 (s t n i x y z w : Int) : Option (Ex × List AV × List Ob) := evC (β := Ex × List AV × List Ob) Try.prog (spOf sp5) (inlOf []) extD (cKD sp5 []) lp5 (bodyOf Try.prog 5 0) ⟨mkF Try.f5.ntmps keep5 (vs5 s t n i), hp5 x y z w⟩ (fun e st => (cutBack keep5 2 st).map fun q => (e, q.1, q.2))
end Go.Proofs.Ytebiafgcnmnacaa

/- SamplingPriority's walk. Conditions: none beyond the context's. -/
namespace Go.Proofs.Ytebiafgcnmnacaa
open Go.Evl Go.RowKit

abbrev X5 (s t n i x y z w : Int) : Option (Ex × List AV × List Ob) := some (.ret, vs5 s t n i, hp5 x y z w)
abbrev W5 (s t n i : Int) : F2 := (prN s t i n, prD s t i n)
def C5 (s t n i : Int) (p q : F2) : Option (Ex × List AV × List Ob) :=
  bif mE (s, 1) (W5 s t n i) != 0 then X5 s t n i p.1 p.2 q.1 q.2
  else bif sE (mF (s, 1) (W5 s t n i)) (s, 1) != 0 then X5 s t n i p.1 p.2 q.1 q.2
  else bif mE (sF (mF (s, 1) (W5 s t n i)) (s, 1)) (sF (mF (s, 1) (W5 s t n i)) (s, 1)) != 0 then X5 s t n i p.1 p.2 q.1 q.2
  else bif aE p (W5 s t n i) != 0 then X5 s t n i p.1 p.2 q.1 q.2
  else bif aE q (mF (sF (mF (s, 1) (W5 s t n i)) (s, 1)) (sF (mF (s, 1) (W5 s t n i)) (s, 1))) != 0 then X5 s t n i p.1 p.2 q.1 q.2
  else some (.normal, vs5 s t n (IntKind.i64.wrap (i + 1)), hp5 (aF p (W5 s t n i)).1 (aF p (W5 s t n i)).2 (aF q (mF (sF (mF (s, 1) (W5 s t n i)) (s, 1)) (sF (mF (s, 1) (W5 s t n i)) (s, 1)))).1 (aF q (mF (sF (mF (s, 1) (W5 s t n i)) (s, 1)) (sF (mF (s, 1) (W5 s t n i)) (s, 1)))).2)
theorem rd5_eq (s t n i x y z w : Int) : rd5 s t n i x y z w =
    (bif decide (i < n) then bif prE s t i n != 0 then X5 s t n i x y z w else bif decide (s ≥ t) then bif prK s t i n then bif !(prN s t i n == 1 && (prD s t i n == 1 && true)) then X5 s t n i x y z w else C5 s t n i (x, y) (z, w) else X5 s t n i x y z w else C5 s t n i (x, y) (z, w)
    else some (.exit 0, vs5 s t n i, hp5 x y z w)) := by kernel_rfl
theorem qP_range {s t n i : Int} (hg : gd5 s t n = true) (hi : 0 ≤ i ∧ i ≤ n) : 0 ≤ qP s n (kcI s t n) i ∧ qP s n (kcI s t n) i ≤ 70368744177664000 := by
  have g := gd5_iff.1 hg
  obtain ⟨k1, k2⟩ := kc_pos hg
  generalize kcI s t n = k at *
  have m1 : 0 ≤ mnI i k ∧ mnI i k ≤ i := by unfold mnI; split <;> omega
  have a1 : 0 ≤ s * (n - k) := Int.mul_nonneg (by omega) (by omega)
  have a2 : s * (n - k) ≤ 1048576 * 40 := Int.mul_le_mul (by omega) (by omega) (by omega) (by omega)
  have a3 : 0 ≤ s * (n - k) * (s * (n - k)) := Int.mul_nonneg a1 a1
  have a4 : s * (n - k) * (s * (n - k)) ≤ 41943040 * 41943040 := Int.mul_le_mul (by omega) (by omega) (by omega) (by omega)
  have b1 : 0 ≤ s * k := Int.mul_nonneg (by omega) (by omega)
  have b2 : s * k ≤ 1048576 * 40 := Int.mul_le_mul (by omega) (by omega) (by omega) (by omega)
  have b3 : 0 ≤ s * k * (s * k) := Int.mul_nonneg b1 b1
  have b4 : s * k * (s * k) ≤ 41943040 * 41943040 := Int.mul_le_mul (by omega) (by omega) (by omega) (by omega)
  have c1 : 0 ≤ mnI i k * (s * (n - k) * (s * (n - k))) := Int.mul_nonneg m1.1 a3
  have c2 : mnI i k * (s * (n - k) * (s * (n - k))) ≤ mnI i k * 1759218604441600 := Int.mul_le_mul_of_nonneg_left (by omega) m1.1
  have c3 : 0 ≤ (i - mnI i k) * (s * k * (s * k)) := Int.mul_nonneg (by omega) b3
  have c4 : (i - mnI i k) * (s * k * (s * k)) ≤ (i - mnI i k) * 1759218604441600 := Int.mul_le_mul_of_nonneg_left (by omega) (by omega)
  unfold qP
  omega
theorem kk_range {s t n : Int} (hg : gd5 s t n = true) : 0 < kcI s t n * kcI s t n ∧ kcI s t n * kcI s t n ≤ 1600 := by
  have g := gd5_iff.1 hg
  obtain ⟨k1, k2⟩ := kc_pos hg
  have p0 : 0 < kcI s t n * kcI s t n := Int.mul_pos (by omega) (by omega)
  have p1 : kcI s t n * kcI s t n ≤ 40 * 40 := Int.mul_le_mul (by omega) (by omega) (by omega) (by omega)
  omega
theorem q_fit {s t n i : Int} (hg : gd5 s t n = true) (hi : 0 ≤ i ∧ i ≤ n) : Fit (qP s n (kcI s t n) i) (kcI s t n * kcI s t n) := by
  obtain ⟨p1, p2⟩ := qP_range hg hi
  obtain ⟨k1, k2⟩ := kk_range hg
  exact ⟨k1, fits_abs k1 (by omega) (by omega) (by omega)⟩
theorem w_fit {s t n c : Int} (hg : gd5 s t n = true) (hc : 0 ≤ c ∧ c ≤ n) : Fit (c * n) (kcI s t n) := by
  have g := gd5_iff.1 hg
  obtain ⟨k1, k2⟩ := kc_pos hg
  have p0 : 0 ≤ c * n := Int.mul_nonneg (by omega) (by omega)
  have p1 : c * n ≤ 40 * 40 := Int.mul_le_mul (by omega) (by omega) (by omega) (by omega)
  exact ⟨by omega, fits_abs (by omega) (by omega) (by omega) (by omega)⟩
theorem s_red1 {n k c : Int} (h : 1 ≤ k) : (sN n k c, sD n k c) = red (c * n) k := by unfold sN sD red; rw [if_neg (by omega), if_neg (by omega)]
theorem small_fit {P Q : Int} (hQ : 0 < Q) (h0 : -1000000000 ≤ P) (h1 : P ≤ 1000000000) (h2 : Q ≤ 1000000000) : Fit P Q := ⟨hQ, fits_abs hQ (by omega) (by omega) (by omega)⟩
theorem kc_all {s t n : Int} (hg : gd5 s t n = true) (h : s ≥ t) : kcI s t n = n := by
  have g := gd5_iff.1 hg
  obtain ⟨k1, k2⟩ := kc_pos hg
  have hl := kcI_lt (k := kcI s t n) (gd5_pr hg).1
  rcases Int.lt_or_eq_of_le k2 with hlt | he
  · exfalso
    have : kcI s t n * t < s * n := by
      have c1 : kcI s t n * t ≤ kcI s t n * s := Int.mul_le_mul_of_nonneg_left h (by omega)
      have c2 : kcI s t n * s < n * s := Int.mul_lt_mul_of_pos_right hlt (by omega)
      rw [Int.mul_comm n s] at c2
      omega
    have := hl.2 ⟨hlt, this⟩
    omega
  · exact he
theorem mn_lt {i k : Int} (h : i < k) : mnI i k = i ∧ mnI (i + 1) k = i + 1 := by
  unfold mnI
  rw [if_pos h]
  refine ⟨rfl, ?_⟩
  split <;> omega
theorem mn_ge {i k : Int} (h : ¬ i < k) : mnI i k = k ∧ mnI (i + 1) k = k := by
  unfold mnI
  rw [if_neg h, if_neg (by omega)]
  exact ⟨rfl, rfl⟩
theorem rd5_step {s t n i x y z w : Int} (hg : gd5 s t n = true) (hi : 0 ≤ i ∧ i < n) (hs : st5 s t n i x y z w = true) :
    ∃ x' y' z' w', rd5 s t n i x y z w = some (.normal, vs5 s t n (i + 1), hp5 x' y' z' w') ∧ st5 s t n (i + 1) x' y' z' w' = true := by
  have g := gd5_iff.1 hg
  obtain ⟨k1, k2⟩ := kc_pos hg
  simp only [st5, decide_eq_true_eq] at hs
  obtain ⟨rfl, rfl, rfl, rfl⟩ := hs
  have ha : prA s t i n = true := prA_iff.2 ⟨(gd5_pr hg).1, hi.1, by omega⟩
  have he : prE s t i n = 0 := by simp [prE, ha]
  have wi : IntKind.i64.wrap (i + 1) = i + 1 := wrapI (by omega) (by omega)
  have fs : Fit s 1 ∧ red s 1 = (s, 1) := by obtain ⟨a, b⟩ := red_one s (by omega) (by omega); exact ⟨b, a⟩
  have ep : (sN n (kcI s t n) (mnI i (kcI s t n)), sD n (kcI s t n) (mnI i (kcI s t n))) = red (mnI i (kcI s t n) * n) (kcI s t n) := s_red1 k1
  have eq : (qN s n (kcI s t n) i, qD s n (kcI s t n) i) = red (qP s n (kcI s t n) i) (kcI s t n * kcI s t n) := rfl
  have m0 : 0 ≤ mnI i (kcI s t n) ∧ mnI i (kcI s t n) ≤ n := by unfold mnI; split <;> omega
  have m1 : 0 ≤ mnI (i + 1) (kcI s t n) ∧ mnI (i + 1) (kcI s t n) ≤ n := by unfold mnI; split <;> omega
  have fw0 := w_fit (c := mnI i (kcI s t n)) hg m0
  have fw1 := w_fit (c := mnI (i + 1) (kcI s t n)) hg m1
  have fq0 := q_fit (i := i) hg ⟨by omega, by omega⟩
  have fq1 := q_fit (i := i + 1) hg ⟨by omega, by omega⟩
  have kk := kk_range hg
  have sk : 0 ≤ s * n ∧ s * n ≤ 41943040 := ⟨Int.mul_nonneg (by omega) (by omega), by have : s * n ≤ 1048576 * 40 := Int.mul_le_mul (by omega) (by omega) (by omega) (by omega); omega⟩
  have snk : 0 ≤ s * (n - kcI s t n) ∧ s * (n - kcI s t n) ≤ 41943040 := ⟨Int.mul_nonneg (by omega) (by omega), by have : s * (n - kcI s t n) ≤ 1048576 * 40 := Int.mul_le_mul (by omega) (by omega) (by omega) (by omega); omega⟩
  have a3 : 0 ≤ s * (n - kcI s t n) * (s * (n - kcI s t n)) := Int.mul_nonneg snk.1 snk.1
  have a4 : s * (n - kcI s t n) * (s * (n - kcI s t n)) ≤ 41943040 * 41943040 := Int.mul_le_mul snk.2 snk.2 snk.1 (by omega)
  have ss : 0 ≤ s * s ∧ s * s ≤ 1048576 * 1048576 := ⟨Int.mul_nonneg (by omega) (by omega), Int.mul_le_mul (by omega) (by omega) (by omega) (by omega)⟩
  -- what is computed
  have main : C5 s t n i (sN n (kcI s t n) (mnI i (kcI s t n)), sD n (kcI s t n) (mnI i (kcI s t n))) (qN s n (kcI s t n) i, qD s n (kcI s t n) i) =
      some (.normal, vs5 s t n (i + 1), hp5 (sN n (kcI s t n) (mnI (i + 1) (kcI s t n))) (sD n (kcI s t n) (mnI (i + 1) (kcI s t n))) (qN s n (kcI s t n) (i + 1)) (qD s n (kcI s t n) (i + 1))) ∧
      (s ≥ t → prK s t i n = true ∧ prN s t i n = 1 ∧ prD s t i n = 1) := by
    have e1' : (sN n (kcI s t n) (mnI (i + 1) (kcI s t n)), sD n (kcI s t n) (mnI (i + 1) (kcI s t n))) = red (mnI (i + 1) (kcI s t n) * n) (kcI s t n) := s_red1 k1
    have fin : ∀ {p q : F2}, p = red (mnI (i + 1) (kcI s t n) * n) (kcI s t n) → q = red (qP s n (kcI s t n) (i + 1)) (kcI s t n * kcI s t n) →
        (some (.normal, vs5 s t n (i + 1), hp5 p.1 p.2 q.1 q.2) : Option (Ex × List AV × List Ob)) = some (.normal, vs5 s t n (i + 1), hp5 (sN n (kcI s t n) (mnI (i + 1) (kcI s t n))) (sD n (kcI s t n) (mnI (i + 1) (kcI s t n))) (qN s n (kcI s t n) (i + 1)) (qD s n (kcI s t n) (i + 1))) := by
      intro p q hp hq
      rw [← e1'] at hp
      rw [hp, hq]; rfl
    unfold C5
    rw [ep, eq, ← fs.2, wi]
    by_cases hk : i < kcI s t n
    · have hK : prK s t i n = true := by simp [prK, ha, hk]
      have hm : mkE n (kcI s t n) = 0 := mkE_part (by omega) (by omega) (by omega) (by omega)
      have hw : W5 s t n i = red n (kcI s t n) := by simp [W5, prN, prD, hK, mkX, mkY, hm, red]
      obtain ⟨q1, q2⟩ := mn_lt hk
      rw [q1] at fw0 ⊢
      have hp2 : ∀ m : Int, mnI (i + 1) (kcI s t n) = m → red (m * n) (kcI s t n) = red (mnI (i + 1) (kcI s t n) * n) (kcI s t n) := fun m hm => by rw [hm]
      have hp3 := hp2 _ q2
      rw [q2] at fw1
      have fW : Fit n (kcI s t n) := small_fit (by omega) (by omega) (by omega) (by omega)
      have fX : Fit (s * n) (kcI s t n) := small_fit (by omega) (by omega) (by omega) (by omega)
      have fY : Fit (s * (n - kcI s t n)) (kcI s t n) := small_fit (by omega) (by omega) (by omega) (by omega)
      have fZ : Fit (s * (n - kcI s t n) * (s * (n - kcI s t n))) (kcI s t n * kcI s t n) := ⟨kk.1, fits_abs kk.1 (by omega) (by omega) (by omega)⟩
      obtain ⟨x1, x2⟩ := m_red fs.1 fW fX (by rw [Int.one_mul])
      obtain ⟨y1, y2⟩ := s_red fX fs.1 fY (by grind)
      obtain ⟨z1, z2⟩ := m_red fY fY fZ rfl
      obtain ⟨w1, w2⟩ := a_red fw0 fW fw1 (by grind)
      have hq : qP s n (kcI s t n) (i + 1) = qP s n (kcI s t n) i + s * (n - kcI s t n) * (s * (n - kcI s t n)) := by
        unfold qP; rw [q1, q2]; grind
      obtain ⟨v1, v2⟩ := a_red fq0 fZ fq1 (by rw [hq]; grind)
      rw [hw, x1, x2, y1, y2, z1, z2, w1, w2, v1, v2]
      simp only [bne_self_eq_false, cond_false]
      refine ⟨fin hp3 rfl, fun hst => ?_⟩
      have hn := kc_all hg hst
      have hw2 : W5 s t n i = (1, 1) := by
        rw [hw, hn]
        obtain ⟨e1, e2⟩ := mk_unique (n := n) (m := n) (a := 1) (b := 1) (by omega) (by omega) rfl (by omega)
        unfold red; rw [e1, e2]
      exact ⟨hK, congrArg Prod.fst hw2, congrArg Prod.snd hw2⟩
    · have hK : prK s t i n = false := by simp [prK, hk]
      have hw : W5 s t n i = red 0 1 := by rw [fit01.2]; simp [W5, prN, prD, hK, he]
      obtain ⟨q1, q2⟩ := mn_ge hk
      rw [q1] at fw0 ⊢
      have hp2 : ∀ m : Int, mnI (i + 1) (kcI s t n) = m → red (m * n) (kcI s t n) = red (mnI (i + 1) (kcI s t n) * n) (kcI s t n) := fun m hm => by rw [hm]
      have hp3 := hp2 _ q2
      rw [q2] at fw1
      have f0 := fit01.1
      have fY : Fit (-s) 1 := small_fit (by omega) (by omega) (by omega) (by omega)
      have fZ : Fit (s * s) 1 := ⟨by omega, fits_abs (by omega) (by omega) (by omega) (by omega)⟩
      obtain ⟨x1, x2⟩ := m_red fs.1 f0 f0 (by grind)
      obtain ⟨y1, y2⟩ := s_red f0 fs.1 fY (by grind)
      obtain ⟨z1, z2⟩ := m_red fY fY fZ (by grind)
      obtain ⟨w1, w2⟩ := a_red fw0 f0 fw1 (by grind)
      have hq : qP s n (kcI s t n) (i + 1) = qP s n (kcI s t n) i + s * kcI s t n * (s * kcI s t n) := by
        unfold qP; rw [q1, q2]; grind
      obtain ⟨v1, v2⟩ := a_red fq0 fZ fq1 (by rw [hq]; grind)
      rw [hw, x1, x2, y1, y2, z1, z2, w1, w2, v1, v2]
      simp only [bne_self_eq_false, cond_false]
      refine ⟨fin hp3 rfl, fun hst => ?_⟩
      have hn := kc_all hg hst
      omega
  rw [rd5_eq, decide_eq_true hi.2, he, main.1]
  refine ⟨sN n (kcI s t n) (mnI (i + 1) (kcI s t n)), sD n (kcI s t n) (mnI (i + 1) (kcI s t n)), qN s n (kcI s t n) (i + 1), qD s n (kcI s t n) (i + 1), ?_, ?_⟩
  · by_cases hst : s ≥ t
    · obtain ⟨u1, u2, u3⟩ := main.2 hst
      rw [decide_eq_true hst, u1, u2, u3]; rfl
    · rw [decide_eq_false hst]; rfl
  · simp only [st5, decide_eq_true_eq]; exact ⟨trivial, trivial, trivial, trivial⟩
theorem rd5_end {s t n x y z w : Int} : rd5 s t n n x y z w = some (.exit 0, vs5 s t n n, hp5 x y z w) := by
  rw [rd5_eq, decide_eq_false (show ¬ n < n by omega)]; rfl
theorem sum5 : LoopOkT Try.prog (spOf sp5) (inlOf []) extD (cKD sp5 []) lp5 Try.f5.ntmps (bodyOf Try.prog 5 0) (.sum keep5 f5s) := by
  dsimp only [LoopOkT]
  refine ⟨by decide, by decide, fun vs _ => match vs with | [_, _, .int _ al, _, _, _, .int _ i] => (al - i).toNat | _ => 0, fun vs H R hv hR => ?_⟩
  unfold f5s at hR
  split at hR
  · rename_i s t n n' i x y z w
    obtain ⟨hc, hR⟩ := chk_run hR
    simp only [Tr.run, Option.some.injEq] at hR
    subst hR
    rw [Bool.and_eq_true, Bool.and_eq_true, Bool.and_eq_true, decide_eq_true_eq, decide_eq_true_eq] at hc
    obtain ⟨hg, rfl, hi, hs⟩ := hc
    by_cases h : i < n'
    · obtain ⟨x', y', z', w', hr, hs'⟩ := rd5_step hg ⟨hi.1, h⟩ hs
      refine ⟨_, _, _, hr, ?_, ?_⟩
      · simp only [f5s]
        rw [hg, hs', decide_eq_true (show 0 ≤ i + 1 ∧ i + 1 ≤ n' by omega)]
        rfl
      · show (n' - (i + 1)).toNat < (n' - i).toNat
        omega
    · have e : i = n' := by omega
      subst e
      refine ⟨_, _, _, rd5_end, ?_⟩
      simp only [st5, decide_eq_true_eq] at hs
      obtain ⟨k1, k2⟩ := kc_pos hg
      have : mnI i (kcI s t i) = kcI s t i := by unfold mnI; split <;> omega
      rw [this] at hs
      obtain ⟨rfl, rfl, rfl, rfl⟩ := hs
      rfl
  · simp [Tr.run] at hR
end Go.Proofs.Ytebiafgcnmnacaa

/- SamplingPriority's walk, joined. Conditions: none beyond the context's. -/
namespace Go.Proofs.Ytebiafgcnmnacaa
open Go.Evl Go.RowKit
abbrev V5 (s t n : Int) : F2 := (mkN (vaN s t n) (kcI s t n), mkD (vaN s t n) (kcI s t n))
def T5 (s t n : Int) : Option Res :=
  bif decide (s < 1) then RB true else bif decide (s > 1048576) then RB true else bif decide (t < 1) then RB true else bif decide (t > 1099511627776) then RB true
  else bif gd5 s t n && (decide (n = n) && (decide ((0 : Int) ≤ 0 ∧ 0 ≤ n) && st5 s t n 0 0 1 0 1)) then bif gd5 s t n then
    bif sN n (kcI s t n) (kcI s t n) == n && (sD n (kcI s t n) (kcI s t n) == 1 && true) then bif mE (V5 s t n) (n, 1) != 0 then RB true
      else bif (mF (V5 s t n) (n, 1)).1 == qN s n (kcI s t n) n && ((mF (V5 s t n) (n, 1)).2 == qD s n (kcI s t n) n && true) then RB true else RB false
    else RB false
  else none else none
theorem lt5 (s t w : Int) : evFn Try.prog (spOf sp5) (inlOf []) extD (cKD sp5 []) lp5 Try.f5 [.int .i64 s, .int .i64 t, .int .u8 w] [] (fun r _ => some r) = T5 s t (IntKind.i64.wrap (1 + (IntKind.i64.wrap w).tmod 40)) := by kernel_rfl
theorem T5_eq {s t n : Int} (hn : 1 ≤ n ∧ n ≤ 40) : T5 s t n = RB true := by
  unfold T5
  by_cases h1 : s < 1
  · rw [decide_eq_true h1]; rfl
  by_cases h2 : s > 1048576
  · rw [decide_eq_false h1, decide_eq_true h2]; rfl
  by_cases h3 : t < 1
  · rw [decide_eq_false h1, decide_eq_false h2, decide_eq_true h3]; rfl
  by_cases h4 : t > 1099511627776
  · rw [decide_eq_false h1, decide_eq_false h2, decide_eq_false h3, decide_eq_true h4]; rfl
  have hg : gd5 s t n = true := gd5_iff.2 (by omega)
  obtain ⟨k1, k2⟩ := kc_pos hg
  have m0 : mnI 0 (kcI s t n) = 0 := by unfold mnI; rw [if_pos (by omega)]
  have hs : st5 s t n 0 0 1 0 1 = true := by
    have e1 : (sN n (kcI s t n) 0, sD n (kcI s t n) 0) = (0, 1) := by
      rw [s_red1 k1, ← fit01.2]
      exact red_same (w_fit (c := 0) hg ⟨by omega, by omega⟩) fit01.1 (by grind)
    have e2 : (qN s n (kcI s t n) 0, qD s n (kcI s t n) 0) = (0, 1) := by
      rw [← fit01.2]
      have hq : qP s n (kcI s t n) 0 = 0 := by unfold qP; rw [m0]; grind
      exact red_same (q_fit (i := 0) hg ⟨by omega, by omega⟩) fit01.1 (by rw [hq]; grind)
    simp only [st5, decide_eq_true_eq, m0]
    exact ⟨(congrArg Prod.fst e1).symm, (congrArg Prod.snd e1).symm, (congrArg Prod.fst e2).symm, (congrArg Prod.snd e2).symm⟩
  obtain ⟨f1, f2⟩ := s_full (all := n) (part := kcI s t n) (by omega) (by omega)
  have fn1 : red n 1 = (n, 1) ∧ Fit n 1 := red_one n (by omega) (by omega)
  obtain ⟨v1, v2, _⟩ := va_range hg
  have vn : 0 ≤ vaN s t n * n ∧ vaN s t n * n ≤ 43980465111040 * 40 := ⟨Int.mul_nonneg v1 (by omega), Int.mul_le_mul v2 (by omega) (by omega) (by omega)⟩
  have fV : Fit (vaN s t n * n) (kcI s t n) := ⟨by omega, fits_abs (by omega) (by omega) (by omega) (by omega)⟩
  obtain ⟨a1, a2⟩ := m_red (va_fit hg) fn1.2 fV (by grind)
  have mn : mnI n (kcI s t n) = kcI s t n := by unfold mnI; split <;> omega
  have hsame : red (vaN s t n * n) (kcI s t n) = red (qP s n (kcI s t n) n) (kcI s t n * kcI s t n) := by
    refine red_same fV (q_fit (i := n) hg ⟨by omega, by omega⟩) ?_
    unfold qP vaN
    rw [mn]
    grind
  have e3 : mF (V5 s t n) (n, 1) = (qN s n (kcI s t n) n, qD s n (kcI s t n) n) := by
    rw [← fn1.1]
    exact a1.trans hsame
  have e4 : mE (V5 s t n) (n, 1) = 0 := by rw [← fn1.1]; exact a2
  rw [decide_eq_false h1, decide_eq_false h2, decide_eq_false h3, decide_eq_false h4, hg, hs, f1, f2, e3, e4, decide_eq_true (show (0 : Int) ≤ 0 ∧ 0 ≤ n by omega)]
  simp only [decide_true, Bool.and_self, cond_true, cond_false, beq_self_eq_true, bne_self_eq_false]
def l5 : Ent := ⟨5, fun
  | [.int .i64 _, .int .i64 _, .int .u8 w] => .chk (inU8 w) (.leaf (.ret (.bool true)))
  | _ => .non⟩
theorem l5_run {a b w : Int} (_ : inI a = true) (_ : inI b = true) (hw : inU8 w = true) : (l5.2 [.int .i64 a, .int .i64 b, .int .u8 w]).run = some (.ret (.bool true)) := by
  simp only [l5, Tr.run, hw, cond_true]
set_option maxRecDepth 100000 in
theorem l5_ok : SpecHolds Try.prog InvD 5 fun a => (l5.2 a).run := by
  refine specD lx5 Try.func5 (c := codeOf Try.prog 5) (by kernel_rfl) lp5 (fun p hp => ?_) fun args r hh => ?_
  · have hl : loops (codeOf Try.prog 5) = [(0, bodyOf Try.prog 5 0)] := by kernel_rfl
    rw [hl, List.mem_singleton] at hp
    subst hp
    exact sum5
  simp only [l5] at hh
  split at hh
  · rename_i a b w
    obtain ⟨hg, hh⟩ := chk_run hh
    refine ⟨by kernel_rfl, tr_ok (by rfl) hh, ?_⟩
    refine (lt5 a b w).trans (Eq.trans ?_ hh)
    simp only [inU8, decide_eq_true_eq] at hg
    have e1 : IntKind.i64.wrap w = w := wrapI (by omega) (by omega)
    have e3 : w.tmod 40 = w % 40 := Int.tmod_eq_emod_of_nonneg (by omega)
    rw [e1, e3, wrapI (x := 1 + w % 40) (by omega) (by omega)]
    exact T5_eq (by omega)
  · simp [Tr.run] at hh
end Go.Proofs.Ytebiafgcnmnacaa

/- SamplingSums: its loops over the coins. Conditions: none beyond the context's. -/
namespace Go.Proofs.Ytebiafgcnmnacaa
open Go.Evl Go.RowKit

abbrev keep6i : List Nat := [0, 1, 2, 9, 10, 11, 57, 58, 61, 62]
abbrev keep6o : List Nat := [0, 1, 2, 9, 10, 57, 58]
abbrev vs6i (s u t n i k : Int) : List AV := [.int .i64 s, .int .i64 u, .int .i64 t, .int .i64 n, .ptr 0 0, .int .i64 i, .int .i64 n, .int .i64 i, .int .i64 n, .int .i64 k]
abbrev vs6o (s u t n i : Int) : List AV := [.int .i64 s, .int .i64 u, .int .i64 t, .int .i64 n, .ptr 0 0, .int .i64 n, .int .i64 i]
abbrev hp6 (x y : Int) : List Ob := [.cells [.int .i64 x, .int .i64 y] 23]
def gd6 (s u t n : Int) : Bool := decide (n ≤ 12) && (gd5 s t n && gd5 u t n)
def onI (a b : Int) : Int := if a < b then 1 else 0
/-- the sum's numerator over the product of both numbers of coins, after i rounds and k steps -/
def pP (s u n k1 k2 i k : Int) : Int := n * n * s * mnI i k1 * k2 + i * u * n * k1 * k2 + k * s * n * onI i k1 * k2 + u * n * mnI k k2 * k1
def pN (s u t n i k : Int) : Int := mkN (pP s u n (kcI s t n) (kcI u t n) i k) (kcI s t n * kcI u t n)
def pD (s u t n i k : Int) : Int := mkD (pP s u n (kcI s t n) (kcI u t n) i k) (kcI s t n * kcI u t n)
def st6 (s u t n i k x y : Int) : Bool := decide (x = pN s u t n i k ∧ y = pD s u t n i k)
def f6i : List AV → List Ob → Tr (Ex × List AV × List Ob)
  | [.int .i64 s, .int .i64 u, .int .i64 t, .int .i64 n, .ptr 0 0, .int .i64 i, .int .i64 n1, .int .i64 i1, .int .i64 n2, .int .i64 k], [.cells [.int .i64 x, .int .i64 y] 23] =>
    .chk (gd6 s u t n && (decide (n1 = n ∧ i1 = i ∧ n2 = n) && (decide (0 ≤ i ∧ i < n ∧ 0 ≤ k ∧ k ≤ n) && st6 s u t n i k x y))) (.leaf (.exit 2, vs6i s u t n i n, hp6 (pN s u t n i n) (pD s u t n i n)))
  | _, _ => .non
def f6o : List AV → List Ob → Tr (Ex × List AV × List Ob)
  | [.int .i64 s, .int .i64 u, .int .i64 t, .int .i64 n, .ptr 0 0, .int .i64 n1, .int .i64 i], [.cells [.int .i64 x, .int .i64 y] 23] =>
    .chk (gd6 s u t n && (decide (n1 = n) && (decide (0 ≤ i ∧ i ≤ n) && st6 s u t n i 0 x y))) (.leaf (.exit 0, vs6o s u t n n, hp6 (pN s u t n n 0) (pD s u t n n 0)))
  | _, _ => .non
abbrev sp6 : List Ent := [i10, i13, i18, e27m, iAw, i17]
abbrev lp6 (i : Nat) : LT := bif Nat.beq i 0 then .sum keep6o f6o else .sum keep6i f6i
theorem lx6 : (mkCx Try.prog (spOf sp6) (inlOf []) extD).Ok InvD := cx_of [] (by kernel_rfl) (by
  intro p hp
  simp only [sp6, List.mem_cons, List.not_mem_nil, or_false] at hp
  rcases hp with rfl | rfl | rfl | rfl | rfl | rfl
  · exact i10_ok
  · exact i13_ok
  · exact i18_ok
  · exact e27m_ok
  · exact iAw_ok
  · exact i17_ok)
noncomputable def rd6i (s u t n i k x y : Int) : Option (Ex × List AV × List Ob) := evC (β := Ex × List AV × List Ob) Try.prog (spOf sp6) (inlOf []) extD (cKD sp6 []) lp6 (bodyOf Try.prog 6 2) ⟨mkF Try.f6.ntmps keep6i (vs6i s u t n i k), hp6 x y⟩ (fun e st => (cutBack keep6i 1 st).map fun q => (e, q.1, q.2))
noncomputable def rd6o (s u t n i x y : Int) : Option (Ex × List AV × List Ob) := evC (β := Ex × List AV × List Ob) Try.prog (spOf sp6) (inlOf []) extD (cKD sp6 []) lp6 (bodyOf Try.prog 6 0) ⟨mkF Try.f6.ntmps keep6o (vs6o s u t n i), hp6 x y⟩ (fun e st => (cutBack keep6o 1 st).map fun q => (e, q.1, q.2))
end Go.Proofs.Ytebiafgcnmnacaa

/- SamplingSums' walk. Conditions: none beyond the context's. -/
namespace Go.Proofs.Ytebiafgcnmnacaa
open Go.Evl Go.RowKit

abbrev X6 (s u t n i k x y : Int) : Option (Ex × List AV × List Ob) := some (.ret, vs6i s u t n i k, hp6 x y)
theorem rd6i_eq (s u t n i k x y : Int) : rd6i s u t n i k x y =
    (bif decide (k < n) then
      bif esG (0, 1) s (prN s t i n) (prD s t i n) && esG (esF (0, 1) s (prN s t i n) (prD s t i n)) u (prN u t k n) (prD u t k n) then
        bif prE s t i n != 0 then X6 s u t n i k x y else bif prE u t k n != 0 then X6 s u t n i k x y
        else bif aE (x, y) (esF (esF (0, 1) s (prN s t i n) (prD s t i n)) u (prN u t k n) (prD u t k n)) != 0 then X6 s u t n i k x y
        else some (.normal, vs6i s u t n i (IntKind.i64.wrap (k + 1)), hp6 (aF (x, y) (esF (esF (0, 1) s (prN s t i n) (prD s t i n)) u (prN u t k n) (prD u t k n))).1 (aF (x, y) (esF (esF (0, 1) s (prN s t i n) (prD s t i n)) u (prN u t k n) (prD u t k n))).2)
      else none
    else some (.exit 2, vs6i s u t n i k, hp6 x y)) := by kernel_rfl
theorem rd6o_eq (s u t n i x y : Int) : rd6o s u t n i x y =
    (bif decide (i < n) then bif gd6 s u t n && (decide (n = n ∧ i = i ∧ n = n) && (decide (0 ≤ i ∧ i < n ∧ (0 : Int) ≤ 0 ∧ 0 ≤ n) && st6 s u t n i 0 x y)) then some (.normal, vs6o s u t n (IntKind.i64.wrap (i + 1)), hp6 (pN s u t n i n) (pD s u t n i n)) else none
    else some (.exit 0, vs6o s u t n i, hp6 x y)) := by kernel_rfl
theorem gd6_iff {s u t n : Int} : gd6 s u t n = true ↔ n ≤ 12 ∧ gd5 s t n = true ∧ gd5 u t n = true := by unfold gd6; rw [Bool.and_eq_true, Bool.and_eq_true, decide_eq_true_eq]
/-- the weight with a coin -/
theorem pr_weight {s t n i : Int} (hg : gd5 s t n = true) (hi : 0 ≤ i ∧ i < n) : (prN s t i n, prD s t i n) = red (n * onI i (kcI s t n)) (kcI s t n) ∧ prE s t i n = 0 := by
  have g := gd5_iff.1 hg
  obtain ⟨k1, k2⟩ := kc_pos hg
  have ha : prA s t i n = true := prA_iff.2 ⟨(gd5_pr hg).1, hi.1, by omega⟩
  have he : prE s t i n = 0 := by simp [prE, ha]
  refine ⟨?_, he⟩
  by_cases hk : i < kcI s t n
  · have hK : prK s t i n = true := by simp [prK, ha, hk]
    have hm : mkE n (kcI s t n) = 0 := mkE_part (by omega) (by omega) (by omega) (by omega)
    simp [prN, prD, hK, mkX, mkY, hm, red, onI, hk]
  · have hK : prK s t i n = false := by simp [prK, hk]
    have e : n * onI i (kcI s t n) = 0 := by simp [onI, hk]
    rw [e]
    have : red 0 (kcI s t n) = red 0 1 := red_same (small_fit (by omega) (by omega) (by omega) (by omega)) fit01.1 (by grind)
    rw [this, fit01.2]
    simp [prN, prD, hK, he]
theorem on_range (a b : Int) : 0 ≤ onI a b ∧ onI a b ≤ 1 := by unfold onI; split <;> omega
theorem mulBd {a b A B : Int} (h0 : 0 ≤ a) (h1 : a ≤ A) (h2 : 0 ≤ b) (h3 : b ≤ B) : 0 ≤ a * b ∧ a * b ≤ A * B := ⟨Int.mul_nonneg h0 h2, Int.mul_le_mul h1 h3 h2 (by omega)⟩
theorem pP_range {s u n k1 k2 i k : Int} (hn : 1 ≤ n ∧ n ≤ 12) (hs : 1 ≤ s ∧ s ≤ 1048576) (hu : 1 ≤ u ∧ u ≤ 1048576) (h1 : 1 ≤ k1 ∧ k1 ≤ n) (h2 : 1 ≤ k2 ∧ k2 ≤ n) (hi : 0 ≤ i ∧ i ≤ n) (hk : 0 ≤ k ∧ k ≤ n) : 0 ≤ pP s u n k1 k2 i k ∧ pP s u n k1 k2 i k ≤ 1152921504606846976 := by
  have m1 : 0 ≤ mnI i k1 ∧ mnI i k1 ≤ 12 := by unfold mnI; split <;> omega
  have m2 : 0 ≤ mnI k k2 ∧ mnI k k2 ≤ 12 := by unfold mnI; split <;> omega
  have o1 := on_range i k1
  have a1 := mulBd (a := n) (b := n) (A := 12) (B := 12) (by omega) (by omega) (by omega) (by omega)
  have a2 := mulBd a1.1 a1.2 (show 0 ≤ s by omega) hs.2
  have a3 := mulBd a2.1 a2.2 m1.1 m1.2
  have a4 := mulBd (B := 12) a3.1 a3.2 (show 0 ≤ k2 by omega) (by omega)
  have b1 := mulBd (A := 12) (B := 1048576) hi.1 (show i ≤ 12 by omega) (show 0 ≤ u by omega) hu.2
  have b2 := mulBd (B := 12) b1.1 b1.2 (show 0 ≤ n by omega) (by omega)
  have b3 := mulBd (B := 12) b2.1 b2.2 (show 0 ≤ k1 by omega) (by omega)
  have b4 := mulBd (B := 12) b3.1 b3.2 (show 0 ≤ k2 by omega) (by omega)
  have c1 := mulBd (A := 12) (B := 1048576) hk.1 (show k ≤ 12 by omega) (show 0 ≤ s by omega) hs.2
  have c2 := mulBd (B := 12) c1.1 c1.2 (show 0 ≤ n by omega) (by omega)
  have c3 := mulBd c2.1 c2.2 o1.1 o1.2
  have c4 := mulBd (B := 12) c3.1 c3.2 (show 0 ≤ k2 by omega) (by omega)
  have d1 := mulBd (A := 1048576) (B := 12) (show 0 ≤ u by omega) hu.2 (show 0 ≤ n by omega) (by omega)
  have d2 := mulBd d1.1 d1.2 m2.1 m2.2
  have d3 := mulBd (B := 12) d2.1 d2.2 (show 0 ≤ k1 by omega) (by omega)
  unfold pP
  omega
section
variable {s u t n i k : Int}
theorem p_fit (hg : gd6 s u t n = true) (hi : 0 ≤ i ∧ i ≤ n) (hk : 0 ≤ k ∧ k ≤ n) : Fit (pP s u n (kcI s t n) (kcI u t n) i k) (kcI s t n * kcI u t n) := by
  obtain ⟨n12, g1, g2⟩ := gd6_iff.1 hg
  have h1 := gd5_iff.1 g1
  have h2 := gd5_iff.1 g2
  have q1 := kc_pos g1
  have q2 := kc_pos g2
  obtain ⟨r1, r2⟩ := pP_range (s := s) (u := u) (n := n) (k1 := kcI s t n) (k2 := kcI u t n) (i := i) (k := k) (by omega) (by omega) (by omega) q1 q2 hi hk
  have p0 : 0 < kcI s t n * kcI u t n := Int.mul_pos (by omega) (by omega)
  have p1 : kcI s t n * kcI u t n ≤ 12 * 12 := Int.mul_le_mul (by omega) (by omega) (by omega) (by omega)
  exact ⟨p0, fits_abs p0 (by omega) (by omega) (by omega)⟩
theorem mn_step {i k : Int} (h : 0 ≤ i) (hk : 1 ≤ k) : mnI (i + 1) k = mnI i k + onI i k := by
  unfold mnI onI
  by_cases c : i < k
  · rw [if_pos c, if_pos c]; split <;> omega
  · rw [if_neg c, if_neg c, if_neg (by omega)]; omega
theorem rd6i_step {x y : Int} (hg : gd6 s u t n = true) (hi : 0 ≤ i ∧ i < n) (hk : 0 ≤ k ∧ k < n) (hs : st6 s u t n i k x y = true) :
    rd6i s u t n i k x y = some (.normal, vs6i s u t n i (k + 1), hp6 (pN s u t n i (k + 1)) (pD s u t n i (k + 1))) := by
  obtain ⟨n12, g1, g2⟩ := gd6_iff.1 hg
  have h1 := gd5_iff.1 g1
  have h2 := gd5_iff.1 g2
  have q1 := kc_pos g1
  have q2 := kc_pos g2
  simp only [st6, decide_eq_true_eq] at hs
  obtain ⟨rfl, rfl⟩ := hs
  obtain ⟨w1, e1⟩ := pr_weight g1 hi
  obtain ⟨w2, e2⟩ := pr_weight g2 hk
  have o1 := on_range i (kcI s t n)
  have o2 := on_range k (kcI u t n)
  have wk : IntKind.i64.wrap (k + 1) = k + 1 := wrapI (by omega) (by omega)
  have no1 := mulBd (A := 12) (show 0 ≤ n by omega) (by omega) o1.1 o1.2
  have no2 := mulBd (A := 12) (show 0 ≤ n by omega) (by omega) o2.1 o2.2
  have fW1 : Fit (n * onI i (kcI s t n)) (kcI s t n) := small_fit (by omega) (by omega) (by omega) (by omega)
  have fW2 : Fit (n * onI k (kcI u t n)) (kcI u t n) := small_fit (by omega) (by omega) (by omega) (by omega)
  obtain ⟨es, fs⟩ := red_one s (by omega) (by omega)
  obtain ⟨eu, fu⟩ := red_one u (by omega) (by omega)
  have sn1 := mulBd (a := s) (b := n * onI i (kcI s t n)) (A := 1048576) (B := 12) (by omega) (by omega) no1.1 (by omega)
  have un1 := mulBd (a := u) (b := n * onI k (kcI u t n)) (A := 1048576) (B := 12) (by omega) (by omega) no2.1 (by omega)
  have fX1 : Fit (s * (n * onI i (kcI s t n))) (kcI s t n) := small_fit (by omega) (by omega) (by omega) (by omega)
  have fX2 : Fit (u * (n * onI k (kcI u t n))) (kcI u t n) := small_fit (by omega) (by omega) (by omega) (by omega)
  have p0 : 0 < kcI s t n * kcI u t n := Int.mul_pos (by omega) (by omega)
  have p1 : kcI s t n * kcI u t n ≤ 12 * 12 := Int.mul_le_mul (by omega) (by omega) (by omega) (by omega)
  have y1 := mulBd (B := 12) sn1.1 sn1.2 (show 0 ≤ kcI u t n by omega) (by omega)
  have y2 := mulBd (B := 12) un1.1 un1.2 (show 0 ≤ kcI s t n by omega) (by omega)
  have fY : Fit (s * (n * onI i (kcI s t n)) * kcI u t n + u * (n * onI k (kcI u t n)) * kcI s t n) (kcI s t n * kcI u t n) := small_fit p0 (by omega) (by omega) (by omega)
  have f0 := fit01.1
  obtain ⟨m1, m1e⟩ := m_red fs fW1 fX1 (by rw [Int.one_mul])
  obtain ⟨m2, m2e⟩ := m_red fu fW2 fX2 (by rw [Int.one_mul])
  obtain ⟨a1, a1e⟩ := a_red f0 fX1 fX1 (by grind)
  obtain ⟨a2, a2e⟩ := a_red fX1 fX2 fY rfl
  rw [es] at m1 m1e
  rw [eu] at m2 m2e
  rw [fit01.2] at a1 a1e
  have hp : pP s u n (kcI s t n) (kcI u t n) i (k + 1) = pP s u n (kcI s t n) (kcI u t n) i k + (s * (n * onI i (kcI s t n)) * kcI u t n + u * (n * onI k (kcI u t n)) * kcI s t n) := by
    unfold pP; rw [mn_step hk.1 q2.1]; grind
  obtain ⟨b1, b1e⟩ := a_red (p_fit (i := i) (k := k) hg ⟨by omega, by omega⟩ ⟨by omega, by omega⟩) fY (p_fit (i := i) (k := k + 1) hg ⟨by omega, by omega⟩ ⟨by omega, by omega⟩) (by rw [hp]; grind)
  have ok1 := fW1.ok
  have ok2 := fW2.ok
  rw [← w1] at ok1 m1 m1e
  rw [← w2] at ok2 m2 m2e
  have nn : ∀ {P Q : Int}, 0 < Q → 0 ≤ P → 0 ≤ (red P Q).1 := by
    intro P Q hQ hP
    simp only [red]
    have := mkN_pos hQ hP
    rw [this]
    exact (mkA_range (a := P) (b := Q) (by omega)).1
  have nn1 : 0 ≤ prN s t i n := by have := nn (P := n * onI i (kcI s t n)) (Q := kcI s t n) (by omega) no1.1; rw [← w1] at this; exact this
  have nn2 : 0 ≤ prN u t k n := by have := nn (P := n * onI k (kcI u t n)) (Q := kcI u t n) (by omega) no2.1; rw [← w2] at this; exact this
  have x1 : esF (0, 1) s (prN s t i n) (prD s t i n) = red (s * (n * onI i (kcI s t n))) (kcI s t n) := by unfold esF; rw [m1, a1]
  have x2 : esF (red (s * (n * onI i (kcI s t n))) (kcI s t n)) u (prN u t k n) (prD u t k n) = red (s * (n * onI i (kcI s t n)) * kcI u t n + u * (n * onI k (kcI u t n)) * kcI s t n) (kcI s t n * kcI u t n) := by unfold esF; rw [m2, a2]
  have z1 : esG (0, 1) s (prN s t i n) (prD s t i n) = true := by
    unfold esG
    rw [m1, m1e, a1e, ok1, decide_eq_true nn1, wiB_iff.2 (show -1099511627776 ≤ s ∧ s ≤ 1099511627776 by omega)]
    rfl
  have z2 : esG (red (s * (n * onI i (kcI s t n))) (kcI s t n)) u (prN u t k n) (prD u t k n) = true := by
    unfold esG
    rw [m2, m2e, a2e, ok2, decide_eq_true nn2, wiB_iff.2 (show -1099511627776 ≤ u ∧ u ≤ 1099511627776 by omega)]
    rfl
  have ep : (pN s u t n i k, pD s u t n i k) = red (pP s u n (kcI s t n) (kcI u t n) i k) (kcI s t n * kcI u t n) := rfl
  rw [rd6i_eq, decide_eq_true hk.2, x1, z1, z2, e1, e2, x2, ep, b1, b1e, wk]
  rfl
theorem rd6i_end {x y : Int} : rd6i s u t n i n x y = some (.exit 2, vs6i s u t n i n, hp6 x y) := by
  rw [rd6i_eq, decide_eq_false (show ¬ n < n by omega)]; rfl
end
theorem sum6i : LoopOkT Try.prog (spOf sp6) (inlOf []) extD (cKD sp6 []) lp6 Try.f6.ntmps (bodyOf Try.prog 6 2) (.sum keep6i f6i) := by
  dsimp only [LoopOkT]
  refine ⟨by decide, by decide, fun vs _ => match vs with | [_, _, _, .int _ al, _, _, _, _, _, .int _ i] => (al - i).toNat | _ => 0, fun vs H R hv hR => ?_⟩
  unfold f6i at hR
  split at hR
  · rename_i s u t n i n1 i1 n2 k x y
    obtain ⟨hc, hR⟩ := chk_run hR
    simp only [Tr.run, Option.some.injEq] at hR
    subst hR
    rw [Bool.and_eq_true, Bool.and_eq_true, Bool.and_eq_true, decide_eq_true_eq, decide_eq_true_eq] at hc
    obtain ⟨hg, ⟨e1, e2, e3⟩, hi, hs⟩ := hc
    subst e1 e2 e3
    by_cases h : k < n2
    · refine ⟨_, _, _, rd6i_step hg ⟨hi.1, hi.2.1⟩ ⟨hi.2.2.1, h⟩ hs, ?_, ?_⟩
      · simp only [f6i]
        rw [hg, decide_eq_true (show 0 ≤ i1 ∧ i1 < n2 ∧ 0 ≤ k + 1 ∧ k + 1 ≤ n2 by omega)]
        simp only [st6, and_self, decide_true, Bool.and_self]
        rfl
      · show (n2 - (k + 1)).toNat < (n2 - k).toNat
        omega
    · have e : k = n2 := by omega
      subst e
      refine ⟨_, _, _, rd6i_end, ?_⟩
      simp only [st6, decide_eq_true_eq] at hs
      obtain ⟨rfl, rfl⟩ := hs
      rfl
  · simp [Tr.run] at hR
theorem p_next {s u t n i : Int} (hg : gd6 s u t n = true) (hi : 0 ≤ i ∧ i < n) : pP s u n (kcI s t n) (kcI u t n) i n = pP s u n (kcI s t n) (kcI u t n) (i + 1) 0 := by
  obtain ⟨n12, g1, g2⟩ := gd6_iff.1 hg
  have q1 := kc_pos g1
  have q2 := kc_pos g2
  have e1 : mnI n (kcI u t n) = kcI u t n := by unfold mnI; split <;> omega
  have e0 : mnI 0 (kcI u t n) = 0 := by unfold mnI; rw [if_pos (by omega)]
  unfold pP
  rw [mn_step hi.1 q1.1, e1, e0]
  grind
theorem sum6o : LoopOkT Try.prog (spOf sp6) (inlOf []) extD (cKD sp6 []) lp6 Try.f6.ntmps (bodyOf Try.prog 6 0) (.sum keep6o f6o) := by
  dsimp only [LoopOkT]
  refine ⟨by decide, by decide, fun vs _ => match vs with | [_, _, _, _, _, .int _ al, .int _ i] => (al - i).toNat | _ => 0, fun vs H R hv hR => ?_⟩
  unfold f6o at hR
  split at hR
  · rename_i s u t n n1 i x y
    obtain ⟨hc, hR⟩ := chk_run hR
    simp only [Tr.run, Option.some.injEq] at hR
    subst hR
    rw [Bool.and_eq_true, Bool.and_eq_true, Bool.and_eq_true, decide_eq_true_eq, decide_eq_true_eq] at hc
    obtain ⟨hg, rfl, hi, hs⟩ := hc
    have hn := gd5_iff.1 (gd6_iff.1 hg).2.1
    by_cases h : i < n1
    · have hr := rd6o_eq s u t n1 i x y
      rw [decide_eq_true h, hg, hs, decide_eq_true (show 0 ≤ i ∧ i < n1 ∧ (0 : Int) ≤ 0 ∧ 0 ≤ n1 by omega), wrapI (x := i + 1) (by omega) (by omega)] at hr
      simp only [and_self, decide_true, Bool.and_self, cond_true] at hr
      refine ⟨_, _, _, hr, ?_, ?_⟩
      · simp only [f6o]
        rw [hg, decide_eq_true (show 0 ≤ i + 1 ∧ i + 1 ≤ n1 by omega)]
        have hp := p_next hg ⟨hi.1, h⟩
        simp only [st6, pN, pD, hp, and_self, decide_true, Bool.and_self]
        rfl
      · show (n1 - (i + 1)).toNat < (n1 - i).toNat
        omega
    · have e : i = n1 := by omega
      subst e
      have hr := rd6o_eq s u t i i x y
      rw [decide_eq_false (show ¬ i < i by omega)] at hr
      refine ⟨_, _, _, hr, ?_⟩
      simp only [st6, decide_eq_true_eq] at hs
      obtain ⟨rfl, rfl⟩ := hs
      rfl
  · simp [Tr.run] at hR
end Go.Proofs.Ytebiafgcnmnacaa

/- SamplingSums' walk, joined. Conditions: none beyond the context's. -/
namespace Go.Proofs.Ytebiafgcnmnacaa
open Go.Evl Go.RowKit
def T6 (s u t n : Int) : Option Res :=
  bif decide (s < 1) then RB true else bif decide (s > 1048576) then RB true else bif decide (u < 1) then RB true else bif decide (u > 1048576) then RB true else bif decide (t < 1) then RB true else bif decide (t > 1099511627776) then RB true
  else bif gd6 s u t n && (decide (n = n) && (decide ((0 : Int) ≤ 0 ∧ 0 ≤ n) && st6 s u t n 0 0 0 1)) then bif gd5 s t n then bif gd5 u t n then bif gd5 s t n && gd5 u t n then
    bif 0 == aE (V5 s t n) (V5 u t n) then
      bif mkN (v2N s u t n) (kcI s t n * kcI u t n) == (aF (V5 s t n) (V5 u t n)).1 && (mkD (v2N s u t n) (kcI s t n * kcI u t n) == (aF (V5 s t n) (V5 u t n)).2 && true) then
        bif pN s u t n n 0 == IntKind.i64.wrap (IntKind.i64.wrap (n * n) * IntKind.i64.wrap (s + u)) && (pD s u t n n 0 == 1 && true) then RB true else RB false
      else RB false
    else RB false
  else none else none else none else none
theorem lt6 (s u t w : Int) : evFn Try.prog (spOf sp6) (inlOf []) extD (cKD sp6 []) lp6 Try.f6 [.int .i64 s, .int .i64 u, .int .i64 t, .int .u8 w] [] (fun r _ => some r) = T6 s u t (IntKind.i64.wrap (1 + (IntKind.i64.wrap w).tmod 12)) := by kernel_rfl
theorem T6_eq {s u t n : Int} (hn : 1 ≤ n ∧ n ≤ 12) : T6 s u t n = RB true := by
  unfold T6
  by_cases h1 : s < 1
  · rw [decide_eq_true h1]; rfl
  by_cases h2 : s > 1048576
  · rw [decide_eq_false h1, decide_eq_true h2]; rfl
  by_cases h3 : u < 1
  · rw [decide_eq_false h1, decide_eq_false h2, decide_eq_true h3]; rfl
  by_cases h4 : u > 1048576
  · rw [decide_eq_false h1, decide_eq_false h2, decide_eq_false h3, decide_eq_true h4]; rfl
  by_cases h5 : t < 1
  · rw [decide_eq_false h1, decide_eq_false h2, decide_eq_false h3, decide_eq_false h4, decide_eq_true h5]; rfl
  by_cases h6 : t > 1099511627776
  · rw [decide_eq_false h1, decide_eq_false h2, decide_eq_false h3, decide_eq_false h4, decide_eq_false h5, decide_eq_true h6]; rfl
  have g1 : gd5 s t n = true := gd5_iff.2 (by omega)
  have g2 : gd5 u t n = true := gd5_iff.2 (by omega)
  have hg : gd6 s u t n = true := gd6_iff.2 ⟨by omega, g1, g2⟩
  have q1 := kc_pos g1
  have q2 := kc_pos g2
  have m0 : ∀ k : Int, 1 ≤ k → mnI 0 k = 0 := fun k hk => by unfold mnI; rw [if_pos (by omega)]
  have mn : ∀ k : Int, k ≤ n → mnI n k = k := fun k hk => by unfold mnI; split <;> omega
  have hs : st6 s u t n 0 0 0 1 = true := by
    have e : (pN s u t n 0 0, pD s u t n 0 0) = (0, 1) := by
      rw [← fit01.2]
      have hp : pP s u n (kcI s t n) (kcI u t n) 0 0 = 0 := by unfold pP; rw [m0 _ q1.1, m0 _ q2.1]; grind
      exact red_same (p_fit (i := 0) (k := 0) hg ⟨by omega, by omega⟩ ⟨by omega, by omega⟩) fit01.1 (by rw [hp]; grind)
    simp only [st6, decide_eq_true_eq]
    exact ⟨(congrArg Prod.fst e).symm, (congrArg Prod.snd e).symm⟩
  have nn := mulBd (a := n) (b := n) (A := 12) (B := 12) (by omega) (by omega) (by omega) (by omega)
  have ns := mulBd (a := n * n) (b := s + u) (A := 144) (B := 2097152) nn.1 (by omega) (by omega) (by omega)
  obtain ⟨er, fr⟩ := red_one (n * n * (s + u)) (by omega) (by omega)
  have e2 : (pN s u t n n 0, pD s u t n n 0) = (n * n * (s + u), 1) := by
    rw [← er]
    refine red_same (p_fit (i := n) (k := 0) hg ⟨by omega, by omega⟩ ⟨by omega, by omega⟩) fr ?_
    unfold pP
    rw [mn _ q1.2, m0 _ q2.1]
    grind
  obtain ⟨a1, a2⟩ := a_red (va_fit g1) (va_fit g2) (v2_fit g1 g2) (by unfold v2N; grind)
  have a1' : aF (V5 s t n) (V5 u t n) = (mkN (v2N s u t n) (kcI s t n * kcI u t n), mkD (v2N s u t n) (kcI s t n * kcI u t n)) := a1
  have a2' : aE (V5 s t n) (V5 u t n) = 0 := a2
  have e3 : pN s u t n n 0 = n * n * (s + u) := congrArg Prod.fst e2
  have e4 : pD s u t n n 0 = 1 := congrArg Prod.snd e2
  rw [decide_eq_false h1, decide_eq_false h2, decide_eq_false h3, decide_eq_false h4, decide_eq_false h5, decide_eq_false h6, hg, hs, g1, g2, a1', a2', e3, e4, decide_eq_true (show (0 : Int) ≤ 0 ∧ 0 ≤ n by omega),
    wrapI (x := n * n) (by omega) (by omega), wrapI (x := s + u) (by omega) (by omega), wrapI (x := n * n * (s + u)) (by omega) (by omega)]
  simp only [decide_true, Bool.and_self, cond_true, cond_false, beq_self_eq_true]
def l6 : Ent := ⟨6, fun
  | [.int .i64 _, .int .i64 _, .int .i64 _, .int .u8 w] => .chk (inU8 w) (.leaf (.ret (.bool true)))
  | _ => .non⟩
theorem l6_run {a b c w : Int} (_ : inI a = true) (_ : inI b = true) (_ : inI c = true) (hw : inU8 w = true) : (l6.2 [.int .i64 a, .int .i64 b, .int .i64 c, .int .u8 w]).run = some (.ret (.bool true)) := by
  simp only [l6, Tr.run, hw, cond_true]
set_option maxRecDepth 100000 in
theorem l6_ok : SpecHolds Try.prog InvD 6 fun a => (l6.2 a).run := by
  refine specD lx6 Try.func6 (c := codeOf Try.prog 6) (by kernel_rfl) lp6 (fun p hp => ?_) fun args r hh => ?_
  · have hl : loops (codeOf Try.prog 6) = [(0, bodyOf Try.prog 6 0), (2, bodyOf Try.prog 6 2)] := by kernel_rfl
    rw [hl] at hp
    simp only [List.mem_cons, List.not_mem_nil, or_false] at hp
    rcases hp with rfl | rfl
    · exact sum6o
    · exact sum6i
  simp only [l6] at hh
  split at hh
  · rename_i a b c w
    obtain ⟨hg, hh⟩ := chk_run hh
    refine ⟨by kernel_rfl, tr_ok (by rfl) hh, ?_⟩
    refine (lt6 a b c w).trans (Eq.trans ?_ hh)
    simp only [inU8, decide_eq_true_eq] at hg
    have e1 : IntKind.i64.wrap w = w := wrapI (by omega) (by omega)
    have e3 : w.tmod 12 = w % 12 := Int.tmod_eq_emod_of_nonneg (by omega)
    rw [e1, e3, wrapI (x := 1 + w % 12) (by omega) (by omega)]
    exact T6_eq (by omega)
  · simp [Tr.run] at hh
end Go.Proofs.Ytebiafgcnmnacaa

/- SamplingSums returns true for every input, and its arguments read as they did. No condition. -/
namespace Go.Proofs.Ytebiafgcnmnacaa
open Go.ChangeShapes Go.WideShapes Go.ChangeAt Go.RowKit Go.Joins Go.Evl

set_option maxRecDepth 100000 in
theorem samplingSums_lifted (os : Os) (started : os.Started) (H : Type) (enc : TypeId × Value → H) :
    ReturnsInHanded {} Try.checked os 6 .any (Rows.samplingSumsSpec.pre6 enc Try.prog Try.f6 Rows.samplingSumsRow.domain false) (Rows.samplingSumsSpec.post enc Try.prog Try.f6 false true false false) := by
  refine returnsInHanded_of_change (C := Try.checked) own started (by kernel_rfl) Try.func6
    (ChangeSpec.witness6 (enc := enc) (C := Try.checked) false ⟨#[], #[.int .i64 0, .int .i64 0, .int .i64 0, .int .u8 0], []⟩ 8 (by kernel_rfl) (by kernel_rfl) (by kernel_rfl) (by kernel_rfl)) ?_
  intro W base args ds gs before hval0 hW _ _
  have hval : ∀ (j : Nat) t v, Try.f6.params[j]? = some t → args[j]? = some v → Value.okWide Try.prog W .any base t v := hval0
  have hW' := hW
  obtain ⟨p, q, hA0, hV, rfl, hfz, hnd⟩ := hW
  have hA : DataW.TrodAll enc Try.prog W 0 (fun _ => true) true Try.f6.params.toList args.toList ds p := hA0
  rw [Try.params6] at hA hval
  obtain ⟨v0, v1, v2, v3, d0, d1, d2, d3, p0, p1, p2, p3, rfl, rfl, rfl, h0, h1, h2, h3⟩ := trodAll_four hA
  obtain ⟨rfl, rfl⟩ := trodVars_none hV
  have hlt0 : ∀ x ∈ p0, x.block < W.heap.size := fun x hx => by simpa using hW'.lt x (by simp [hx])
  have hlt1 : ∀ x ∈ p1, x.block < W.heap.size := fun x hx => by simpa using hW'.lt x (by simp [hx])
  have hlt2 : ∀ x ∈ p2, x.block < W.heap.size := fun x hx => by simpa using hW'.lt x (by simp [hx])
  have hlt3 : ∀ x ∈ p3, x.block < W.heap.size := fun x hx => by simpa using hW'.lt x (by simp [hx])
  obtain ⟨a0, rfl, g0⟩ := int_form (hval 0 3 v0 rfl rfl) h0
  obtain ⟨a1, rfl, g1⟩ := int_form (hval 1 3 v1 rfl rfl) h1
  obtain ⟨a2, rfl, g2⟩ := int_form (hval 2 3 v2 rfl rfl) h2
  obtain ⟨a3, rfl, g3⟩ := u8_form (hval 3 5 v3 rfl rfl) h3
  clear hA0 hval0
  have hrv : Rvs (fun i => i) (fun _ => False) W None_ [.int .i64 a0, .int .i64 a1, .int .i64 a2, .int .u8 a3] [.int .i64 a0, .int .i64 a1, .int .i64 a2, .int .u8 a3] := (.cons .int (.cons .int (.cons .int (.cons .int .nil))))
  refine (l6_ok [.int .i64 a0, .int .i64 a1, .int .i64 a2, .int .u8 a3] (.ret (.bool true)) (l6_run g0 g1 g2 g3) (fun i => i) (fun _ => False) W [.int .i64 a0, .int .i64 a1, .int .i64 a2, .int .u8 a3] (fun _ h => h.elim) trivial hrv).mono fun e W' ⟨hbel, u, he, hu⟩ => ?_
  subst he
  rw [hu.of_bool]
  refine ⟨_, rfl, _, _, _, [], p0 ++ (p1 ++ (p2 ++ (p3))), [], hW', ?_, ?_, rfl, hbel.frame _, fun h => by cases h⟩
  · exact trodAll_mk1 (shut_bool Try.underlying4 true)
  · exact trodAll_mk4 (below_trod (by kernel_rfl) (of_decide_eq_true (by kernel_rfl)) h0 hbel hlt0) (below_trod (by kernel_rfl) (of_decide_eq_true (by kernel_rfl)) h1 hbel hlt1) (below_trod (by kernel_rfl) (of_decide_eq_true (by kernel_rfl)) h2 hbel hlt2) (below_trod (by kernel_rfl) (of_decide_eq_true (by kernel_rfl)) h3 hbel hlt3)
theorem samplingSums_holds : Rows.SamplingSumsSaid :=
  OpenClaim.holds_of_wide 6 Try.f6 rfl rfl rfl rfl rfl rfl rfl ⟨rfl, rfl, rfl, rfl, rfl⟩ rfl rfl rfl rfl rfl (by kernel_rfl) Try.func6 (by kernel_rfl)
    (of_decide_eq_true (by kernel_rfl)) (by unfold Func.isWrapper; first | (rw [if_pos (by decide +kernel)]; kernel_rfl) | (rw [if_neg (by decide +kernel)]; exact ⟨rfl, rfl⟩))
    (fun os started H enc _ => samplingSums_lifted os started H enc)
#print axioms samplingSums_holds
end Go.Proofs.Ytebiafgcnmnacaa
