/- SamplingParts returns true for every input, and its arguments read as they did. No condition. -/
import Derived.Test.YtebiafgcnmnacaaCore5
/- Counting in residues; sums of equal weights. No model. Conditions: in each statement. -/
namespace Go.Proofs.Ytebiafgcnmnacaa
open Go.Evl Go.RowKit

def tB (all part a : Int) : Int := if a % all < part then 1 else 0
def ctI (all part a : Int) : Nat → Int
  | 0 => 0
  | n + 1 => ctI all part a n + tB all part (a + n)
theorem tB_range (all part a : Int) : 0 ≤ tB all part a ∧ tB all part a ≤ 1 := by unfold tB; split <;> omega
theorem ctI_range (all part a : Int) (n : Nat) : 0 ≤ ctI all part a n ∧ ctI all part a n ≤ n := by
  induction n with
  | zero => simp [ctI]
  | succ n ih => have := tB_range all part (a + n); simp only [ctI]; omega
theorem ct_shift (all part a : Int) (n : Nat) : ctI all part (a + 1) n + tB all part a = ctI all part a n + tB all part (a + n) := by
  induction n with
  | zero => simp [ctI]
  | succ n ih =>
    simp only [ctI]
    have e : a + 1 + (n : Int) = a + ((n + 1 : Nat) : Int) := by omega
    rw [e]; omega
theorem ct_period {all part a : Int} (h : 0 < all) : ctI all part (a + 1) all.toNat = ctI all part a all.toNat := by
  have := ct_shift all part a all.toNat
  have e : tB all part (a + all.toNat) = tB all part a := by
    unfold tB
    have : (all.toNat : Int) = all := by omega
    rw [this, Int.add_emod_right]
  omega
theorem ct_base {all part : Int} (h0 : 0 ≤ part) : ∀ n : Nat, (n : Int) ≤ all → ctI all part 0 n = if (n : Int) ≤ part then (n : Int) else part := by
  intro n
  induction n with
  | zero => intro _; simp [ctI, h0]
  | succ n ih =>
    intro h
    simp only [ctI, ih (by omega), tB]
    rw [Int.zero_add, Int.emod_eq_of_lt (by omega) (by omega)]
    by_cases k : (n : Int) < part
    · rw [if_pos k, if_pos (by omega), if_pos (by omega)]; omega
    · rw [if_neg k]
      by_cases k2 : (n : Int) ≤ part
      · rw [if_pos k2, if_neg (by omega)]; omega
      · rw [if_neg k2, if_neg (by omega)]; omega
theorem ct_full {all part : Int} (h : 0 < all) (h0 : 0 ≤ part) (h1 : part ≤ all) : ∀ a : Nat, ctI all part a all.toNat = part := by
  intro a
  induction a with
  | zero =>
    have := ct_base (all := all) h0 all.toNat (by omega)
    rw [show ((0 : Nat) : Int) = 0 from rfl, this]
    split <;> omega
  | succ a ih =>
    have := ct_period (part := part) (a := (a : Int)) h
    rw [show ((a + 1 : Nat) : Int) = (a : Int) + 1 by omega, this, ih]

/-- c times the weight of a part of a whole -/
def sN (all part c : Int) : Int := if part = 0 then 0 else mkN (c * all) part
def sD (all part c : Int) : Int := if part = 0 then 1 else mkD (c * all) part
theorem fits_small {n m : Int} (hm : 0 < m) (h0 : 0 ≤ n) (h1 : n ≤ 1152921504606846976) (h2 : m ≤ 1152921504606846976) : mkFits n m = true := by
  obtain ⟨a0, a1⟩ := mkA_range (a := n) (show m ≠ 0 by omega)
  obtain ⟨d0, d1⟩ := mkD_range (a := n) (show m ≠ 0 by omega)
  have e1 : absI n = n := by rw [absI_eq]; omega
  have e2 : absI m = m := by rw [absI_eq]; omega
  unfold mkFits
  rw [Bool.and_eq_true, decide_eq_true_eq, decide_eq_true_eq]
  omega
theorem ok01 : okB 0 1 = true := by rw [okB_iff]; simp
/-- a fraction reduced stays -/
theorem mk_same {a b : Int} (h : okB a b = true) : mkN a b = a ∧ mkD a b = b ∧ mkFits a b = true := by
  obtain ⟨b1, b2, a1, a2, g⟩ := okB_iff.1 h
  obtain ⟨e1, e2⟩ := mk_unique (n := a) (m := b) (a := a) (b := b) (by omega) (by omega) g rfl
  refine ⟨e1, e2, ?_⟩
  unfold mkFits
  rw [mkA_of (by omega), e1, e2, absI_eq, Bool.and_eq_true, decide_eq_true_eq, decide_eq_true_eq]
  omega
theorem op_mk {n m : Int} (hf : mkFits n m = true) : opN true n m = mkN n m ∧ opD true n m = mkD n m ∧ opE true n m = 0 := by simp [opN, opD, opE, hf]
section
variable {all part c : Int} (ha : 1 ≤ all ∧ all ≤ 1000) (hp : 0 ≤ part ∧ part ≤ all) (hc : 0 ≤ c ∧ c ≤ 1000)
theorem s_prod (ha : 1 ≤ all ∧ all ≤ 1000) (hc : 0 ≤ c ∧ c ≤ 1000) : 0 ≤ c * all ∧ c * all ≤ 1000000 := by
  have h1 : 0 ≤ c * all := Int.mul_nonneg hc.1 (by omega)
  have h2 : c * all ≤ 1000 * 1000 := Int.mul_le_mul hc.2 ha.2 (by omega) (by omega)
  exact ⟨h1, by omega⟩
theorem s_ok (ha : 1 ≤ all ∧ all ≤ 1000) (hp : 0 ≤ part ∧ part ≤ all) (hc : 0 ≤ c ∧ c ≤ 1000) : okB (sN all part c) (sD all part c) = true := by
  unfold sN sD
  by_cases h : part = 0
  · rw [if_pos h, if_pos h]; exact ok01
  · rw [if_neg h, if_neg h]
    obtain ⟨q1, q2⟩ := s_prod ha hc
    exact mk_ok (by omega) (fits_small (by omega) (by omega) (by omega) (by omega))
/-- the weight of what is not kept adds nothing -/
theorem add_zero {a b : Int} (h : okB a b = true) : opN (okB a b && okB 0 1) (a * 1 + 0 * b) (b * 1) = a ∧ opD (okB a b && okB 0 1) (a * 1 + 0 * b) (b * 1) = b ∧ opE (okB a b && okB 0 1) (a * 1 + 0 * b) (b * 1) = 0 := by
  have e1 : a * 1 + 0 * b = a := by omega
  have e2 : b * 1 = b := by omega
  obtain ⟨m1, m2, m3⟩ := mk_same h
  rw [h, ok01, e1, e2, Bool.and_self]
  obtain ⟨o1, o2, o3⟩ := op_mk m3
  exact ⟨o1.trans m1, o2.trans m2, o3⟩
theorem add_weight (ha : 1 ≤ all ∧ all ≤ 1000) (hp : 1 ≤ part ∧ part ≤ all) (hc : 0 ≤ c ∧ c < 1000) :
    opN (okB (sN all part c) (sD all part c) && okB (mkN all part) (mkD all part)) (sN all part c * mkD all part + mkN all part * sD all part c) (sD all part c * mkD all part) = sN all part (c + 1) ∧
    opD (okB (sN all part c) (sD all part c) && okB (mkN all part) (mkD all part)) (sN all part c * mkD all part + mkN all part * sD all part c) (sD all part c * mkD all part) = sD all part (c + 1) ∧
    opE (okB (sN all part c) (sD all part c) && okB (mkN all part) (mkD all part)) (sN all part c * mkD all part + mkN all part * sD all part c) (sD all part c * mkD all part) = 0 := by
  have h1 : okB (sN all part c) (sD all part c) = true := s_ok ha ⟨by omega, hp.2⟩ ⟨by omega, by omega⟩
  have h2 : okB (mkN all part) (mkD all part) = true := mk_ok (by omega) (fits_small (by omega) (by omega) (by omega) (by omega))
  rw [h1, h2, Bool.and_self]
  have hp0 : part ≠ 0 := by omega
  have es : sN all part c = mkN (c * all) part ∧ sD all part c = mkD (c * all) part := by unfold sN sD; simp [hp0]
  have es' : sN all part (c + 1) = mkN ((c + 1) * all) part ∧ sD all part (c + 1) = mkD ((c + 1) * all) part := by unfold sN sD; simp [hp0]
  have v1 := mk_val (n := c * all) (m := part) (by omega)
  have v2 := mk_val (n := all) (m := part) (by omega)
  have p1 := mkD_pos (n := c * all) (m := part) (by omega)
  have p2 := mkD_pos (n := all) (m := part) (by omega)
  rw [es.1, es.2, es'.1, es'.2]
  generalize mkN (c * all) part = x at *
  generalize mkD (c * all) part = y at *
  generalize mkN all part = z at *
  generalize mkD all part = w at *
  have hm : 0 < y * w := Int.mul_pos p1 p2
  have hv : (x * w + z * y) * part = (c + 1) * all * (y * w) := by grind
  obtain ⟨q1, q2⟩ := s_prod ha (c := c + 1) ⟨by omega, by omega⟩
  obtain ⟨c1, c2⟩ := mk_congr hm (show 0 < part by omega) hv
  have hf : mkFits (x * w + z * y) (y * w) = true := by
    rw [mkFits_congr hm (show 0 < part by omega) hv]
    exact fits_small (by omega) (by omega) (by omega) (by omega)
  obtain ⟨o1, o2, o3⟩ := op_mk hf
  exact ⟨o1.trans c1, o2.trans c2, o3⟩
end
theorem s_full {all part : Int} (ha : 1 ≤ all) (hp : 1 ≤ part) : sN all part part = all ∧ sD all part part = 1 := by
  have hp0 : part ≠ 0 := by omega
  unfold sN sD
  rw [if_neg hp0, if_neg hp0]
  exact mk_unique (by omega) (by omega) (Nat.gcd_one_right _) (by rw [Int.mul_one, Int.mul_comm])
end Go.Proofs.Ytebiafgcnmnacaa

/- SamplingParts: its loop over the coins. Conditions: none beyond the context's. -/
namespace Go.Proofs.Ytebiafgcnmnacaa
open Go.Evl Go.RowKit

abbrev keep4 : List Nat := [0, 1, 9, 10, 11, 12, 46, 47]
abbrev vs4 (a b al pt kp i : Int) : List AV := [.int .i64 a, .int .i64 b, .int .i64 al, .int .i64 pt, .ptr 0 0, .int .i64 kp, .int .i64 al, .int .i64 i]
abbrev hp4 (x y : Int) : List Ob := [.cells [.int .i64 x, .int .i64 y] 23]
def gd4 (a b al pt : Int) : Bool := decide (1 ≤ al ∧ al ≤ 40 ∧ 0 ≤ pt ∧ pt ≤ al ∧ 1024 ≤ a ∧ a ≤ 562949953421312 ∧ 0 ≤ b ∧ b < al)
def st4 (a b al pt kp i x y : Int) : Bool := decide (kp = ctI al pt (a + b) i.toNat ∧ x = sN al pt (ctI al pt a i.toNat) ∧ y = sD al pt (ctI al pt a i.toNat))
def f4s : List AV → List Ob → Tr (Ex × List AV × List Ob)
  | [.int .i64 a, .int .i64 b, .int .i64 al, .int .i64 pt, .ptr 0 0, .int .i64 kp, .int .i64 al', .int .i64 i], [.cells [.int .i64 x, .int .i64 y] 23] =>
    .chk (gd4 a b al pt && (decide (al' = al) && (decide (0 ≤ i ∧ i ≤ al) && st4 a b al pt kp i x y))) (.leaf (.exit 0, vs4 a b al pt (ctI al pt (a + b) al.toNat) al, hp4 (sN al pt (ctI al pt a al.toNat)) (sD al pt (ctI al pt a al.toNat))))
  | _, _ => .non
abbrev sp4 : List Ent := [i8, i13, e27m, iAw]
abbrev lp4 (_ : Nat) : LT := .sum keep4 f4s
theorem lx4 : (mkCx Try.prog (spOf sp4) (inlOf []) extD).Ok InvD := cx_of [] (by kernel_rfl) (by
  intro p hp
  simp only [sp4, List.mem_cons, List.not_mem_nil, or_false] at hp
  rcases hp with rfl | rfl | rfl | rfl
  · exact i8_ok
  · exact i13_ok
  · exact e27m_ok
  · exact iAw_ok)
noncomputable def rd4 (a b al pt kp i x y : Int) : Option (Ex × List AV × List Ob) := evC (β := Ex × List AV × List Ob) Try.prog (spOf sp4) (inlOf []) extD (cKD sp4 []) lp4 (bodyOf Try.prog 4 0) ⟨mkF Try.f4.ntmps keep4 (vs4 a b al pt kp i), hp4 x y⟩ (fun e st => (cutBack keep4 1 st).map fun q => (e, q.1, q.2))
end Go.Proofs.Ytebiafgcnmnacaa

/- SamplingParts' walk. Conditions: none beyond the context's. -/
namespace Go.Proofs.Ytebiafgcnmnacaa
open Go.Evl Go.RowKit

abbrev X4 (a b al pt kp i x y : Int) : Option (Ex × List AV × List Ob) := some (.ret, vs4 a b al pt kp i, hp4 x y)
def N4 (a b al pt kp kp' i x y n d : Int) (k2 : Bool) : Option (Ex × List AV × List Ob) :=
  bif opE (okB x y && okB n d) (x * d + n * y) (y * d) != 0 then X4 a b al pt kp i x y
  else bif k2 then some (.normal, vs4 a b al pt kp' (IntKind.i64.wrap (i + 1)), hp4 (opN (okB x y && okB n d) (x * d + n * y) (y * d)) (opD (okB x y && okB n d) (x * d + n * y) (y * d)))
  else some (.normal, vs4 a b al pt kp (IntKind.i64.wrap (i + 1)), hp4 (opN (okB x y && okB n d) (x * d + n * y) (y * d)) (opD (okB x y && okB n d) (x * d + n * y) (y * d)))
theorem rd4_eq (a b al pt kp i x y : Int) : rd4 a b al pt kp i x y =
    (bif decide (i < al) then bif inI a then bif inI (IntKind.i64.wrap (a + i)) then bif hdE a i pt al != 0 then X4 a b al pt kp i x y else bif hdE (IntKind.i64.wrap (a + i)) b pt al != 0 then X4 a b al pt kp i x y
      else bif hdK a i pt al then bif !(hdN a i pt al == 0 && (hdD a i pt al == 1 && true)) then N4 a b al pt kp (IntKind.i64.wrap (kp + 1)) i x y (hdN a i pt al) (hdD a i pt al) (hdK (IntKind.i64.wrap (a + i)) b pt al) else X4 a b al pt kp i x y
      else bif !(hdN a i pt al == 0 && (hdD a i pt al == 1 && true)) then X4 a b al pt kp i x y else N4 a b al pt kp (IntKind.i64.wrap (kp + 1)) i x y (hdN a i pt al) (hdD a i pt al) (hdK (IntKind.i64.wrap (a + i)) b pt al)
    else none else none else some (.exit 0, vs4 a b al pt kp i, hp4 x y)) := by kernel_rfl
theorem ct_succ {al pt a i : Int} (h : 0 ≤ i) : ctI al pt a (i + 1).toNat = ctI al pt a i.toNat + tB al pt (a + i) := by
  have e : (i + 1).toNat = i.toNat + 1 := by omega
  have e2 : ((i.toNat : Nat) : Int) = i := by omega
  rw [e]; simp only [ctI]; rw [e2]
theorem rd4_step {a b al pt kp i x y : Int} (hg : gd4 a b al pt = true) (hi : 0 ≤ i ∧ i < al) (hs : st4 a b al pt kp i x y = true) :
    ∃ kp' x' y', rd4 a b al pt kp i x y = some (.normal, vs4 a b al pt kp' (i + 1), hp4 x' y') ∧ st4 a b al pt kp' (i + 1) x' y' = true := by
  simp only [gd4, decide_eq_true_eq] at hg
  simp only [st4, decide_eq_true_eq] at hs
  obtain ⟨g1, g2, g3, g4, g5, g6, g7, g8⟩ := hg
  obtain ⟨rfl, rfl, rfl⟩ := hs
  have wi : IntKind.i64.wrap (i + 1) = i + 1 := wrapI (by omega) (by omega)
  have wa : IntKind.i64.wrap (a + i) = a + i := wrapI (by omega) (by omega)
  have cr := ctI_range al pt (a + b) i.toNat
  have cr2 := ctI_range al pt a i.toNat
  have wk : IntKind.i64.wrap (ctI al pt (a + b) i.toNat + 1) = ctI al pt (a + b) i.toNat + 1 := wrapI (by omega) (by omega)
  have c1 : cpB i pt al = true := cpB_iff.2 ⟨⟨by omega, by omega⟩, ⟨by omega, by omega⟩, by omega, by omega⟩
  have c2 : cpB b pt al = true := cpB_iff.2 ⟨⟨by omega, by omega⟩, ⟨by omega, by omega⟩, by omega, by omega⟩
  have t1 : trB a = true := wiB_iff.2 ⟨by omega, by omega⟩
  have t2 : trB (a + i) = true := wiB_iff.2 ⟨by omega, by omega⟩
  have e1 : hdE a i pt al = 0 := by simp [hdE, c1, t1]
  have e2 : hdE (a + i) b pt al = 0 := by simp [hdE, c2, t2]
  have k1 : hdK a i pt al = keB a i pt al := by simp [hdK, c1, t1]
  have k2 : hdK (a + i) b pt al = keB (a + i) b pt al := by simp [hdK, c2, t2]
  have q1 : tB al pt (a + i) = if keB a i pt al = true then 1 else 0 := by unfold tB keB; simp
  have q2 : tB al pt (a + b + i) = if keB (a + i) b pt al = true then 1 else 0 := by
    unfold tB keB
    rw [show a + b + i = a + i + b by omega]; simp
  -- the sum
  have hsum : opN (okB (sN al pt (ctI al pt a i.toNat)) (sD al pt (ctI al pt a i.toNat)) && okB (hdN a i pt al) (hdD a i pt al)) (sN al pt (ctI al pt a i.toNat) * hdD a i pt al + hdN a i pt al * sD al pt (ctI al pt a i.toNat)) (sD al pt (ctI al pt a i.toNat) * hdD a i pt al) = sN al pt (ctI al pt a (i + 1).toNat) ∧
      opD (okB (sN al pt (ctI al pt a i.toNat)) (sD al pt (ctI al pt a i.toNat)) && okB (hdN a i pt al) (hdD a i pt al)) (sN al pt (ctI al pt a i.toNat) * hdD a i pt al + hdN a i pt al * sD al pt (ctI al pt a i.toNat)) (sD al pt (ctI al pt a i.toNat) * hdD a i pt al) = sD al pt (ctI al pt a (i + 1).toNat) ∧
      opE (okB (sN al pt (ctI al pt a i.toNat)) (sD al pt (ctI al pt a i.toNat)) && okB (hdN a i pt al) (hdD a i pt al)) (sN al pt (ctI al pt a i.toNat) * hdD a i pt al + hdN a i pt al * sD al pt (ctI al pt a i.toNat)) (sD al pt (ctI al pt a i.toNat) * hdD a i pt al) = 0 ∧
      (hdN a i pt al == 0 && (hdD a i pt al == 1 && true)) = !keB a i pt al := by
    rw [ct_succ hi.1, q1]
    by_cases hk : keB a i pt al = true
    · have hpt : 1 ≤ pt := by
        have := Int.emod_nonneg (a + i) (show al ≠ 0 by omega)
        simp only [keB, decide_eq_true_eq] at hk
        omega
      have hm : mkE al pt = 0 := mkE_part (by omega) (by omega) (by omega) (by omega)
      have hn : hdN a i pt al = mkN al pt := by simp [hdN, k1, hk, mkX, hm]
      have hd : hdD a i pt al = mkD al pt := by simp [hdD, k1, hk, mkY, hm]
      rw [hn, hd, if_pos hk, hk]
      obtain ⟨w1, w2, w3⟩ := add_weight (all := al) (part := pt) (c := ctI al pt a i.toNat) ⟨by omega, by omega⟩ ⟨by omega, by omega⟩ ⟨by omega, by omega⟩
      refine ⟨w1, w2, w3, ?_⟩
      have hv := mk_val (n := al) (m := pt) (by omega)
      have hp := mkD_pos (n := al) (m := pt) (by omega)
      have : mkN al pt ≠ 0 := by
        intro h0
        rw [h0, Int.zero_mul] at hv
        have := Int.mul_pos (show 0 < al by omega) hp
        omega
      rw [show (mkN al pt == 0) = false from beq_false_of_ne this]; rfl
    · have hn : hdN a i pt al = 0 := by simp [hdN, k1, hk]
      have hd : hdD a i pt al = 1 := by simp [hdD, k1, hk, e1]
      have hk' : keB a i pt al = false := by simpa using hk
      rw [hn, hd, if_neg hk, Int.add_zero, hk']
      have hok := s_ok (all := al) (part := pt) (c := ctI al pt a i.toNat) ⟨by omega, by omega⟩ ⟨by omega, by omega⟩ ⟨by omega, by omega⟩
      obtain ⟨w1, w2, w3⟩ := add_zero hok
      exact ⟨w1, w2, w3, rfl⟩
  obtain ⟨s1, s2, s3, s4⟩ := hsum
  rw [rd4_eq, wa, wk, decide_eq_true hi.2, inI_of (x := a) (by omega) (by omega), inI_of (x := a + i) (by omega) (by omega), e1, e2, k1, k2, s4]
  simp only [cond_true, bne_self_eq_false, cond_false, Bool.not_not]
  unfold N4
  rw [s1, s2, s3, wi]
  refine ⟨if keB (a + i) b pt al = true then ctI al pt (a + b) i.toNat + 1 else ctI al pt (a + b) i.toNat, sN al pt (ctI al pt a (i + 1).toNat), sD al pt (ctI al pt a (i + 1).toNat), ?_, ?_⟩
  · by_cases h1 : keB a i pt al = true <;> by_cases h2 : keB (a + i) b pt al = true <;> simp [h1, h2]
  · simp only [st4, decide_eq_true_eq]
    refine ⟨?_, trivial, trivial⟩
    rw [ct_succ hi.1, q2]
    split <;> omega
theorem rd4_end {a b al pt kp x y : Int} : rd4 a b al pt kp al x y = some (.exit 0, vs4 a b al pt kp al, hp4 x y) := by
  rw [rd4_eq, decide_eq_false (show ¬ al < al by omega)]; rfl
theorem sum4 : LoopOkT Try.prog (spOf sp4) (inlOf []) extD (cKD sp4 []) lp4 Try.f4.ntmps (bodyOf Try.prog 4 0) (.sum keep4 f4s) := by
  dsimp only [LoopOkT]
  refine ⟨by decide, by decide, fun vs _ => match vs with | [_, _, .int _ al, _, _, _, _, .int _ i] => (al - i).toNat | _ => 0, fun vs H R hv hR => ?_⟩
  unfold f4s at hR
  split at hR
  · rename_i a b al pt kp al' i x y
    obtain ⟨hc, hR⟩ := chk_run hR
    simp only [Tr.run, Option.some.injEq] at hR
    subst hR
    rw [Bool.and_eq_true, Bool.and_eq_true, Bool.and_eq_true, decide_eq_true_eq, decide_eq_true_eq] at hc
    obtain ⟨hg, rfl, hi, hs⟩ := hc
    by_cases h : i < al'
    · obtain ⟨kp', x', y', hr, hs'⟩ := rd4_step hg ⟨hi.1, h⟩ hs
      refine ⟨_, _, _, hr, ?_, ?_⟩
      · simp only [f4s]
        rw [hg, hs', decide_eq_true (show 0 ≤ i + 1 ∧ i + 1 ≤ al' by omega)]
        rfl
      · show (al' - (i + 1)).toNat < (al' - i).toNat
        omega
    · have e : i = al' := by omega
      subst e
      refine ⟨_, _, _, rd4_end, ?_⟩
      simp only [st4, decide_eq_true_eq] at hs
      obtain ⟨rfl, rfl, rfl⟩ := hs
      rfl
  · simp [Tr.run] at hR

def T4 (z al pt a b : Int) : Option Res :=
  bif !decide (z = 0) then bif decide (a < 1024) then RB true else bif decide (a > 562949953421312) then RB true else bif decide (b < 0) then RB true else bif decide (b ≥ al) then RB true
    else bif gd4 a b al pt && (decide (al = al) && (decide ((0 : Int) ≤ 0 ∧ 0 ≤ al) && st4 a b al pt 0 0 0 1)) then
      bif sN al pt (ctI al pt a al.toNat) == al && (sD al pt (ctI al pt a al.toNat) == 1 && true) then bif ctI al pt (a + b) al.toNat == pt then RB true else RB false
      else bif pt == 0 then bif sN al pt (ctI al pt a al.toNat) == 0 && (sD al pt (ctI al pt a al.toNat) == 1 && true) then bif ctI al pt (a + b) al.toNat == pt then RB true else RB false else RB false else RB false
    else none
  else none
theorem lt4 (a b p w : Int) : evFn Try.prog (spOf sp4) (inlOf []) extD (cKD sp4 []) lp4 Try.f4 [.int .i64 a, .int .i64 b, .int .u8 p, .int .u8 w] [] (fun r _ => some r) =
    T4 (IntKind.i64.wrap (IntKind.i64.wrap (1 + (IntKind.i64.wrap w).tmod 40) + 1)) (IntKind.i64.wrap (1 + (IntKind.i64.wrap w).tmod 40)) ((IntKind.i64.wrap p).tmod (IntKind.i64.wrap (IntKind.i64.wrap (1 + (IntKind.i64.wrap w).tmod 40) + 1))) a b := by kernel_rfl
theorem T4_eq {z al pt a b : Int} (hz : z ≠ 0) (ha : 1 ≤ al ∧ al ≤ 40) (hp : 0 ≤ pt ∧ pt ≤ al) : T4 z al pt a b = RB true := by
  unfold T4
  rw [decide_eq_false hz]
  simp only [Bool.not_false, cond_true]
  by_cases h1 : a < 1024
  · rw [decide_eq_true h1]; rfl
  by_cases h2 : a > 562949953421312
  · rw [decide_eq_false h1, decide_eq_true h2]; rfl
  by_cases h3 : b < 0
  · rw [decide_eq_false h1, decide_eq_false h2, decide_eq_true h3]; rfl
  by_cases h4 : b ≥ al
  · rw [decide_eq_false h1, decide_eq_false h2, decide_eq_false h3, decide_eq_true h4]; rfl
  have hg : gd4 a b al pt = true := by simp only [gd4, decide_eq_true_eq]; omega
  have hs : st4 a b al pt 0 0 0 1 = true := by
    simp only [st4, decide_eq_true_eq, ctI, Int.toNat_zero, true_and, sN, sD]
    by_cases h0 : pt = 0
    · simp [h0]
    · rw [if_neg h0, if_neg h0, Int.zero_mul]
      obtain ⟨e1, e2⟩ := mk_unique (n := 0) (m := pt) (a := 0) (b := 1) (by omega) (by omega) rfl (by omega)
      rw [e1, e2]; exact ⟨rfl, rfl⟩
  have f1 : ctI al pt a al.toNat = pt := by
    have := ct_full (all := al) (part := pt) (by omega) hp.1 hp.2 a.toNat
    rwa [show ((a.toNat : Nat) : Int) = a by omega] at this
  have f2 : ctI al pt (a + b) al.toNat = pt := by
    have := ct_full (all := al) (part := pt) (by omega) hp.1 hp.2 (a + b).toNat
    rwa [show (((a + b).toNat : Nat) : Int) = a + b by omega] at this
  rw [decide_eq_false h1, decide_eq_false h2, decide_eq_false h3, decide_eq_false h4, hg, hs, f1, f2, decide_eq_true (show (0 : Int) ≤ 0 ∧ 0 ≤ al by omega)]
  simp only [decide_true, Bool.and_self, cond_true, cond_false, beq_self_eq_true, Bool.and_true]
  by_cases h0 : pt = 0
  · have e1 : sN al pt pt = 0 := by simp [sN, h0]
    have e2 : sD al pt pt = 1 := by simp [sD, h0]
    rw [e1, e2, h0]
    cases (0 == al && (1 : Int) == 1) <;> rfl
  · obtain ⟨e1, e2⟩ := s_full (all := al) (part := pt) ha.1 (by omega)
    rw [e1, e2, beq_self_eq_true]; rfl
def l4 : Ent := ⟨4, fun
  | [.int .i64 _, .int .i64 _, .int .u8 p, .int .u8 w] => .chk (inU8 p && inU8 w) (.leaf (.ret (.bool true)))
  | _ => .non⟩
theorem l4_run {a b p w : Int} (_ : inI a = true) (_ : inI b = true) (hp : inU8 p = true) (hw : inU8 w = true) : (l4.2 [.int .i64 a, .int .i64 b, .int .u8 p, .int .u8 w]).run = some (.ret (.bool true)) := by
  simp only [l4, Tr.run, hp, hw, Bool.and_self, cond_true]
set_option maxRecDepth 100000 in
theorem l4_ok : SpecHolds Try.prog InvD 4 fun a => (l4.2 a).run := by
  refine specD lx4 Try.func4 (c := codeOf Try.prog 4) (by kernel_rfl) lp4 (fun p hp => ?_) fun args r hh => ?_
  · have hl : loops (codeOf Try.prog 4) = [(0, bodyOf Try.prog 4 0)] := by kernel_rfl
    rw [hl, List.mem_singleton] at hp
    subst hp
    exact sum4
  simp only [l4] at hh
  split at hh
  · rename_i a b p w
    obtain ⟨hg, hh⟩ := chk_run hh
    refine ⟨by kernel_rfl, tr_ok (by rfl) hh, ?_⟩
    refine (lt4 a b p w).trans (Eq.trans ?_ hh)
    rw [Bool.and_eq_true] at hg
    simp only [inU8, decide_eq_true_eq] at hg
    have e1 : IntKind.i64.wrap w = w := wrapI (by omega) (by omega)
    have e2 : IntKind.i64.wrap p = p := wrapI (by omega) (by omega)
    have e3 : w.tmod 40 = w % 40 := Int.tmod_eq_emod_of_nonneg (by omega)
    rw [e1, e2, e3, wrapI (x := 1 + w % 40) (by omega) (by omega), wrapI (x := 1 + w % 40 + 1) (by omega) (by omega)]
    have e4 : p.tmod (1 + w % 40 + 1) = p % (1 + w % 40 + 1) := Int.tmod_eq_emod_of_nonneg (by omega)
    rw [e4]
    have m0 := Int.emod_nonneg p (show 1 + w % 40 + 1 ≠ 0 by omega)
    have m1 := Int.emod_lt_of_pos p (show 0 < 1 + w % 40 + 1 by omega)
    exact T4_eq (by omega) (by omega) (by omega)
  · simp [Tr.run] at hh
end Go.Proofs.Ytebiafgcnmnacaa

/- SamplingParts returns true for every input, and its arguments read as they did. No condition. -/
namespace Go.Proofs.Ytebiafgcnmnacaa
open Go.ChangeShapes Go.WideShapes Go.ChangeAt Go.RowKit Go.Joins Go.Evl

set_option maxRecDepth 100000 in
theorem samplingParts_lifted (os : Os) (started : os.Started) (H : Type) (enc : TypeId × Value → H) :
    ReturnsInHanded {} Try.checked os 4 .any (Rows.samplingPartsSpec.pre6 enc Try.prog Try.f4 Rows.samplingPartsRow.domain false) (Rows.samplingPartsSpec.post enc Try.prog Try.f4 false true false false) := by
  refine returnsInHanded_of_change (C := Try.checked) own started (by kernel_rfl) Try.func4
    (ChangeSpec.witness6 (enc := enc) (C := Try.checked) false ⟨#[], #[.int .i64 0, .int .i64 0, .int .u8 0, .int .u8 0], []⟩ 8 (by kernel_rfl) (by kernel_rfl) (by kernel_rfl) (by kernel_rfl)) ?_
  intro W base args ds gs before hval0 hW _ _
  have hval : ∀ (j : Nat) t v, Try.f4.params[j]? = some t → args[j]? = some v → Value.okWide Try.prog W .any base t v := hval0
  have hW' := hW
  obtain ⟨p, q, hA0, hV, rfl, hfz, hnd⟩ := hW
  have hA : DataW.TrodAll enc Try.prog W 0 (fun _ => true) true Try.f4.params.toList args.toList ds p := hA0
  rw [Try.params4] at hA hval
  obtain ⟨v0, v1, v2, v3, d0, d1, d2, d3, p0, p1, p2, p3, rfl, rfl, rfl, h0, h1, h2, h3⟩ := trodAll_four hA
  obtain ⟨rfl, rfl⟩ := trodVars_none hV
  have hlt0 : ∀ x ∈ p0, x.block < W.heap.size := fun x hx => by simpa using hW'.lt x (by simp [hx])
  have hlt1 : ∀ x ∈ p1, x.block < W.heap.size := fun x hx => by simpa using hW'.lt x (by simp [hx])
  have hlt2 : ∀ x ∈ p2, x.block < W.heap.size := fun x hx => by simpa using hW'.lt x (by simp [hx])
  have hlt3 : ∀ x ∈ p3, x.block < W.heap.size := fun x hx => by simpa using hW'.lt x (by simp [hx])
  obtain ⟨a0, rfl, g0⟩ := int_form (hval 0 3 v0 rfl rfl) h0
  obtain ⟨a1, rfl, g1⟩ := int_form (hval 1 3 v1 rfl rfl) h1
  obtain ⟨a2, rfl, g2⟩ := u8_form (hval 2 5 v2 rfl rfl) h2
  obtain ⟨a3, rfl, g3⟩ := u8_form (hval 3 5 v3 rfl rfl) h3
  clear hA0 hval0
  have hrv : Rvs (fun i => i) (fun _ => False) W None_ [.int .i64 a0, .int .i64 a1, .int .u8 a2, .int .u8 a3] [.int .i64 a0, .int .i64 a1, .int .u8 a2, .int .u8 a3] := (.cons .int (.cons .int (.cons .int (.cons .int .nil))))
  refine (l4_ok [.int .i64 a0, .int .i64 a1, .int .u8 a2, .int .u8 a3] (.ret (.bool true)) (l4_run g0 g1 g2 g3) (fun i => i) (fun _ => False) W [.int .i64 a0, .int .i64 a1, .int .u8 a2, .int .u8 a3] (fun _ h => h.elim) trivial hrv).mono fun e W' ⟨hbel, u, he, hu⟩ => ?_
  subst he
  rw [hu.of_bool]
  refine ⟨_, rfl, _, _, _, [], p0 ++ (p1 ++ (p2 ++ (p3))), [], hW', ?_, ?_, rfl, hbel.frame _, fun h => by cases h⟩
  · exact trodAll_mk1 (shut_bool Try.underlying4 true)
  · exact trodAll_mk4 (below_trod (by kernel_rfl) (of_decide_eq_true (by kernel_rfl)) h0 hbel hlt0) (below_trod (by kernel_rfl) (of_decide_eq_true (by kernel_rfl)) h1 hbel hlt1) (below_trod (by kernel_rfl) (of_decide_eq_true (by kernel_rfl)) h2 hbel hlt2) (below_trod (by kernel_rfl) (of_decide_eq_true (by kernel_rfl)) h3 hbel hlt3)
theorem samplingParts_holds : Rows.SamplingPartsSaid :=
  OpenClaim.holds_of_wide 4 Try.f4 rfl rfl rfl rfl rfl rfl rfl ⟨rfl, rfl, rfl, rfl, rfl⟩ rfl rfl rfl rfl rfl (by kernel_rfl) Try.func4 (by kernel_rfl)
    (of_decide_eq_true (by kernel_rfl)) (by unfold Func.isWrapper; first | (rw [if_pos (by decide +kernel)]; kernel_rfl) | (rw [if_neg (by decide +kernel)]; exact ⟨rfl, rfl⟩))
    (fun os started H enc _ => samplingParts_lifted os started H enc)
#print axioms samplingParts_holds
end Go.Proofs.Ytebiafgcnmnacaa
