/- RatioField's law: its tree, and that it is true for all arguments. Conditions: none beyond the context's. -/
import Derived.Test.YtekkphoingjidaaDoorCore3
/- Reduced fractions: the plain laws. No model. Conditions: in each statement. -/
namespace Go.Proofs.YtekkphoingjidaaDoor
open Go.Evl Go.RowKit

theorem mkG_pos2 {n m : Int} (hm : 0 < m) : 0 < mkG n m := by
  unfold mkG
  rw [gcdI_abs (absI_nonneg m)]
  have : 0 < Int.gcd n (absI m) := Int.gcd_pos_of_ne_zero_right _ (by rw [absI_eq]; omega)
  omega
theorem mkG_eq {n m : Int} (hm : 0 < m) : mkG n m = (Int.gcd n m : Int) := by
  unfold mkG
  rw [gcdI_abs (absI_nonneg m), show absI m = m by rw [absI_eq]; omega]
theorem mkD_mul {n m : Int} (hm : 0 < m) : mkD n m * mkG n m = m := by
  unfold mkD
  rw [mkG_eq hm, show absI m = m by rw [absI_eq]; omega]
  exact Int.ediv_mul_cancel (Int.gcd_dvd_right ..)
theorem mkA_mul {n m : Int} (hm : 0 < m) : mkA n m * mkG n m = absI n := by
  unfold mkA
  rw [mkG_eq hm]
  refine Int.ediv_mul_cancel ?_
  rw [absI_eq]
  have := Int.gcd_dvd_left (a := n) (b := m)
  exact Int.dvd_natAbs.2 this
theorem mkN_mul {n m : Int} (hm : 0 < m) : mkN n m * mkG n m = n := by
  have h := mkA_mul (n := n) hm
  rcases Int.le_total n 0 with h0 | h0
  · rw [mkN_neg hm h0, Int.neg_mul, h, absI_eq]; omega
  · rw [mkN_pos hm h0, h, absI_eq]; omega
theorem mkD_pos {n m : Int} (hm : 0 < m) : 0 < mkD n m := quo_pos (mkD_mul hm) hm (mkG_pos2 hm)
/-- the value of a fraction stays -/
theorem mk_val {n m : Int} (hm : 0 < m) : mkN n m * m = n * mkD n m := by
  have h1 := mkN_mul (n := n) hm
  have h2 := mkD_mul (n := n) hm
  calc mkN n m * m = mkN n m * (mkD n m * mkG n m) := by rw [h2]
    _ = mkN n m * mkG n m * mkD n m := by rw [Int.mul_assoc, Int.mul_comm (mkG n m)]
    _ = n * mkD n m := by rw [h1]
theorem mk_gcd {n m : Int} (hm : 0 < m) : Nat.gcd (mkN n m).natAbs (mkD n m).natAbs = 1 := by
  have h1 := mkN_mul (n := n) hm
  have h2 := mkD_mul (n := n) hm
  have h3 := mkG_eq (n := n) hm
  have hg := mkG_pos2 (n := n) hm
  have : Int.gcd n m = Int.gcd (mkN n m) (mkD n m) * (mkG n m).natAbs := by
    have e : Int.gcd (mkN n m * mkG n m) (mkD n m * mkG n m) = Int.gcd (mkN n m) (mkD n m) * (mkG n m).natAbs := Int.gcd_mul_right ..
    rw [h1, h2] at e
    exact e
  rw [h3] at this hg
  simp only [Int.natAbs_natCast] at this
  have h4 : 1 * Int.gcd n m = Int.gcd (mkN n m) (mkD n m) * Int.gcd n m := by rw [Nat.one_mul]; exact this
  exact (Nat.eq_of_mul_eq_mul_right (by omega) h4).symm
theorem mk_ok {n m : Int} (hm : 0 < m) (hf : mkFits n m = true) : okB (mkN n m) (mkD n m) = true := by
  have hd := mkD_pos (n := n) hm
  have hg := mk_gcd (n := n) hm
  simp only [mkFits, Bool.and_eq_true, decide_eq_true_eq] at hf
  have hA : 0 ≤ mkA n m := (quo_le (mkA_mul hm) (absI_nonneg n) (mkG_pos2 hm)).1
  rw [okB_iff]
  refine ⟨by omega, hf.2, ?_, ?_, hg⟩
  · rcases Int.le_total n 0 with h0 | h0
    · rw [mkN_neg hm h0]; omega
    · rw [mkN_pos hm h0]; omega
  · rcases Int.le_total n 0 with h0 | h0
    · rw [mkN_neg hm h0]; omega
    · rw [mkN_pos hm h0]; omega
/-- reduced fractions with the same value are the same -/
theorem red_eq {a b c d : Int} (hb : 0 < b) (hd : 0 < d) (hab : Nat.gcd a.natAbs b.natAbs = 1) (hcd : Nat.gcd c.natAbs d.natAbs = 1) (h : a * d = c * b) : a = c ∧ b = d := by
  have h1 : b.natAbs ∣ d.natAbs := by
    have : b.natAbs ∣ a.natAbs * d.natAbs := by rw [← Int.natAbs_mul, h, Int.natAbs_mul]; exact Nat.dvd_mul_left ..
    exact Nat.Coprime.dvd_of_dvd_mul_left (Nat.Coprime.symm hab) this
  have h2 : d.natAbs ∣ b.natAbs := by
    have : d.natAbs ∣ c.natAbs * b.natAbs := by rw [← Int.natAbs_mul, ← h, Int.natAbs_mul]; exact Nat.dvd_mul_left ..
    exact Nat.Coprime.dvd_of_dvd_mul_left (Nat.Coprime.symm hcd) this
  have h3 : b = d := by have := Nat.dvd_antisymm h1 h2; omega
  subst h3
  exact ⟨Int.eq_of_mul_eq_mul_right (by omega) h, rfl⟩
/-- a fraction reduced is the reduced fraction of that value -/
theorem mk_unique {n m a b : Int} (hm : 0 < m) (hb : 0 < b) (hab : Nat.gcd a.natAbs b.natAbs = 1) (h : a * m = n * b) : mkN n m = a ∧ mkD n m = b := by
  refine red_eq (mkD_pos hm) hb (mk_gcd hm) hab ?_
  have hv := mk_val (n := n) hm
  refine Int.eq_of_mul_eq_mul_right (show m ≠ 0 by omega) ?_
  calc mkN n m * b * m = mkN n m * m * b := by rw [Int.mul_assoc, Int.mul_comm b, ← Int.mul_assoc]
    _ = n * mkD n m * b := by rw [hv]
    _ = n * b * mkD n m := by rw [Int.mul_assoc, Int.mul_comm (mkD n m), ← Int.mul_assoc]
    _ = a * m * mkD n m := by rw [h]
    _ = a * mkD n m * m := by rw [Int.mul_assoc, Int.mul_comm m, ← Int.mul_assoc]
/-- it depends on the value alone -/
theorem mk_congr {n m p q : Int} (hm : 0 < m) (hq : 0 < q) (h : n * q = p * m) : mkN n m = mkN p q ∧ mkD n m = mkD p q := by
  have hv := mk_val (n := p) hq
  refine mk_unique hm (mkD_pos hq) (mk_gcd hq) ?_
  refine Int.eq_of_mul_eq_mul_right (show q ≠ 0 by omega) ?_
  calc mkN p q * m * q = mkN p q * q * m := by rw [Int.mul_assoc, Int.mul_comm m, ← Int.mul_assoc]
    _ = p * mkD p q * m := by rw [hv]
    _ = p * m * mkD p q := by rw [Int.mul_assoc, Int.mul_comm (mkD p q), ← Int.mul_assoc]
    _ = n * q * mkD p q := by rw [h]
    _ = n * mkD p q * q := by rw [Int.mul_assoc, Int.mul_comm q, ← Int.mul_assoc]
theorem mkA_of {n m : Int} (hm : 0 < m) : mkA n m = absI (mkN n m) := by
  have hA : 0 ≤ mkA n m := (quo_le (mkA_mul hm) (absI_nonneg n) (mkG_pos2 hm)).1
  rcases Int.le_total n 0 with h0 | h0
  · rw [mkN_neg hm h0, absI_eq]; omega
  · rw [mkN_pos hm h0, absI_eq]; omega
theorem mkFits_congr {n m p q : Int} (hm : 0 < m) (hq : 0 < q) (h : n * q = p * m) : mkFits n m = mkFits p q := by
  obtain ⟨h1, h2⟩ := mk_congr hm hq h
  unfold mkFits
  rw [mkA_of hm, mkA_of hq, h1, h2]

theorem mul_lt_r {x y k : Int} (hk : 0 < k) : x * k < y * k ↔ x < y := ⟨fun h => Int.lt_of_mul_lt_mul_right h (by omega), fun h => Int.mul_lt_mul_of_pos_right h hk⟩
theorem mul_eq_r {x y k : Int} (hk : 0 < k) : x * k = y * k ↔ x = y := ⟨fun h => Int.eq_of_mul_eq_mul_right (by omega) h, fun h => by rw [h]⟩
theorem cmpI_scale {a b c d p q : Int} {k K : Int} (hk : 0 < k) (hK : 0 < K) (h1 : a * d * k = p * K) (h2 : c * b * k = q * K) : cmpI a b c d = if p < q then -1 else if p = q then 0 else 1 := by
  unfold cmpI
  have e1 : a * d < c * b ↔ p < q := by rw [← mul_lt_r hk, h1, h2, mul_lt_r hK]
  have e2 : a * d = c * b ↔ p = q := by rw [← mul_eq_r hk, h1, h2, mul_eq_r hK]
  simp only [e1, e2]
theorem cmpI_congr {a b c d p q s t : Int} (hb : 0 < b) (hd : 0 < d) (hq : 0 < q) (ht : 0 < t) (h1 : a * q = p * b) (h2 : c * t = s * d) : cmpI a b c d = cmpI p q s t := by
  refine cmpI_scale (k := q * t) (K := b * d) (Int.mul_pos hq ht) (Int.mul_pos hb hd) ?_ ?_
  · calc a * d * (q * t) = (a * q) * (d * t) := by grind
      _ = p * t * (b * d) := by rw [h1]; grind
  · calc c * b * (q * t) = (c * t) * (b * q) := by grind
      _ = s * q * (b * d) := by rw [h2]; grind
theorem cmpI_range (a b c d : Int) : -1 ≤ cmpI a b c d ∧ cmpI a b c d ≤ 1 := by
  unfold cmpI; split <;> (try split) <;> omega
theorem cmpI_symm (a b c d : Int) : cmpI c d a b = -cmpI a b c d := by
  unfold cmpI; split <;> (try split) <;> (try split) <;> (try split) <;> omega
theorem cmpI_zero {a b c d : Int} : cmpI a b c d = 0 ↔ a * d = c * b := by
  unfold cmpI; split <;> (try split) <;> omega
theorem cmpI_le {a b c d : Int} : cmpI a b c d ≤ 0 ↔ a * d ≤ c * b := by
  unfold cmpI; split <;> (try split) <;> omega
theorem cmpI_lt {a b c d : Int} : cmpI a b c d < 0 ↔ a * d < c * b := by
  unfold cmpI; split <;> (try split) <;> omega
theorem le_trans_frac {a b c d e f : Int} (hb : 0 < b) (hd : 0 < d) (hf : 0 < f) (h1 : a * d ≤ c * b) (h2 : c * f ≤ e * d) : a * f ≤ e * b := by
  have k1 : a * d * f ≤ c * b * f := Int.mul_le_mul_of_nonneg_right h1 (by omega)
  have k2 : c * f * b ≤ e * d * b := Int.mul_le_mul_of_nonneg_right h2 (by omega)
  have k3 : a * f * d ≤ e * b * d := by
    have e1 : a * f * d = a * d * f := by grind
    have e2 : c * b * f = c * f * b := by grind
    have e3 : e * b * d = e * d * b := by grind
    omega
  exact Int.le_of_mul_le_mul_right k3 hd
end Go.Proofs.YtekkphoingjidaaDoor

/- Fractions as rational numbers. No condition. -/
namespace Go.Proofs.YtekkphoingjidaaDoor
open Go.Evl Go.RowKit

theorem okB_pos {a b : Int} (h : okB a b = true) : 0 < b := by have := okB_iff.1 h; omega
def key (a b : Int) : Rat := (a : Rat) / (b : Rat)
theorem rat_pos {b : Int} (h : 0 < b) : (0 : Rat) < (b : Rat) := by
  have := Rat.intCast_lt_intCast (a := 0) (b := b)
  exact this.2 h
theorem key_lt {a b c d : Int} (hb : 0 < b) (hd : 0 < d) : key a b < key c d ↔ a * d < c * b := by
  unfold key
  have hb' := rat_pos hb
  have hd' := rat_pos hd
  rw [Rat.div_lt_iff hb']
  have : (c : Rat) / (d : Rat) * (b : Rat) = (c : Rat) * (b : Rat) / (d : Rat) := by grind
  rw [this, Rat.lt_div_iff hd', ← Rat.intCast_mul, ← Rat.intCast_mul, Rat.intCast_lt_intCast]
theorem key_le {a b c d : Int} (hb : 0 < b) (hd : 0 < d) : key a b ≤ key c d ↔ a * d ≤ c * b := by
  have := key_lt (a := c) (b := d) (c := a) (d := b) hd hb
  constructor
  · intro h; apply Int.not_lt.1; intro k; have := this.2 k; grind
  · intro h; apply Rat.not_lt.1; intro k; have := this.1 k; omega
theorem key_eq {a b c d : Int} (hb : 0 < b) (hd : 0 < d) : key a b = key c d ↔ a * d = c * b := by
  have h1 := key_le (a := a) (b := b) (c := c) (d := d) hb hd
  have h2 := key_le (a := c) (b := d) (c := a) (d := b) hd hb
  constructor
  · intro h
    have := h1.1 (by grind)
    have := h2.1 (by grind)
    omega
  · intro h
    have := h1.2 (by omega)
    have := h2.2 (by omega)
    grind
theorem cmpI_key {a b c d : Int} (hb : 0 < b) (hd : 0 < d) : cmpI a b c d = if key a b < key c d then -1 else if key a b = key c d then 0 else 1 := by
  unfold cmpI
  by_cases h : a * d < c * b
  · rw [if_pos h, if_pos ((key_lt hb hd).2 h)]
  · rw [if_neg h, if_neg (fun k => h ((key_lt hb hd).1 k))]
    by_cases h2 : a * d = c * b
    · rw [if_pos h2, if_pos ((key_eq hb hd).2 h2)]
    · rw [if_neg h2, if_neg (fun k => h2 ((key_eq hb hd).1 k))]
theorem key_inj {a b c d : Int} (h1 : okB a b = true) (h2 : okB c d = true) (h : key a b = key c d) : a = c ∧ b = d :=
  red_eq (okB_pos h1) (okB_pos h2) (okB_iff.1 h1).2.2.2.2 (okB_iff.1 h2).2.2.2.2 ((key_eq (okB_pos h1) (okB_pos h2)).1 h)
theorem key_mk {n m : Int} (hm : 0 < m) : key (mkN n m) (mkD n m) = key n m := (key_eq (mkD_pos hm) hm).2 (mk_val hm)
theorem key_add {a b c d : Int} (hb : 0 < b) (hd : 0 < d) : key (a * d + c * b) (b * d) = key a b + key c d := by
  have hb' := rat_pos hb
  have hd' := rat_pos hd
  unfold key
  simp only [Rat.intCast_add, Rat.intCast_mul]
  grind
theorem key_sub {a b c d : Int} (hb : 0 < b) (hd : 0 < d) : key (a * d - c * b) (b * d) = key a b - key c d := by
  have hb' := rat_pos hb
  have hd' := rat_pos hd
  unfold key
  simp only [Rat.intCast_sub, Rat.intCast_mul]
  grind
theorem key_mul {a b c d : Int} (hb : 0 < b) (hd : 0 < d) : key (a * c) (b * d) = key a b * key c d := by
  have hb' := rat_pos hb
  have hd' := rat_pos hd
  unfold key
  simp only [Rat.intCast_mul]
  grind
end Go.Proofs.YtekkphoingjidaaDoor

/- The ratio operations by their values: contracts with one result, and what they say of fractions as rational numbers. Conditions: none beyond the context's. -/
namespace Go.Proofs.YtekkphoingjidaaDoor
open Go.Evl Go.RowKit
def adK (a b c d : Int) : Bool := okB a b && okB c d
def adN (a b c d : Int) : Int := opN (adK a b c d) (a * d + c * b) (b * d)
def adD (a b c d : Int) : Int := opD (adK a b c d) (a * d + c * b) (b * d)
def adE (a b c d : Int) : Int := opE (adK a b c d) (a * d + c * b) (b * d)
def sbN (a b c d : Int) : Int := opN (adK a b c d) (a * d - c * b) (b * d)
def sbD (a b c d : Int) : Int := opD (adK a b c d) (a * d - c * b) (b * d)
def sbE (a b c d : Int) : Int := opE (adK a b c d) (a * d - c * b) (b * d)
def muN (a b c d : Int) : Int := opN (adK a b c d) (a * c) (b * d)
def muD (a b c d : Int) : Int := opD (adK a b c d) (a * c) (b * d)
def muE (a b c d : Int) : Int := opE (adK a b c d) (a * c) (b * d)
def qtN (a b c d : Int) : Int := dvA (adK a b c d) a b c d
def qtD (a b c d : Int) : Int := dvB (adK a b c d) a b c d
def qtE (a b c d : Int) : Int := dvE (adK a b c d) a b c d
abbrev R3 (n m e : Int) : Tr Res := .leaf (.ret (.tup [.agg [.int .i64 n, .int .i64 m], .int .i64 e]))
def j20 : Ent := ⟨20, fun
  | [.agg [.int .i64 a, .int .i64 b], .agg [.int .i64 c, .int .i64 d]] => R3 (adN a b c d) (adD a b c d) (adE a b c d)
  | _ => .non⟩
def j21 : Ent := ⟨21, fun
  | [.agg [.int .i64 a, .int .i64 b], .agg [.int .i64 c, .int .i64 d]] => R3 (muN a b c d) (muD a b c d) (muE a b c d)
  | _ => .non⟩
def j22 : Ent := ⟨22, fun
  | [.agg [.int .i64 a, .int .i64 b], .agg [.int .i64 c, .int .i64 d]] => R3 (sbN a b c d) (sbD a b c d) (sbE a b c d)
  | _ => .non⟩
def j23 : Ent := ⟨23, fun
  | [.agg [.int .i64 a, .int .i64 b], .agg [.int .i64 c, .int .i64 d]] => R3 (qtN a b c d) (qtD a b c d) (qtE a b c d)
  | _ => .non⟩
theorem j20_ok : SpecHolds Tryd.prog InvD 20 fun a => (j20.2 a).run := by
  refine spec_weak e20m_ok fun args r h => ?_
  simp only [j20] at h
  split at h
  · exact h
  · simp [Tr.run] at h
theorem j21_ok : SpecHolds Tryd.prog InvD 21 fun a => (j21.2 a).run := by
  refine spec_weak e21m_ok fun args r h => ?_
  simp only [j21] at h
  split at h
  · exact h
  · simp [Tr.run] at h
theorem j22_ok : SpecHolds Tryd.prog InvD 22 fun a => (j22.2 a).run := by
  refine spec_weak e22m_ok fun args r h => ?_
  simp only [j22] at h
  split at h
  · exact h
  · simp [Tr.run] at h
theorem j23_ok : SpecHolds Tryd.prog InvD 23 fun a => (j23.2 a).run := by
  refine spec_weak e23m_ok fun args r h => ?_
  simp only [j23] at h
  split at h
  · exact h
  · simp [Tr.run] at h

/-! fractions -/
/-- (n, m) is a valid fraction with value q -/
def Is (n m : Int) (q : Rat) : Prop := okB n m = true ∧ key n m = q
theorem Is.uniq {n m n' m' : Int} {q : Rat} (h : Is n m q) (h' : Is n' m' q) : n = n' ∧ m = m' := key_inj h.1 h'.1 (h.2.trans h'.2.symm)
theorem op_is {n m : Int} (hm : 0 < m) (he : opE true n m = 0) : Is (opN true n m) (opD true n m) (key n m) := by
  unfold opE at he
  cases hf : mkFits n m with
  | false => simp [hf] at he
  | true =>
    simp only [opN, opD, hf, Bool.and_self, if_true]
    exact ⟨mk_ok hm hf, key_mk hm⟩
theorem op_of {n m a b : Int} (hm : 0 < m) (h : Is a b (key n m)) : opE true n m = 0 ∧ opN true n m = a ∧ opD true n m = b := by
  obtain ⟨hok, hk⟩ := h
  have hb := okB_pos hok
  obtain ⟨h1, h2, h3, h4, h5⟩ := okB_iff.1 hok
  obtain ⟨e1, e2⟩ := mk_unique hm hb h5 ((key_eq hb hm).1 hk)
  have hf : mkFits n m = true := by
    have := mkA_of (n := n) (m := m) hm
    rw [e1, absI_eq] at this
    unfold mkFits
    rw [this, e2]
    simp only [Bool.and_eq_true, decide_eq_true_eq]
    omega
  simp [opE, opN, opD, hf, e1, e2]
theorem adK_of {a b c d : Int} (h1 : okB a b = true) (h2 : okB c d = true) : adK a b c d = true := by simp [adK, h1, h2]
theorem mul_pos' {b d : Int} (hb : 0 < b) (hd : 0 < d) : 0 < b * d := Int.mul_pos hb hd
theorem ad_is {a b c d : Int} {x y : Rat} (h1 : Is a b x) (h2 : Is c d y) (he : adE a b c d = 0) : Is (adN a b c d) (adD a b c d) (x + y) := by
  have hb := okB_pos h1.1
  have hd := okB_pos h2.1
  unfold adE at he
  unfold adN adD
  rw [adK_of h1.1 h2.1] at he ⊢
  have := op_is (mul_pos' hb hd) he
  rwa [key_add hb hd, h1.2, h2.2] at this
theorem mu_is {a b c d : Int} {x y : Rat} (h1 : Is a b x) (h2 : Is c d y) (he : muE a b c d = 0) : Is (muN a b c d) (muD a b c d) (x * y) := by
  have hb := okB_pos h1.1
  have hd := okB_pos h2.1
  unfold muE at he
  unfold muN muD
  rw [adK_of h1.1 h2.1] at he ⊢
  have := op_is (mul_pos' hb hd) he
  rwa [key_mul hb hd, h1.2, h2.2] at this
theorem sb_of {a b c d p q : Int} {x y : Rat} (h1 : Is a b x) (h2 : Is c d y) (h : Is p q (x - y)) : sbE a b c d = 0 ∧ sbN a b c d = p ∧ sbD a b c d = q := by
  have hb := okB_pos h1.1
  have hd := okB_pos h2.1
  unfold sbE sbN sbD
  rw [adK_of h1.1 h2.1]
  refine op_of (mul_pos' hb hd) ?_
  rw [key_sub hb hd, h1.2, h2.2]
  exact h
theorem key_neg0 {c d : Int} (hd : 0 < d) : key c d = 0 ↔ c = 0 := by
  have := key_eq (a := c) (b := d) (c := 0) (d := 1) hd (by omega)
  have h0 : key 0 1 = 0 := by unfold key; grind
  rw [h0] at this
  rw [this]; omega
theorem qt_of {a b c d p q : Int} {x y : Rat} (h1 : Is a b x) (h2 : Is c d y) (hc : c ≠ 0) (h : Is p q (x / y)) : qtE a b c d = 0 ∧ qtN a b c d = p ∧ qtD a b c d = q := by
  have hb := okB_pos h1.1
  have hd := okB_pos h2.1
  have hy : y ≠ 0 := by rw [← h2.2]; exact fun k => hc ((key_neg0 hd).1 k)
  unfold qtE qtN qtD dvE dvA dvB
  rw [adK_of h1.1 h2.1, beq_false_of_ne hc]
  simp only [Bool.and_false, Bool.false_eq_true, if_false]
  have hm : 0 < dvM b c := by
    unfold dvM
    by_cases hs : c < 0
    · rw [if_pos hs]; exact Int.mul_pos hb (by omega)
    · rw [if_neg hs]; exact Int.mul_pos hb (by omega)
  refine op_of hm ?_
  have hv : key (dvN a c d) (dvM b c) = x / y := by
    rw [← h1.2, ← h2.2]
    have hb' := rat_pos hb
    have hd' := rat_pos hd
    have hc' : (c : Rat) ≠ 0 := fun e => hc (by exact_mod_cast e)
    unfold dvN dvM key
    by_cases hs : c < 0
    · rw [if_pos hs, if_pos hs]
      simp only [Rat.intCast_mul, Rat.intCast_neg]
      grind
    · rw [if_neg hs, if_neg hs]
      simp only [Rat.intCast_mul]
      grind
  rw [hv]
  exact h
theorem adK_comm (a b c d : Int) : adK a b c d = adK c d a b := by unfold adK; rw [Bool.and_comm]
theorem ad_comm (a b c d : Int) : adN a b c d = adN c d a b ∧ adD a b c d = adD c d a b ∧ adE a b c d = adE c d a b := by
  unfold adN adD adE
  rw [adK_comm a b c d, Int.add_comm (a * d), Int.mul_comm b d]
  exact ⟨rfl, rfl, rfl⟩
theorem mu_comm (a b c d : Int) : muN a b c d = muN c d a b ∧ muD a b c d = muD c d a b ∧ muE a b c d = muE c d a b := by
  unfold muN muD muE
  rw [adK_comm a b c d, Int.mul_comm a c, Int.mul_comm b d]
  exact ⟨rfl, rfl, rfl⟩
end Go.Proofs.YtekkphoingjidaaDoor

/- The law's sum and product, which write their error through a pointer: contracts. Conditions: none beyond the context's. -/
namespace Go.Proofs.YtekkphoingjidaaDoor
open Go.Evl Go.RowKit
theorem specU {l : List Ent} {il : List FuncId} (hl : (mkCx Tryd.prog (spOf l) (inlOf il) extD).Ok InvD) {f : FuncId} {fn : Func} (hfn : Tryd.prog.funcs[f]? = some fn) {c : Code} (hb : fn.body = some c) (lp : Nat → LT)
    (hlp : ∀ p ∈ loops c, LoopOkT Tryd.prog (spOf l) (inlOf il) extD (cKD l il) lp fn.ntmps p.2 (lp p.1)) {s : List AV → Tr Res}
    (h : ∀ args t cs v cs', (s (args ++ .ptr t 0 :: cs)).run = some (.ret (.tup (v :: cs'))) → Nat.ble (args ++ [.ptr 0 0]).length fn.ntmps = true ∧
      evFn Tryd.prog (spOf l) (inlOf il) extD (cKD l il) lp fn (args ++ [.ptr 0 0]) [.cells cs t] (fun r H => some (r, H[0]?)) = some (.ret v, some (.cells cs' t))) : UpdHolds Tryd.prog InvD f fun a => (s a).run :=
  upd_of_ev Tryd.prog (spOf l) (inlOf il) extD (cKD l il) (fun {β} => callK_eq (β := β) Tryd.prog (spOf l) (inlOf il) extD attD uD 20) hl stableD mixedD (callN_sound attD_ok hl stableD mixedD 20) hfn hb lp hlp h
theorem upd_split {args cs : List AV} {t T : Nat} {x y : List AV} {k : IntKind} {e : Int} (h : args ++ .ptr t 0 :: cs = [.agg x, .agg y, .ptr T 0, .int k e]) : args = [.agg x, .agg y] ∧ t = T ∧ cs = [.int k e] := by
  match args with
  | [] => simp at h
  | [_] => simp at h
  | [_, _] => simp at h; simpa [and_assoc] using h
  | [_, _, _] => simp at h
  | _ :: _ :: _ :: _ :: _ => simp at h
/-- what the law's sum and product yield: nothing once there has been an error -/
def smN (a b c d e : Int) : Int := if e = 0 then adN a b c d else 0
def smD (a b c d e : Int) : Int := if e = 0 then adD a b c d else 0
def smE (a b c d e : Int) : Int := if e = 0 then adE a b c d else e
def pmN (a b c d e : Int) : Int := if e = 0 then muN a b c d else 0
def pmD (a b c d e : Int) : Int := if e = 0 then muD a b c d else 0
def pmE (a b c d e : Int) : Int := if e = 0 then muE a b c d else e
def u24 : Ent := ⟨1000024, fun
  | [.agg [.int .i64 a, .int .i64 b], .agg [.int .i64 c, .int .i64 d], .ptr 24 0, .int .i64 e] => .leaf (.ret (.tup [.agg [.int .i64 (smN a b c d e), .int .i64 (smD a b c d e)], .int .i64 (smE a b c d e)]))
  | _ => .non⟩
theorem ux24 : (mkCx Tryd.prog (spOf [j20]) (inlOf [51]) extD).Ok InvD := cx_of [51] (by kernel_rfl) (by
  intro p hp
  simp only [List.mem_cons, List.not_mem_nil, or_false] at hp
  rcases hp with rfl
  exact j20_ok)
theorem ut24 (a b c d e : Int) : evFn Tryd.prog (spOf [j20]) (inlOf [51]) extD (cKD [j20] [51]) (fun _ => .unroll 0) Tryd.f24 [.agg [.int .i64 a, .int .i64 b], .agg [.int .i64 c, .int .i64 d], .ptr 0 0] [.cells [.int .i64 e] 24] (fun r H => some (r, H[0]?)) =
    (bif e != 0 then some (.ret (.agg [.int .i64 0, .int .i64 0]), some (.cells [.int .i64 e] 24)) else some (.ret (.agg [.int .i64 (adN a b c d), .int .i64 (adD a b c d)]), some (.cells [.int .i64 (adE a b c d)] 24)) : Option (Res × Option Ob)) := by kernel_rfl
theorem u24_ok : UpdHolds Tryd.prog InvD 24 fun a => (u24.2 a).run := by
  refine specU ux24 Tryd.func24 (c := codeOf Tryd.prog 24) (by kernel_rfl) (fun _ => .unroll 0) (fun _ _ => trivial) fun args t cs v cs' hh => ?_
  simp only [u24] at hh
  split at hh
  · rename_i a b c d e heq
    obtain ⟨rfl, rfl, rfl⟩ := upd_split heq
    simp only [Tr.run, Option.some.injEq, Res.ret.injEq, AV.tup.injEq, List.cons.injEq] at hh
    obtain ⟨rfl, rfl⟩ := hh
    refine ⟨by kernel_rfl, (ut24 a b c d e).trans ?_⟩
    unfold smN smD smE
    by_cases h : e = 0
    · subst h; rfl
    · rw [if_neg h, if_neg h, if_neg h, bne_iff_ne.2 h]; rfl
  · simp [Tr.run] at hh
def u25 : Ent := ⟨1000025, fun
  | [.agg [.int .i64 a, .int .i64 b], .agg [.int .i64 c, .int .i64 d], .ptr 24 0, .int .i64 e] => .leaf (.ret (.tup [.agg [.int .i64 (pmN a b c d e), .int .i64 (pmD a b c d e)], .int .i64 (pmE a b c d e)]))
  | _ => .non⟩
theorem ux25 : (mkCx Tryd.prog (spOf [j21]) (inlOf [51]) extD).Ok InvD := cx_of [51] (by kernel_rfl) (by
  intro p hp
  simp only [List.mem_cons, List.not_mem_nil, or_false] at hp
  rcases hp with rfl
  exact j21_ok)
theorem ut25 (a b c d e : Int) : evFn Tryd.prog (spOf [j21]) (inlOf [51]) extD (cKD [j21] [51]) (fun _ => .unroll 0) Tryd.f25 [.agg [.int .i64 a, .int .i64 b], .agg [.int .i64 c, .int .i64 d], .ptr 0 0] [.cells [.int .i64 e] 24] (fun r H => some (r, H[0]?)) =
    (bif e != 0 then some (.ret (.agg [.int .i64 0, .int .i64 0]), some (.cells [.int .i64 e] 24)) else some (.ret (.agg [.int .i64 (muN a b c d), .int .i64 (muD a b c d)]), some (.cells [.int .i64 (muE a b c d)] 24)) : Option (Res × Option Ob)) := by kernel_rfl
theorem u25_ok : UpdHolds Tryd.prog InvD 25 fun a => (u25.2 a).run := by
  refine specU ux25 Tryd.func25 (c := codeOf Tryd.prog 25) (by kernel_rfl) (fun _ => .unroll 0) (fun _ _ => trivial) fun args t cs v cs' hh => ?_
  simp only [u25] at hh
  split at hh
  · rename_i a b c d e heq
    obtain ⟨rfl, rfl, rfl⟩ := upd_split heq
    simp only [Tr.run, Option.some.injEq, Res.ret.injEq, AV.tup.injEq, List.cons.injEq] at hh
    obtain ⟨rfl, rfl⟩ := hh
    refine ⟨by kernel_rfl, (ut25 a b c d e).trans ?_⟩
    unfold pmN pmD pmE
    by_cases h : e = 0
    · subst h; rfl
    · rw [if_neg h, if_neg h, if_neg h, bne_iff_ne.2 h]; rfl
  · simp [Tr.run] at hh
end Go.Proofs.YtekkphoingjidaaDoor

/- RatioField's law: its tree, and that it is true for all arguments. Conditions: none beyond the context's. -/
namespace Go.Proofs.YtekkphoingjidaaDoor
open Go.Evl Go.RowKit
abbrev RB5 (b : Bool) : Option Res := some (.ret (.bool b))
abbrev eq2 (n m n' m' : Int) : Bool := n == n' && (m == m' && true)
def g3 (a b c d p q e1 e2 e3 : Int) (rest : Option Res) (l m : Int) : Option Res :=
  bif smE (pmN a b c d e1) (pmD a b c d e1) (pmN a b p q e2) (pmD a b p q e2) e3 != 0 then rest
  else bif eq2 l m (smN (pmN a b c d e1) (pmD a b c d e1) (pmN a b p q e2) (pmD a b p q e2) e3) (smD (pmN a b c d e1) (pmD a b c d e1) (pmN a b p q e2) (pmD a b p q e2) e3) then RB5 true else RB5 false
def k3b (a b c d p q e1 : Int) (l m : Int) : Option Res := g3 a b c d p q e1 (pmE a b c d e1) (pmE a b p q (pmE a b c d e1)) (RB5 true) l m
def k3a (a b c d p q n m e : Int) : Option Res := k3b a b c d p q (pmE a b n m e) (pmN a b n m e) (pmD a b n m e)
def k3 (a b c d p q : Int) : Option Res := k3a a b c d p q (smN c d p q 0) (smD c d p q 0) (smE c d p q 0)
def g2 (a b n m e : Int) (l k : Int) (rest : Option Res) : Option Res :=
  bif pmE a b n m e == 0 then bif !eq2 l k (pmN a b n m e) (pmD a b n m e) then RB5 false else rest else rest
def k2b (a b c d p q e l k : Int) : Option Res := g2 a b (pmN c d p q e) (pmD c d p q e) (pmE c d p q e) l k (k3 a b c d p q)
def k2a (a b c d p q n m e : Int) : Option Res := k2b a b c d p q (pmE n m p q e) (pmN n m p q e) (pmD n m p q e)
def k2 (a b c d p q : Int) : Option Res := k2a a b c d p q (pmN a b c d 0) (pmD a b c d 0) (pmE a b c d 0)
def g1 (a b n m e : Int) (l k : Int) (rest : Option Res) : Option Res :=
  bif smE a b n m e == 0 then bif !eq2 l k (smN a b n m e) (smD a b n m e) then RB5 false else rest else rest
def k1b (a b c d p q e l k : Int) : Option Res := g1 a b (smN c d p q e) (smD c d p q e) (smE c d p q e) l k (k2 a b c d p q)
def k1a (a b c d p q n m e : Int) : Option Res := k1b a b c d p q (smE n m p q e) (smN n m p q e) (smD n m p q e)
def k1 (a b c d p q : Int) : Option Res := k1a a b c d p q (smN a b c d 0) (smD a b c d 0) (smE a b c d 0)
def kq (a b c d p q n m : Int) : Option Res :=
  bif muE a b c d == 0 then bif c != 0 then bif qtE n m c d != 0 then RB5 false else bif !eq2 (qtN n m c d) (qtD n m c d) a b then RB5 false else k1 a b c d p q else k1 a b c d p q else k1 a b c d p q
def ks (a b c d p q n m : Int) : Option Res :=
  bif adE a b c d == 0 then bif sbE n m c d != 0 then RB5 false else bif !eq2 (sbN n m c d) (sbD n m c d) a b then RB5 false else kq a b c d p q (muN a b c d) (muD a b c d) else kq a b c d p q (muN a b c d) (muD a b c d)
def kt (a b c d p q : Int) : Option Res :=
  bif ckI a b != 0 then RB5 true else bif ckI c d != 0 then RB5 true else bif ckI p q != 0 then RB5 true
  else bif !eq2 (adN a b c d) (adD a b c d) (adN c d a b) (adD c d a b) then RB5 false else bif adE a b c d != adE c d a b then RB5 false
  else bif !eq2 (muN a b c d) (muD a b c d) (muN c d a b) (muD c d a b) then RB5 false else bif muE a b c d != muE c d a b then RB5 false
  else ks a b c d p q (adN a b c d) (adD a b c d)

theorem sm_e {a b c d e : Int} (h : smE a b c d e = 0) : e = 0 := by
  unfold smE at h
  by_cases h0 : e = 0
  · exact h0
  · rw [if_neg h0] at h; exact h
theorem pm_e {a b c d e : Int} (h : pmE a b c d e = 0) : e = 0 := by
  unfold pmE at h
  by_cases h0 : e = 0
  · exact h0
  · rw [if_neg h0] at h; exact h
theorem sm_is {a b c d e : Int} {x y : Rat} (h1 : Is a b x) (h2 : Is c d y) (h : smE a b c d e = 0) : Is (smN a b c d e) (smD a b c d e) (x + y) := by
  have h0 := sm_e h
  subst h0
  exact ad_is h1 h2 h
theorem pm_is {a b c d e : Int} {x y : Rat} (h1 : Is a b x) (h2 : Is c d y) (h : pmE a b c d e = 0) : Is (pmN a b c d e) (pmD a b c d e) (x * y) := by
  have h0 := pm_e h
  subst h0
  exact mu_is h1 h2 h
theorem eq2_of {n m n' m' : Int} {x y : Rat} (h : Is n m x) (h' : Is n' m' y) (e : x = y) : eq2 n m n' m' = true := by
  subst e
  obtain ⟨rfl, rfl⟩ := h.uniq h'
  simp [eq2]
theorem k3_true {a b c d p q : Int} {x y z : Rat} (hx : Is a b x) (hy : Is c d y) (hz : Is p q z) : k3 a b c d p q = RB5 true := by
  unfold k3 k3a k3b g3
  by_cases h : smE (pmN a b c d (pmE a b (smN c d p q 0) (smD c d p q 0) (smE c d p q 0))) (pmD a b c d (pmE a b (smN c d p q 0) (smD c d p q 0) (smE c d p q 0))) (pmN a b p q (pmE a b c d (pmE a b (smN c d p q 0) (smD c d p q 0) (smE c d p q 0))))
      (pmD a b p q (pmE a b c d (pmE a b (smN c d p q 0) (smD c d p q 0) (smE c d p q 0)))) (pmE a b p q (pmE a b c d (pmE a b (smN c d p q 0) (smD c d p q 0) (smE c d p q 0)))) = 0
  · have h1 := sm_e h
    have h2 := pm_e h1
    have h3 := pm_e h2
    have h4 := pm_e h3
    have i1 := sm_is hy hz h4
    have i2 := pm_is hx i1 h3
    have i3 := pm_is hx hy h2
    have i4 := pm_is hx hz h1
    have i5 := sm_is i3 i4 h
    rw [eq2_of i2 i5 (by grind)]
    simp
  · rw [bne_iff_ne.2 h]; rfl
theorem k2_true {a b c d p q : Int} {x y z : Rat} (hx : Is a b x) (hy : Is c d y) (hz : Is p q z) : k2 a b c d p q = RB5 true := by
  unfold k2 k2a k2b g2
  rw [k3_true hx hy hz]
  by_cases h : pmE a b (pmN c d p q (pmE (pmN a b c d 0) (pmD a b c d 0) p q (pmE a b c d 0))) (pmD c d p q (pmE (pmN a b c d 0) (pmD a b c d 0) p q (pmE a b c d 0))) (pmE c d p q (pmE (pmN a b c d 0) (pmD a b c d 0) p q (pmE a b c d 0))) = 0
  · have h1 := pm_e h
    have h2 := pm_e h1
    have h3 := pm_e h2
    have i1 := pm_is hx hy h3
    have i2 := pm_is i1 hz h2
    have i3 := pm_is hy hz h1
    have i4 := pm_is hx i3 h
    rw [eq2_of i2 i4 (by grind)]
    simp
  · rw [beq_false_of_ne h]; rfl
theorem k1_true {a b c d p q : Int} {x y z : Rat} (hx : Is a b x) (hy : Is c d y) (hz : Is p q z) : k1 a b c d p q = RB5 true := by
  unfold k1 k1a k1b g1
  rw [k2_true hx hy hz]
  by_cases h : smE a b (smN c d p q (smE (smN a b c d 0) (smD a b c d 0) p q (smE a b c d 0))) (smD c d p q (smE (smN a b c d 0) (smD a b c d 0) p q (smE a b c d 0))) (smE c d p q (smE (smN a b c d 0) (smD a b c d 0) p q (smE a b c d 0))) = 0
  · have h1 := sm_e h
    have h2 := sm_e h1
    have h3 := sm_e h2
    have i1 := sm_is hx hy h3
    have i2 := sm_is i1 hz h2
    have i3 := sm_is hy hz h1
    have i4 := sm_is hx i3 h
    rw [eq2_of i2 i4 (by grind)]
    simp
  · rw [beq_false_of_ne h]; rfl
theorem kq_true {a b c d p q : Int} {x y z : Rat} (hx : Is a b x) (hy : Is c d y) (hz : Is p q z) : kq a b c d p q (muN a b c d) (muD a b c d) = RB5 true := by
  unfold kq
  rw [k1_true hx hy hz]
  by_cases h : muE a b c d = 0
  · by_cases hc : c = 0
    · simp [hc]
    · have hyn : y ≠ 0 := by rw [← hy.2]; exact fun k => hc ((key_neg0 (okB_pos hy.1)).1 k)
      have i1 := mu_is hx hy h
      have hxy : x * y / y = x := by grind
      obtain ⟨e1, e2, e3⟩ := qt_of (p := a) (q := b) i1 hy hc (by rw [hxy]; exact hx)
      rw [e1, e2, e3]
      simp [eq2]
  · rw [beq_false_of_ne h]; rfl
theorem ks_true {a b c d p q : Int} {x y z : Rat} (hx : Is a b x) (hy : Is c d y) (hz : Is p q z) : ks a b c d p q (adN a b c d) (adD a b c d) = RB5 true := by
  unfold ks
  rw [kq_true hx hy hz]
  by_cases h : adE a b c d = 0
  · have i1 := ad_is hx hy h
    have hxy : x + y - y = x := by grind
    obtain ⟨e1, e2, e3⟩ := sb_of (p := a) (q := b) i1 hy (by rw [hxy]; exact hx)
    rw [e1, e2, e3]
    simp [eq2]
  · rw [beq_false_of_ne h]; rfl
theorem kt_true (a b c d p q : Int) : kt a b c d p q = RB5 true := by
  unfold kt
  obtain ⟨a1, a2, a3⟩ := ad_comm a b c d
  obtain ⟨m1, m2, m3⟩ := mu_comm a b c d
  by_cases h1 : okB a b = true
  · by_cases h2 : okB c d = true
    · by_cases h3 : okB p q = true
      · rw [ks_true ⟨h1, rfl⟩ ⟨h2, rfl⟩ ⟨h3, rfl⟩, ← a1, ← a2, ← a3, ← m1, ← m2, ← m3]
        simp [ckI, h1, h2, h3, eq2]
      · simp [ckI, h1, h2, h3]
    · simp [ckI, h1, h2]
  · simp [ckI, h1]
theorem lx5 : (mkCx Tryd.prog (spOf [e14m, j20, j21, j22, j23, u24, u25, e19]) (inlOf []) extD).Ok InvD := cx_of [] (by kernel_rfl) (by
  intro p hp
  simp only [List.mem_cons, List.not_mem_nil, or_false] at hp
  rcases hp with rfl | rfl | rfl | rfl | rfl | rfl | rfl | rfl
  · exact e14m_ok
  · exact j20_ok
  · exact j21_ok
  · exact j22_ok
  · exact j23_ok
  · exact u24_ok
  · exact u25_ok
  · exact e19_ok)
end Go.Proofs.YtekkphoingjidaaDoor
