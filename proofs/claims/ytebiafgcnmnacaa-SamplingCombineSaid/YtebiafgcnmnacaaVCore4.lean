/- Laws of merged results. No condition. -/
import Derived.Test.YtebiafgcnmnacaaVCore3
/- Div64's contract. Conditions: none beyond the context's. -/
namespace Go.Proofs.Ytebiafgcnmnacaa
open Go.Evl Go.RowKit

theorem toNat_ofInt64 {x : Int} (h0 : 0 ≤ x) (h1 : x < 18446744073709551616) : (BitVec.ofInt 64 x).toNat = x.toNat := by
  rw [BitVec.toNat_ofInt]
  have : x % ((2 ^ 64 : Nat) : Int) = x := Int.emod_eq_of_lt h0 (by omega)
  rw [this]
theorem and_low {y : Int} (h0 : 0 ≤ y) (h1 : y < 18446744073709551616) : IntKind.u64.wrap ((BitVec.ofInt 64 y &&& BitVec.ofInt 64 4294967295).toNat : Int) = y % 4294967296 := by
  rw [BitVec.toNat_and, toNat_ofInt64 h0 h1, toNat_ofInt64 (x := 4294967295) (by omega) (by omega)]
  have : y.toNat &&& (4294967295 : Int).toNat = y.toNat % 2 ^ 32 := Nat.and_two_pow_sub_one_eq_mod y.toNat 32
  rw [this]
  obtain ⟨n, rfl⟩ := Int.eq_ofNat_of_zero_le h0
  simp only [Int.toNat_natCast, IntKind.wrap_u64]
  omega
theorem or_join {p t : Int} {s : Nat} (hp : 0 ≤ p) (ht : 0 ≤ t) (ht2 : t < 2 ^ s) (hb : p * 2 ^ s + t < 18446744073709551616) :
    IntKind.u64.wrap ((BitVec.ofInt 64 (p * 2 ^ s) ||| BitVec.ofInt 64 t).toNat : Int) = p * 2 ^ s + t := by
  obtain ⟨P, rfl⟩ := Int.eq_ofNat_of_zero_le hp
  obtain ⟨T, rfl⟩ := Int.eq_ofNat_of_zero_le ht
  have e : (P : Int) * 2 ^ s = ((P * 2 ^ s : Nat) : Int) := by rw [Int.natCast_mul, Int.natCast_pow]; rfl
  have hT : T < 2 ^ s := by
    have e2 : (2 : Int) ^ s = ((2 ^ s : Nat) : Int) := by rw [Int.natCast_pow]; rfl
    rw [e2] at ht2; exact Int.ofNat_lt.1 ht2
  rw [e] at hb ⊢
  have h0 : 0 ≤ ((P * 2 ^ s : Nat) : Int) := Int.natCast_nonneg _
  rw [BitVec.toNat_or, toNat_ofInt64 h0 (by omega), toNat_ofInt64 (x := (T : Int)) (by omega) (by omega)]
  simp only [Int.toNat_natCast]
  have : P * 2 ^ s ||| T = P * 2 ^ s + T := by
    rw [← Nat.shiftLeft_eq]
    exact (Nat.shiftLeft_add_eq_or_of_lt hT P).symm
  rw [this, IntKind.wrap_u64]
  omega
theorem pow_split {s : Nat} (hs : s ≤ 64) : (2 : Int) ^ s * 2 ^ (64 - s) = 18446744073709551616 := by
  rw [← Int.pow_add, show s + (64 - s) = 64 by omega]; rfl
theorem two_pow_pos (s : Nat) : (0 : Int) < 2 ^ s := Int.pow_pos (by omega)
/-- a word moved to the left: what leaves it -/
theorem shl_parts {b : Int} {s : Nat} (hs : s ≤ 64) : b * 2 ^ s / 18446744073709551616 = b / 2 ^ (64 - s) := by
  rw [← pow_split hs, Int.mul_comm b, Int.mul_ediv_mul_of_pos _ _ (two_pow_pos s)]

def e80 : Ent := ⟨78, fun
  | [.int .u64 a, .int .u64 b, .int .u64 c] => .node (inU a && inU b && inU c && decide (a < c)) (.leaf (.ret (.tup [.int .u64 ((a * 18446744073709551616 + b) / c), .int .u64 ((a * 18446744073709551616 + b) % c)]))) .non
  | _ => .non⟩

theorem div80 {a b c : Int} (ha0 : 0 ≤ a) (hac : a < c) (hc1 : c < 18446744073709551616) (hb0 : 0 ≤ b) (hb1 : b < 18446744073709551616) :
    evFn Try.prog (spOf [e91]) (inlOf []) extD (cKD [e91] []) lp80 Try.f78 [.int .u64 a, .int .u64 b, .int .u64 c] [] (fun r _ => some r) =
    some (.ret (.tup [.int .u64 ((a * 18446744073709551616 + b) / c), .int .u64 ((a * 18446744073709551616 + b) % c)])) := by
  rw [head80]
  have c1 : (c == 0) = false := by simp; omega
  have c2 : decide (c ≤ a) = false := by simp; omega
  have c3 : (!decide (c = 0)) = true := by simp; omega
  rw [c1, c2, c3]
  by_cases h0 : a = 0
  · subst h0
    have : ((0 : Int) == 0) = true := rfl
    rw [this]
    simp only [cond_true, cond_false, Option.some.injEq, Res.ret.injEq, AV.tup.injEq, List.cons.injEq, AV.int.injEq, true_and, and_true]
    rw [Int.tdiv_eq_ediv_of_nonneg hb0, Int.tmod_eq_emod_of_nonneg hb0]
    have hd0 : 0 ≤ b / c := Int.ediv_nonneg hb0 (by omega)
    have hd1 : b / c ≤ b := Int.ediv_le_self _ hb0
    rw [wrapU hd0 (by omega)]
    simp
  · have c4 : (a == 0) = false := by simp; exact h0
    have c5 : inU c = true := inU_iff.2 ⟨by omega, hc1⟩
    obtain ⟨l0, l1, l2, l3⟩ := lz_bounds (c := c) (by omega) hc1
    rw [c4, c5]
    generalize hz : lzI c = z at *
    rw [wrapU (x := z) (by omega) (by omega)]
    rw [wrapU (x := 64 - z) (by omega) (by omega)]
    have c6 : (!decide (z < 0)) = true := by simp; omega
    have c7 : (!decide (64 - z < 0)) = true := by simp; omega
    rw [c6, c7]
    obtain ⟨s, rfl⟩ := Int.eq_ofNat_of_zero_le l0
    simp only [Int.toNat_natCast] at l2 l3 ⊢
    have m1 : min s 64 = s := by omega
    have m2 : (64 - (s : Int)).toNat = 64 - s := by omega
    have m3 : min (64 - s) 64 = 64 - s := by omega
    have m4 : min (Int.toNat 32) 64 = 32 := rfl
    rw [m2, m1, m3, m4]
    have hs : s ≤ 64 := by omega
    have hpow := two_pow_pos s
    have hyp : 0 < c * 2 ^ s := Int.mul_pos (by omega) hpow
    have hau : a * 2 ^ s < c * 2 ^ s := Int.mul_lt_mul_of_pos_right hac hpow
    have ha2 : 0 ≤ a * 2 ^ s := Int.mul_nonneg ha0 (by omega)
    have hb2 : 0 ≤ b * 2 ^ s := Int.mul_nonneg hb0 (by omega)
    rw [wrapU (x := c * 2 ^ s) (by omega) l3, wrapU (x := a * 2 ^ s) ha2 (by omega)]
    rw [Int.fdiv_eq_ediv_of_nonneg _ (show (0 : Int) ≤ 2 ^ 32 by omega), Int.fdiv_eq_ediv_of_nonneg _ (show (0 : Int) ≤ 2 ^ 32 by omega), Int.fdiv_eq_ediv_of_nonneg b (show (0 : Int) ≤ 2 ^ (64 - s) by have := two_pow_pos (64 - s); omega)]
    rw [and_low (y := c * 2 ^ s) (by omega) l3]
    have hw0 : 0 ≤ IntKind.u64.wrap (b * 2 ^ s) := by simp only [IntKind.wrap_u64]; omega
    have hw1 : IntKind.u64.wrap (b * 2 ^ s) < 18446744073709551616 := by simp only [IntKind.wrap_u64]; omega
    rw [and_low hw0 hw1]
    have hwb : IntKind.u64.wrap (b * 2 ^ s) = b * 2 ^ s % 18446744073709551616 := by simp only [IntKind.wrap_u64]
    have hq := shl_parts (b := b) hs
    have ht0 : 0 ≤ b / 2 ^ (64 - s) := Int.ediv_nonneg hb0 (by have := two_pow_pos (64 - s); omega)
    have ht1 : b / 2 ^ (64 - s) < 2 ^ s := by
      rw [Int.ediv_lt_iff_lt_mul (two_pow_pos _), pow_split hs]; exact hb1
    have hle : a * 2 ^ s + 2 ^ s ≤ c * 2 ^ s := by
      have : (a + 1) * 2 ^ s ≤ c * 2 ^ s := Int.mul_le_mul_of_nonneg_right (by omega) (by omega)
      rw [Int.add_mul, Int.one_mul] at this; exact this
    rw [or_join ha0 ht0 ht1 (by omega)]
    have e32 : (2 : Int) ^ 32 = 4294967296 := rfl
    rw [e32]
    generalize hY : c * 2 ^ s = Y at *
    generalize hW : IntKind.u64.wrap (b * 2 ^ s) = W at *
    have hu0 : 0 ≤ a * 2 ^ s + b / 2 ^ (64 - s) := by omega
    have hu1 : a * 2 ^ s + b / 2 ^ (64 - s) < Y := by omega
    simp only [cond_true, cond_false]
    rw [tail80_eq (y := Y) (by omega) (by omega) (by omega) (by omega) (by omega) (by omega) (by omega) (by omega) (by omega) hu0 hu1 (by omega)]
    have hN : ((a * 2 ^ s + b / 2 ^ (64 - s)) * 4294967296 + W / 4294967296) * 4294967296 + W % 4294967296 = (a * 18446744073709551616 + b) * 2 ^ s := by
      have e1 : (a * 18446744073709551616 + b) * 2 ^ s = a * 2 ^ s * 18446744073709551616 + b * 2 ^ s := by rw [Int.add_mul, Int.mul_assoc, Int.mul_comm 18446744073709551616, ← Int.mul_assoc]
      rw [e1, hwb, ← hq]
      generalize a * 2 ^ s = p
      generalize b * 2 ^ s = q
      omega
    obtain ⟨t1, t2⟩ := two_digits (T := (a * 2 ^ s + b / 2 ^ (64 - s)) * 4294967296 + W / 4294967296) (d := W % 4294967296) (y := Y) (B := 4294967296) hyp
    rw [← t1, ← t2, hN, ← hY]
    simp only [Int.toNat_natCast, m1]
    rw [Int.mul_ediv_mul_of_pos_left _ _ hpow, Int.mul_comm _ ((2 : Int) ^ s), Int.mul_comm c, Int.mul_emod_mul_of_pos _ _ hpow, Int.fdiv_eq_ediv_of_nonneg _ (by omega), Int.mul_ediv_cancel_left _ (by omega)]
theorem e80_ok : SpecHolds Try.prog InvD 78 fun a => (e80.2 a).run := by
  refine specD cx80 Try.func78 (c := codeOf Try.prog 78) (by kernel_rfl) lp80 (fun p hp => ?_) fun args r h => ?_
  · have hl : loops (codeOf Try.prog 78) = [(0, bodyOf Try.prog 78 0), (2, bodyOf Try.prog 78 2)] := by kernel_rfl
    rw [hl] at hp
    simp only [List.mem_cons, List.not_mem_nil, or_false] at hp
    rcases hp with rfl | rfl
    · dsimp only [LoopOkT, lp80]
      exact ⟨by decide, by decide, sum80a⟩
    · dsimp only [LoopOkT, lp80]
      exact ⟨by decide, by decide, sum80b⟩
  · simp only [e80] at h
    split at h
    · rename_i a b c
      rcases node_run h with ⟨hc, h⟩ | ⟨_, h⟩
      · simp only [Tr.run, Option.some.injEq] at h
        subst h
        simp only [Bool.and_eq_true, inU_iff, decide_eq_true_eq] at hc
        obtain ⟨⟨⟨⟨a0, a1⟩, b0, b1⟩, c0, c1⟩, hac⟩ := hc
        exact ⟨by kernel_rfl, rfl, div80 a0 hac c1 b0 b1⟩
      · simp [Tr.run] at h
    · simp [Tr.run] at h
end Go.Proofs.Ytebiafgcnmnacaa

/- Statements of the contracts of Make and what it calls. No condition. -/
namespace Go.Proofs.Ytebiafgcnmnacaa
open Go.Evl Go.RowKit

/-- a wide number that fits -/
def fitB (hi lo : Int) : Bool := decide (hi = 0 ∧ lo ≤ 1152921504606846976)
def inI (x : Int) : Bool := decide (-9223372036854775808 ≤ x ∧ x < 9223372036854775808)
def e63 : Ent := ⟨66, fun
  | [.agg [.int .u64 hi, .int .u64 lo]] => .node (inU lo) (.node (fitB hi lo) (.leaf (.ret (.int .i64 lo))) (.leaf .pan)) .non
  | _ => .non⟩
def e38 : Ent := ⟨54, fun
  | [.bool n, .agg [.int .u64 a, .int .u64 b], .agg [.int .u64 c, .int .u64 d]] => .node (inU b && inU d) (.node (fitB a b) (.node (fitB c d) (.leaf (.ret (.agg [.int .i64 (bif n then -b else b), .int .i64 d]))) (.leaf .pan)) (.leaf .pan)) .non
  | _ => .non⟩
def mkG (num den : Int) : Int := gcdI (absI num) (absI den)
def mkA (num den : Int) : Int := absI num / mkG num den
def mkD (num den : Int) : Int := absI den / mkG num den
def mkN (num den : Int) : Int := bif (decide (num < 0) != decide (den < 0)) then -mkA num den else mkA num den
def mkFits (num den : Int) : Bool := decide (mkA num den ≤ 1152921504606846976) && decide (mkD num den ≤ 1152921504606846976)
def e11 : Ent := ⟨32, fun
  | [.int .i64 num, .int .i64 den] => .node (inI num && inI den) (.node (decide (den = 0)) (.leaf (.ret (.tup [.agg [.int .i64 0, .int .i64 0], .int .i64 26])))
      (.node (mkFits num den) (.leaf (.ret (.tup [.agg [.int .i64 (mkN num den), .int .i64 (mkD num den)], .int .i64 0]))) (.leaf (.ret (.tup [.agg [.int .i64 0, .int .i64 0], .int .i64 14]))))) .non
  | _ => .non⟩
end Go.Proofs.Ytebiafgcnmnacaa

/- Contracts of wide numbers. Conditions: none beyond the context's. -/
namespace Go.Proofs.Ytebiafgcnmnacaa
open Go.Evl Go.RowKit

/-- the number of two words -/
def wV (hi lo : Int) : Int := hi * 18446744073709551616 + lo
def e79 : Ent := ⟨77, fun
  | [.int .u64 a, .int .u64 b, .int .u64 c] => .node (inU a && inU b && inU c && decide (0 < c)) (.leaf (.ret (.int .u64 (wV a b % c)))) .non
  | _ => .non⟩
def e65 : Ent := ⟨68, fun
  | [.agg [.int .u64 a, .int .u64 b], .agg [.int .u64 c, .int .u64 d]] => .node (inU a && inU b && inU c && inU d && decide (a + c < 18446744073709551615)) (.leaf (.ret (.agg [.int .u64 ((wV a b + wV c d) / 18446744073709551616), .int .u64 ((wV a b + wV c d) % 18446744073709551616)]))) .non
  | _ => .non⟩
def e66 : Ent := ⟨70, fun
  | [.agg [.int .u64 a, .int .u64 b], .agg [.int .u64 c, .int .u64 d]] => .node (inU a && inU b && inU c && inU d && decide (wV c d ≤ wV a b)) (.leaf (.ret (.agg [.int .u64 ((wV a b - wV c d) / 18446744073709551616), .int .u64 ((wV a b - wV c d) % 18446744073709551616)]))) .non
  | _ => .non⟩
def e67 : Ent := ⟨71, fun
  | [.agg [.int .u64 a, .int .u64 b], .int .u64 c] => .node (inU a && inU b && inU c && decide (0 < c)) (.leaf (.ret (.int .u64 (wV a b % c)))) .non
  | _ => .non⟩
def e68 : Ent := ⟨72, fun
  | [.agg [.int .u64 a, .int .u64 b], .int .u64 c] => .node (inU a && inU b && inU c && decide (0 < c)) (.leaf (.ret (.agg [.int .u64 (wV a b / c / 18446744073709551616), .int .u64 (wV a b / c % 18446744073709551616)]))) .non
  | _ => .non⟩
end Go.Proofs.Ytebiafgcnmnacaa

/- Contracts of wide numbers: proofs. Conditions: none beyond the context's. -/
namespace Go.Proofs.Ytebiafgcnmnacaa
open Go.Evl Go.RowKit

theorem tree79 (a b c : Int) : evFn Try.prog (spOf [e80]) (inlOf []) extD (cKD [e80] []) (fun _ => .unroll 0) Try.f77 [.int .u64 a, .int .u64 b, .int .u64 c] [] (fun r _ => some r) =
    (bif !decide (c = 0) then
      bif inU (a.tmod c) && inU b && inU c && decide (a.tmod c < c) then
        some (Res.ret (AV.int IntKind.u64 ((a.tmod c * 18446744073709551616 + b) % c)))
      else none
    else none : Option Res) := by kernel_rfl
theorem tree65 (a b c d : Int) : evFn Try.prog (spOf []) (inlOf []) extD (cKD [] []) (fun _ => .unroll 0) Try.f68 [.agg [.int .u64 a, .int .u64 b], .agg [.int .u64 c, .int .u64 d]] [] (fun r _ => some r) =
    (bif decide (0 ≤ b) && decide (0 ≤ d) && true && true then
      bif
          decide (0 ≤ a) && decide (0 ≤ c) && decide (0 ≤ (b + d + 0) / 18446744073709551616) &&
            decide ((b + d + 0) / 18446744073709551616 ≤ 1) then
        some
          (Res.ret
            (AV.agg
              [AV.int IntKind.u64 ((a + c + (b + d + 0) / 18446744073709551616) % 18446744073709551616),
                AV.int IntKind.u64 ((b + d + 0) % 18446744073709551616)]))
      else none
    else none : Option Res) := by kernel_rfl
theorem tree66 (a b c d : Int) : evFn Try.prog (spOf []) (inlOf []) extD (cKD [] []) (fun _ => .unroll 0) Try.f70 [.agg [.int .u64 a, .int .u64 b], .agg [.int .u64 c, .int .u64 d]] [] (fun r _ => some r) =
    (bif decide (0 ≤ b) && decide (0 ≤ d) && decide (d < 18446744073709551616) && true && true then
      bif
          decide (0 ≤ a) && decide (0 ≤ c) && decide (c < 18446744073709551616) &&
              decide (0 ≤ bif decide (b < d + 0) then (1 : Int) else 0) &&
            decide ((bif decide (b < d + 0) then (1 : Int) else 0) ≤ 1) then
        some
          (Res.ret
            (AV.agg
              [AV.int IntKind.u64 ((a - c - bif decide (b < d + 0) then (1 : Int) else 0) % 18446744073709551616),
                AV.int IntKind.u64 ((b - d - 0) % 18446744073709551616)]))
      else none
    else none : Option Res) := by kernel_rfl
theorem tree67 (a b c : Int) : evFn Try.prog (spOf [e79]) (inlOf []) extD (cKD [e79] []) (fun _ => .unroll 0) Try.f71 [.agg [.int .u64 a, .int .u64 b], .int .u64 c] [] (fun r _ => some r) =
    (bif inU a && inU b && inU c && decide (0 < c) then some (Res.ret (AV.int IntKind.u64 (wV a b % c))) else none : Option Res) := by kernel_rfl
theorem tree68 (a b c : Int) : evFn Try.prog (spOf [e80]) (inlOf []) extD (cKD [e80] []) (fun _ => .unroll 0) Try.f72 [.agg [.int .u64 a, .int .u64 b], .int .u64 c] [] (fun r _ => some r) =
    (bif !decide (c = 0) then
      bif inU (a.tmod c) && inU b && inU c && decide (a.tmod c < c) then
        bif !decide (c = 0) then
          some
            (Res.ret
              (AV.agg
                [AV.int IntKind.u64 (IntKind.u64.wrap (a.tdiv c)),
                  AV.int IntKind.u64 ((a.tmod c * 18446744073709551616 + b) / c)]))
        else none
      else none
    else none : Option Res) := by kernel_rfl
theorem wide_mod {a b c : Int} (hc : 0 < c) : wV (a % c) b % c = wV a b % c := (two_digits (T := a) (d := b) (B := 18446744073709551616) hc).2.symm
theorem wide_q {a b c : Int} (hb : 0 ≤ b) (hb1 : b < 18446744073709551616) (hc : 0 < c) : 0 ≤ wV (a % c) b / c ∧ wV (a % c) b / c < 18446744073709551616 := by
  have h1 := Int.emod_nonneg a (show c ≠ 0 by omega)
  have h2 := Int.emod_lt_of_pos a hc
  unfold wV
  refine ⟨Int.ediv_nonneg (by omega) (by omega), ?_⟩
  rw [Int.ediv_lt_iff_lt_mul hc]
  omega
theorem wide_div {a b c : Int} (hb : 0 ≤ b) (hb1 : b < 18446744073709551616) (hc : 0 < c) : wV a b / c / 18446744073709551616 = a / c ∧ wV a b / c % 18446744073709551616 = wV (a % c) b / c := by
  have h := (two_digits (T := a) (d := b) (B := 18446744073709551616) hc).1
  obtain ⟨h1, h2⟩ := wide_q (a := a) hb hb1 hc
  unfold wV at *
  rw [h]
  omega
theorem div_le_self' {a c : Int} (ha : 0 ≤ a) (hc : 0 < c) : 0 ≤ a / c ∧ a / c ≤ a := ⟨Int.ediv_nonneg ha (by omega), Int.ediv_le_self _ ha⟩
theorem cx79 : (mkCx Try.prog (spOf [e80]) (inlOf []) extD).Ok InvD := cx_of [] (by kernel_rfl) (by
  intro p hp
  simp only [List.mem_cons, List.not_mem_nil, or_false] at hp
  subst hp
  exact e80_ok)
theorem e79_ok : SpecHolds Try.prog InvD 77 fun a => (e79.2 a).run := by
  refine specD cx79 Try.func77 (c := codeOf Try.prog 77) (by kernel_rfl) (fun _ => .unroll 0) (fun _ _ => trivial) fun args r h => ?_
  simp only [e79] at h
  split at h
  · rename_i a b c
    rcases node_run h with ⟨hc, h⟩ | ⟨_, h⟩
    · simp only [Tr.run, Option.some.injEq] at h
      subst h
      simp only [Bool.and_eq_true, inU_iff, decide_eq_true_eq] at hc
      obtain ⟨⟨⟨⟨a0, a1⟩, b0, b1⟩, c0, c1⟩, hac⟩ := hc
      refine ⟨by kernel_rfl, rfl, ?_⟩
      have h1 := Int.emod_nonneg a (show c ≠ 0 by omega)
      have h2 := Int.emod_lt_of_pos a hac
      rw [tree79, Int.tmod_eq_emod_of_nonneg a0]
      have k1 : (!decide (c = 0)) = true := by simp; omega
      have k2 : (inU (a % c) && inU b && inU c && decide (a % c < c)) = true := by simp only [Bool.and_eq_true, inU_iff, decide_eq_true_eq]; omega
      rw [k1, k2, ← wide_mod hac]
      rfl
    · simp [Tr.run] at h
  · simp [Tr.run] at h
theorem cx67 : (mkCx Try.prog (spOf [e79]) (inlOf []) extD).Ok InvD := cx_of [] (by kernel_rfl) (by
  intro p hp
  simp only [List.mem_cons, List.not_mem_nil, or_false] at hp
  subst hp
  exact e79_ok)
theorem e67_ok : SpecHolds Try.prog InvD 71 fun a => (e67.2 a).run := by
  refine specD cx67 Try.func71 (c := codeOf Try.prog 71) (by kernel_rfl) (fun _ => .unroll 0) (fun _ _ => trivial) fun args r h => ?_
  simp only [e67] at h
  split at h
  · rename_i a b c
    exact ⟨by kernel_rfl, tr_ok (by rfl) h, by rw [tree67]; exact h⟩
  · simp [Tr.run] at h
theorem e68_ok : SpecHolds Try.prog InvD 72 fun a => (e68.2 a).run := by
  refine specD cx79 Try.func72 (c := codeOf Try.prog 72) (by kernel_rfl) (fun _ => .unroll 0) (fun _ _ => trivial) fun args r h => ?_
  simp only [e68] at h
  split at h
  · rename_i a b c
    rcases node_run h with ⟨hc, h⟩ | ⟨_, h⟩
    · simp only [Tr.run, Option.some.injEq] at h
      subst h
      simp only [Bool.and_eq_true, inU_iff, decide_eq_true_eq] at hc
      obtain ⟨⟨⟨⟨a0, a1⟩, b0, b1⟩, c0, c1⟩, hac⟩ := hc
      refine ⟨by kernel_rfl, rfl, ?_⟩
      have h1 := Int.emod_nonneg a (show c ≠ 0 by omega)
      have h2 := Int.emod_lt_of_pos a hac
      obtain ⟨d1, d2⟩ := div_le_self' a0 hac
      rw [tree68, Int.tmod_eq_emod_of_nonneg a0, Int.tdiv_eq_ediv_of_nonneg a0, wrapU d1 (by omega)]
      have k1 : (!decide (c = 0)) = true := by simp; omega
      have k2 : (inU (a % c) && inU b && inU c && decide (a % c < c)) = true := by simp only [Bool.and_eq_true, inU_iff, decide_eq_true_eq]; omega
      obtain ⟨w1, w2⟩ := wide_div (a := a) b0 b1 hac
      rw [k1, k2, w1, w2]
      rfl
    · simp [Tr.run] at h
  · simp [Tr.run] at h
theorem e65_ok : SpecHolds Try.prog InvD 68 fun a => (e65.2 a).run := by
  refine specD cx0 Try.func68 (c := codeOf Try.prog 68) (by kernel_rfl) (fun _ => .unroll 0) (fun _ _ => trivial) fun args r h => ?_
  simp only [e65] at h
  split at h
  · rename_i a b c d
    rcases node_run h with ⟨hc, h⟩ | ⟨_, h⟩
    · simp only [Tr.run, Option.some.injEq] at h
      subst h
      simp only [Bool.and_eq_true, inU_iff, decide_eq_true_eq] at hc
      obtain ⟨⟨⟨⟨⟨a0, a1⟩, b0, b1⟩, c0, c1⟩, d0, d1⟩, hac⟩ := hc
      refine ⟨by kernel_rfl, rfl, ?_⟩
      rw [tree65]
      have k1 : (decide (0 ≤ b) && decide (0 ≤ d) && true && true) = true := by simp; omega
      have k2 : (decide (0 ≤ a) && decide (0 ≤ c) && decide (0 ≤ (b + d + 0) / 18446744073709551616) && decide ((b + d + 0) / 18446744073709551616 ≤ 1)) = true := by simp only [Bool.and_eq_true, decide_eq_true_eq]; omega
      rw [k1, k2]
      have w1 : (wV a b + wV c d) / 18446744073709551616 = (a + c + (b + d + 0) / 18446744073709551616) % 18446744073709551616 := by unfold wV; omega
      have w2 : (wV a b + wV c d) % 18446744073709551616 = (b + d + 0) % 18446744073709551616 := by unfold wV; omega
      rw [w1, w2]
      rfl
    · simp [Tr.run] at h
  · simp [Tr.run] at h
theorem e66_ok : SpecHolds Try.prog InvD 70 fun a => (e66.2 a).run := by
  refine specD cx0 Try.func70 (c := codeOf Try.prog 70) (by kernel_rfl) (fun _ => .unroll 0) (fun _ _ => trivial) fun args r h => ?_
  simp only [e66] at h
  split at h
  · rename_i a b c d
    rcases node_run h with ⟨hc, h⟩ | ⟨_, h⟩
    · simp only [Tr.run, Option.some.injEq] at h
      subst h
      simp only [Bool.and_eq_true, inU_iff, decide_eq_true_eq] at hc
      obtain ⟨⟨⟨⟨⟨a0, a1⟩, b0, b1⟩, c0, c1⟩, d0, d1⟩, hac⟩ := hc
      refine ⟨by kernel_rfl, rfl, ?_⟩
      rw [tree66]
      unfold wV at hac ⊢
      have k1 : (decide (0 ≤ b) && decide (0 ≤ d) && decide (d < 18446744073709551616) && true && true) = true := by simp; omega
      rw [k1]
      have w2 : (a * 18446744073709551616 + b - (c * 18446744073709551616 + d)) % 18446744073709551616 = (b - d - 0) % 18446744073709551616 := by omega
      rw [w2]
      by_cases hb : b < d + 0
      · rw [decide_eq_true hb]
        have w1 : (a * 18446744073709551616 + b - (c * 18446744073709551616 + d)) / 18446744073709551616 = (a - c - 1) % 18446744073709551616 := by omega
        rw [w1]
        simp only [cond_true]
        have k2 : (decide (0 ≤ a) && decide (0 ≤ c) && decide (c < 18446744073709551616) && decide ((0 : Int) ≤ 1) && decide ((1 : Int) ≤ 1)) = true := by simp; omega
        rw [k2]
        rfl
      · rw [decide_eq_false hb]
        have w1 : (a * 18446744073709551616 + b - (c * 18446744073709551616 + d)) / 18446744073709551616 = (a - c - 0) % 18446744073709551616 := by omega
        rw [w1]
        simp only [cond_true, cond_false]
        have k2 : (decide (0 ≤ a) && decide (0 ≤ c) && decide (c < 18446744073709551616) && decide ((0 : Int) ≤ 0) && decide ((0 : Int) ≤ 1)) = true := by simp; omega
        rw [k2]
        rfl
    · simp [Tr.run] at h
  · simp [Tr.run] at h
end Go.Proofs.Ytebiafgcnmnacaa

/- The text of sum, in pieces. No condition. -/
namespace Go.Proofs.Ytebiafgcnmnacaa
open Go.Evl Go.RowKit
def keep46 : List Nat := [2, 3, 4, 5, 8, 9]
def lp46 (i : Nat) : LT := bif Nat.beq i 1000012 then .forget keep46 else .unroll 0
/-- what lies in memory before sum's test for zero -/
def heap46 (a b c d p1 p0 q1 q0 n1 n0 : Int) : List Ob :=
  [.cells [.int .i64 a, .int .i64 b] 23, .cells [.int .i64 c, .int .i64 d] 23, .cells [.int .i64 0, .int .i64 0] 23, .free, .free, .free, .free, .free, .free, .free, .free, .free, .cells [.int .u64 p1, .int .u64 p0] 73,
   .free, .free, .free, .free, .free, .free, .free, .free, .free, .cells [.int .u64 q1, .int .u64 q0] 73, .cells [.int .u64 n1, .int .u64 n0] 73]
end Go.Proofs.Ytebiafgcnmnacaa

/- Sums and products of reduced fractions: the plain law. No model. Conditions: in each statement. -/
namespace Go.Proofs.Ytebiafgcnmnacaa
open Go.Evl Go.RowKit

theorem gcdI_int {x y : Int} (hx : 0 ≤ x) (hy : 0 ≤ y) : gcdI x y = (Int.gcd x y : Int) := by
  obtain ⟨X, rfl⟩ := Int.eq_ofNat_of_zero_le hx
  obtain ⟨Y, rfl⟩ := Int.eq_ofNat_of_zero_le hy
  rw [gcdI_eq]; rfl
theorem absI_nonneg (x : Int) : 0 ≤ absI x := by rw [absI_eq]; omega
theorem gcd_absI (x y : Int) : Int.gcd (absI x) y = Int.gcd x y := by rw [absI_eq]; simp [Int.gcd]
theorem gcdI_abs {x y : Int} (hy : 0 ≤ y) : gcdI (absI x) y = (Int.gcd x y : Int) := by rw [gcdI_int (absI_nonneg x) hy, gcd_absI]
theorem absI_mul (x y : Int) (hy : 0 ≤ y) : absI (x * y) = absI x * y := by
  rw [absI_eq, absI_eq, Int.natAbs_mul, Int.natCast_mul, show ((y.natAbs : Nat) : Int) = y by omega]
/-- numerators of a sum have no divisor with what is apart in the denominators -/
theorem cop_sum {a c b' d' G : Int} (hab : Int.gcd a (b' * G) = 1) (hcd : Int.gcd c (d' * G) = 1) (hbd : Int.gcd b' d' = 1) : Int.gcd (a * d' + c * b') (b' * d' * G) = Int.gcd (a * d' + c * b') G := by
  have h1 : Nat.Coprime a.natAbs b'.natAbs := by
    have : Nat.Coprime a.natAbs (b' * G).natAbs := hab
    rw [Int.natAbs_mul] at this
    exact Nat.Coprime.coprime_mul_right_right this
  have h2 : Nat.Coprime c.natAbs d'.natAbs := by
    have : Nat.Coprime c.natAbs (d' * G).natAbs := hcd
    rw [Int.natAbs_mul] at this
    exact Nat.Coprime.coprime_mul_right_right this
  have h3 : Nat.Coprime b'.natAbs d'.natAbs := hbd
  have k1 : Nat.Coprime b'.natAbs (a * d' + c * b').natAbs := by
    have e : Int.gcd (a * d' + c * b') b' = Int.gcd (a * d') b' := Int.gcd_add_mul_right_left b' (a * d') c
    have e2 : Nat.Coprime (a * d').natAbs b'.natAbs := by
      rw [Int.natAbs_mul]
      exact Nat.Coprime.mul_left h1 h3.symm
    have : Nat.gcd (a * d' + c * b').natAbs b'.natAbs = 1 := e.trans e2
    exact (Nat.coprime_iff_gcd_eq_one.2 this).symm
  have k2 : Nat.Coprime d'.natAbs (a * d' + c * b').natAbs := by
    have e : Int.gcd (c * b' + a * d') d' = Int.gcd (c * b') d' := Int.gcd_add_mul_right_left d' (c * b') a
    have e2 : Nat.Coprime (c * b').natAbs d'.natAbs := by
      rw [Int.natAbs_mul]
      exact Nat.Coprime.mul_left h2 h3
    have : Nat.gcd (a * d' + c * b').natAbs d'.natAbs = 1 := by rw [Int.add_comm]; exact e.trans e2
    exact (Nat.coprime_iff_gcd_eq_one.2 this).symm
  show Nat.gcd _ _ = Nat.gcd _ _
  rw [Int.natAbs_mul, Int.natAbs_mul, Nat.mul_assoc, Nat.Coprime.gcd_mul_left_cancel_right _ k1, Nat.Coprime.gcd_mul_left_cancel_right _ k2]

/-- what the sum of two reduced fractions is, reduced -/
theorem sum_law {a b c d : Int} (hb : 1 ≤ b) (hd : 1 ≤ d) (hab : Nat.gcd a.natAbs b.natAbs = 1) (hcd : Nat.gcd c.natAbs d.natAbs = 1) (t : Int) (ht : t = a * (d / gcdI b d) + c * (b / gcdI b d)) :
    0 < gcdI b d ∧ b / gcdI b d * gcdI b d = b ∧ d / gcdI b d * gcdI b d = d ∧ 0 < gcdI (absI t) (gcdI b d) ∧ d / gcdI (absI t) (gcdI b d) * gcdI (absI t) (gcdI b d) = d ∧ a * d + c * b = t * gcdI b d ∧
    mkA (a * d + c * b) (b * d) = absI t / gcdI (absI t) (gcdI b d) ∧ mkD (a * d + c * b) (b * d) = b / gcdI b d * (d / gcdI (absI t) (gcdI b d)) := by
  have hG0 : 0 < Int.gcd b d := Int.gcd_pos_of_ne_zero_left _ (by omega)
  have eG : gcdI b d = (Int.gcd b d : Int) := gcdI_int (by omega) (by omega)
  have hbG : b / (Int.gcd b d : Int) * (Int.gcd b d : Int) = b := Int.ediv_mul_cancel (Int.gcd_dvd_left ..)
  have hdG : d / (Int.gcd b d : Int) * (Int.gcd b d : Int) = d := Int.ediv_mul_cancel (Int.gcd_dvd_right ..)
  have hcop : Int.gcd (b / (Int.gcd b d : Int)) (d / (Int.gcd b d : Int)) = 1 := by
    have := Nat.coprime_div_gcd_div_gcd (m := b.natAbs) (n := d.natAbs) hG0
    have e1 : (b / (Int.gcd b d : Int)).natAbs = b.natAbs / Int.gcd b d := by
      obtain ⟨B, rfl⟩ := Int.eq_ofNat_of_zero_le (show 0 ≤ b by omega)
      rfl
    have e2 : (d / (Int.gcd b d : Int)).natAbs = d.natAbs / Int.gcd b d := by
      obtain ⟨D, rfl⟩ := Int.eq_ofNat_of_zero_le (show 0 ≤ d by omega)
      rfl
    show Nat.gcd _ _ = 1
    rw [e1, e2]; exact this
  rw [eG] at ht ⊢
  generalize Int.gcd b d = G at *
  generalize hb' : b / (G : Int) = b' at *
  generalize hd' : d / (G : Int) = d' at *
  have hGp : (0 : Int) < G := by omega
  have eR : gcdI (absI t) (G : Int) = (Int.gcd t G : Int) := gcdI_abs (by omega)
  have hR0 : 0 < Int.gcd t G := Int.gcd_pos_of_ne_zero_right _ (by omega)
  have hRd : (Int.gcd t G : Int) ∣ d := by rw [← hdG]; exact Int.dvd_trans (Int.gcd_dvd_right ..) (Int.dvd_mul_left ..)
  have hn : a * d + c * b = t * G := by
    rw [ht, Int.add_mul, Int.mul_assoc, Int.mul_assoc, hdG, hbG]
  have hm : b * d = b' * d' * G * G := by
    conv => lhs; rw [← hbG, ← hdG]
    rw [Int.mul_assoc b', ← Int.mul_assoc (G : Int) d', Int.mul_comm (G : Int) d']
    simp only [Int.mul_assoc]
  have hcs : Int.gcd t (b' * d' * G) = Int.gcd t G := by
    rw [ht]
    exact cop_sum (by rw [hbG]; exact hab) (by rw [hdG]; exact hcd) hcop
  have hb'0 : 0 ≤ b' := by
    rcases Int.lt_or_le b' 0 with h | h
    · have := Int.mul_neg_of_neg_of_pos h hGp; omega
    · exact h
  have hd'0 : 0 ≤ d' := by
    rcases Int.lt_or_le d' 0 with h | h
    · have := Int.mul_neg_of_neg_of_pos h hGp; omega
    · exact h
  have hm0 : 0 ≤ b' * d' * G * G := by rw [← hm]; exact Int.mul_nonneg (by omega) (by omega)
  have hg : mkG (a * d + c * b) (b * d) = (Int.gcd t G : Int) * G := by
    unfold mkG
    rw [hn, hm, gcdI_abs (absI_nonneg _), show absI (b' * d' * G * G) = b' * d' * G * G by rw [absI_eq]; omega, Int.gcd_mul_right, hcs, Int.natCast_mul]
    rfl
  have hRp : (0 : Int) < (Int.gcd t G : Int) := by omega
  rw [eR]
  refine ⟨hGp, hbG, hdG, hRp, Int.ediv_mul_cancel hRd, hn, ?_, ?_⟩
  · unfold mkA
    rw [hg, hn, absI_mul _ _ (by omega), Int.mul_ediv_mul_of_pos_left _ _ hGp]
  · unfold mkD
    rw [hg, hm, show absI (b' * d' * G * G) = b' * d' * G * G by rw [absI_eq]; omega, Int.mul_ediv_mul_of_pos_left _ _ hGp, Int.mul_assoc b' d', hdG, Int.mul_ediv_assoc _ hRd]

theorem mul_law {a b c d : Int} (hb : 1 ≤ b) (hd : 1 ≤ d) (hab : Nat.gcd a.natAbs b.natAbs = 1) (hcd : Nat.gcd c.natAbs d.natAbs = 1) :
    0 < gcdI (absI a) d ∧ 0 < gcdI (absI c) b ∧ absI a / gcdI (absI a) d * gcdI (absI a) d = absI a ∧ d / gcdI (absI a) d * gcdI (absI a) d = d ∧ absI c / gcdI (absI c) b * gcdI (absI c) b = absI c ∧ b / gcdI (absI c) b * gcdI (absI c) b = b ∧
    mkA (a * c) (b * d) = absI a / gcdI (absI a) d * (absI c / gcdI (absI c) b) ∧ mkD (a * c) (b * d) = b / gcdI (absI c) b * (d / gcdI (absI a) d) := by
  obtain ⟨A, hA⟩ : ∃ A : Nat, absI a = A := ⟨a.natAbs, absI_eq a⟩
  obtain ⟨C, hC⟩ : ∃ C : Nat, absI c = C := ⟨c.natAbs, absI_eq c⟩
  obtain ⟨B, rfl⟩ := Int.eq_ofNat_of_zero_le (show 0 ≤ b by omega)
  obtain ⟨D, rfl⟩ := Int.eq_ofNat_of_zero_le (show 0 ≤ d by omega)
  have hAB : Nat.Coprime A B := by
    have e : a.natAbs = A := by have := absI_eq a; omega
    rw [← e]; exact hab
  have hCD : Nat.Coprime C D := by
    have e : c.natAbs = C := by have := absI_eq c; omega
    rw [← e]; exact hcd
  have hac : absI (a * c) = ((A * C : Nat) : Int) := by
    rw [absI_eq, Int.natAbs_mul]
    have e : a.natAbs = A := by have := absI_eq a; omega
    have e2 : c.natAbs = C := by have := absI_eq c; omega
    rw [e, e2]
  have hbd : absI ((B : Int) * D) = ((B * D : Nat) : Int) := by rw [← Int.natCast_mul, absI_eq]; omega
  have hp : 0 < Nat.gcd A D := Nat.gcd_pos_of_pos_right _ (by omega)
  have hq : 0 < Nat.gcd C B := Nat.gcd_pos_of_pos_right _ (by omega)
  unfold mkA mkD mkG
  rw [hac, hbd, hA, hC, gcdI_eq, gcdI_eq, gcdI_eq]
  simp only [← Int.natCast_ediv, ← Int.natCast_mul]
  have hA1 : A / Nat.gcd A D * Nat.gcd A D = A := Nat.div_mul_cancel (Nat.gcd_dvd_left ..)
  have hD1 : D / Nat.gcd A D * Nat.gcd A D = D := Nat.div_mul_cancel (Nat.gcd_dvd_right ..)
  have hC1 : C / Nat.gcd C B * Nat.gcd C B = C := Nat.div_mul_cancel (Nat.gcd_dvd_left ..)
  have hB1 : B / Nat.gcd C B * Nat.gcd C B = B := Nat.div_mul_cancel (Nat.gcd_dvd_right ..)
  have c1 : Nat.Coprime (A / Nat.gcd A D) (D / Nat.gcd A D) := Nat.coprime_div_gcd_div_gcd hp
  have c2 : Nat.Coprime (C / Nat.gcd C B) (B / Nat.gcd C B) := Nat.coprime_div_gcd_div_gcd hq
  have c3 : Nat.Coprime (A / Nat.gcd A D) (B / Nat.gcd C B) := (hAB.coprime_dvd_left ⟨_, hA1.symm⟩).coprime_dvd_right ⟨_, hB1.symm⟩
  have c4 : Nat.Coprime (C / Nat.gcd C B) (D / Nat.gcd A D) := (hCD.coprime_dvd_left ⟨_, hC1.symm⟩).coprime_dvd_right ⟨_, hD1.symm⟩
  generalize Nat.gcd A D = p at *
  generalize Nat.gcd C B = q at *
  generalize A / p = A' at *
  generalize D / p = D' at *
  generalize C / q = C' at *
  generalize B / q = B' at *
  have hg : Nat.gcd (A * C) (B * D) = p * q := by
    have e1 : A * C = A' * C' * (p * q) := by rw [← hA1, ← hC1]; simp only [Nat.mul_assoc, Nat.mul_left_comm]
    have e2 : B * D = B' * D' * (p * q) := by
      rw [← hB1, ← hD1, Nat.mul_comm p q]; simp only [Nat.mul_assoc, Nat.mul_left_comm]
    rw [e1, e2, Nat.gcd_mul_right]
    have : Nat.gcd (A' * C') (B' * D') = 1 := Nat.Coprime.mul_left (Nat.Coprime.mul_right c3 c1) (Nat.Coprime.mul_right c2 c4)
    rw [this, Nat.one_mul]
  have hpq : 0 < p * q := Nat.mul_pos hp hq
  refine ⟨by omega, by omega, by rw [hA1], by rw [hD1], by rw [hC1], by rw [hB1], ?_, ?_⟩
  · rw [hg, show A * C = A' * C' * (p * q) by rw [← hA1, ← hC1]; simp only [Nat.mul_assoc, Nat.mul_left_comm], Nat.mul_div_cancel _ hpq]
  · rw [hg, show B * D = B' * D' * (p * q) by rw [← hB1, ← hD1, Nat.mul_comm p q]; simp only [Nat.mul_assoc, Nat.mul_left_comm], Nat.mul_div_cancel _ hpq]
end Go.Proofs.Ytebiafgcnmnacaa

/- The ways of sum up to its test for zero. No condition. -/
namespace Go.Proofs.Ytebiafgcnmnacaa
open Go.Evl Go.RowKit
def h46_tt_0 (a b c d : Int) : List (Bool × Bool) := [(decide (0 ≤ IntKind.u64.wrap b) && decide (0 ≤ IntKind.u64.wrap d), true), (decide (-9223372036854775808 ≤ a) && decide (a < 9223372036854775808), true), (!decide (gcdI (IntKind.u64.wrap b) (IntKind.u64.wrap d) = 0), true), (inU (absI a) && inU (IntKind.u64.wrap ((IntKind.u64.wrap d).tdiv (gcdI (IntKind.u64.wrap b) (IntKind.u64.wrap d)))), true), (decide (-9223372036854775808 ≤ c) && decide (c < 9223372036854775808), true), (!decide (gcdI (IntKind.u64.wrap b) (IntKind.u64.wrap d) = 0), true), (inU (absI c) && inU (IntKind.u64.wrap ((IntKind.u64.wrap b).tdiv (gcdI (IntKind.u64.wrap b) (IntKind.u64.wrap d)))), true), (decide (a < 0), true), (decide (a < 0), true), (decide (c < 0), true), (inU
          (absI a * IntKind.u64.wrap ((IntKind.u64.wrap d).tdiv (gcdI (IntKind.u64.wrap b) (IntKind.u64.wrap d))) /
            18446744073709551616) &&
        inU
          (absI a * IntKind.u64.wrap ((IntKind.u64.wrap d).tdiv (gcdI (IntKind.u64.wrap b) (IntKind.u64.wrap d))) %
            18446744073709551616) &&
      inU
        (absI c * IntKind.u64.wrap ((IntKind.u64.wrap b).tdiv (gcdI (IntKind.u64.wrap b) (IntKind.u64.wrap d))) /
          18446744073709551616) &&
    inU
      (absI c * IntKind.u64.wrap ((IntKind.u64.wrap b).tdiv (gcdI (IntKind.u64.wrap b) (IntKind.u64.wrap d))) %
        18446744073709551616) &&
  decide
    (absI a * IntKind.u64.wrap ((IntKind.u64.wrap d).tdiv (gcdI (IntKind.u64.wrap b) (IntKind.u64.wrap d))) /
          18446744073709551616 +
        absI c * IntKind.u64.wrap ((IntKind.u64.wrap b).tdiv (gcdI (IntKind.u64.wrap b) (IntKind.u64.wrap d))) /
          18446744073709551616 <
      18446744073709551615), true)]
theorem h46_tt_0_ok (a b c d : Int) (h : allB (h46_tt_0 a b c d) = true) : (evPart Try.prog (spOf [e36, e37, e38, e53, e54, e65, e66, e67, e68]) (inlOf []) extD (cKD [e36, e37, e38, e53, e54, e65, e66, e67, e68] []) lp46 7 (codeOf Try.prog 59) keep46 ⟨frame0 Try.f59 [.agg [.int .i64 a, .int .i64 b], .agg [.int .i64 c, .int .i64 d]], []⟩).run = some ((Ex.normal,
  [AV.ptr 0 0, AV.ptr 1 0, AV.ptr 2 0, AV.int IntKind.u64 (gcdI (IntKind.u64.wrap b) (IntKind.u64.wrap d)),
    AV.bool true, AV.ptr 23 0],
  [Ob.cells [AV.int IntKind.i64 a, AV.int IntKind.i64 b] 23, Ob.cells [AV.int IntKind.i64 c, AV.int IntKind.i64 d] 23,
    Ob.cells [AV.int IntKind.i64 0, AV.int IntKind.i64 0] 23, Ob.free, Ob.free, Ob.free, Ob.free, Ob.free, Ob.free,
    Ob.free, Ob.free, Ob.free,
    Ob.cells
      [AV.int IntKind.u64
          (absI a * IntKind.u64.wrap ((IntKind.u64.wrap d).tdiv (gcdI (IntKind.u64.wrap b) (IntKind.u64.wrap d))) /
            18446744073709551616),
        AV.int IntKind.u64
          (absI a * IntKind.u64.wrap ((IntKind.u64.wrap d).tdiv (gcdI (IntKind.u64.wrap b) (IntKind.u64.wrap d))) %
            18446744073709551616)]
      73,
    Ob.free, Ob.free, Ob.free, Ob.free, Ob.free, Ob.free, Ob.free, Ob.free, Ob.free,
    Ob.cells
      [AV.int IntKind.u64
          (absI c * IntKind.u64.wrap ((IntKind.u64.wrap b).tdiv (gcdI (IntKind.u64.wrap b) (IntKind.u64.wrap d))) /
            18446744073709551616),
        AV.int IntKind.u64
          (absI c * IntKind.u64.wrap ((IntKind.u64.wrap b).tdiv (gcdI (IntKind.u64.wrap b) (IntKind.u64.wrap d))) %
            18446744073709551616)]
      73,
    Ob.cells
      [AV.int IntKind.u64
          ((wV
                (absI a *
                    IntKind.u64.wrap ((IntKind.u64.wrap d).tdiv (gcdI (IntKind.u64.wrap b) (IntKind.u64.wrap d))) /
                  18446744073709551616)
                (absI a *
                    IntKind.u64.wrap ((IntKind.u64.wrap d).tdiv (gcdI (IntKind.u64.wrap b) (IntKind.u64.wrap d))) %
                  18446744073709551616) +
              wV
                (absI c *
                    IntKind.u64.wrap ((IntKind.u64.wrap b).tdiv (gcdI (IntKind.u64.wrap b) (IntKind.u64.wrap d))) /
                  18446744073709551616)
                (absI c *
                    IntKind.u64.wrap ((IntKind.u64.wrap b).tdiv (gcdI (IntKind.u64.wrap b) (IntKind.u64.wrap d))) %
                  18446744073709551616)) /
            18446744073709551616),
        AV.int IntKind.u64
          ((wV
                (absI a *
                    IntKind.u64.wrap ((IntKind.u64.wrap d).tdiv (gcdI (IntKind.u64.wrap b) (IntKind.u64.wrap d))) /
                  18446744073709551616)
                (absI a *
                    IntKind.u64.wrap ((IntKind.u64.wrap d).tdiv (gcdI (IntKind.u64.wrap b) (IntKind.u64.wrap d))) %
                  18446744073709551616) +
              wV
                (absI c *
                    IntKind.u64.wrap ((IntKind.u64.wrap b).tdiv (gcdI (IntKind.u64.wrap b) (IntKind.u64.wrap d))) /
                  18446744073709551616)
                (absI c *
                    IntKind.u64.wrap ((IntKind.u64.wrap b).tdiv (gcdI (IntKind.u64.wrap b) (IntKind.u64.wrap d))) %
                  18446744073709551616)) %
            18446744073709551616)]
      73]) : Ex × List AV × List Ob) := way (gs := [true, true, true, true, true, true, true, true, true, true, true, true]) (show Tr.path _ _ = nestB (h46_tt_0 a b c d) (some ((Ex.normal,
  [AV.ptr 0 0, AV.ptr 1 0, AV.ptr 2 0, AV.int IntKind.u64 (gcdI (IntKind.u64.wrap b) (IntKind.u64.wrap d)),
    AV.bool true, AV.ptr 23 0],
  [Ob.cells [AV.int IntKind.i64 a, AV.int IntKind.i64 b] 23, Ob.cells [AV.int IntKind.i64 c, AV.int IntKind.i64 d] 23,
    Ob.cells [AV.int IntKind.i64 0, AV.int IntKind.i64 0] 23, Ob.free, Ob.free, Ob.free, Ob.free, Ob.free, Ob.free,
    Ob.free, Ob.free, Ob.free,
    Ob.cells
      [AV.int IntKind.u64
          (absI a * IntKind.u64.wrap ((IntKind.u64.wrap d).tdiv (gcdI (IntKind.u64.wrap b) (IntKind.u64.wrap d))) /
            18446744073709551616),
        AV.int IntKind.u64
          (absI a * IntKind.u64.wrap ((IntKind.u64.wrap d).tdiv (gcdI (IntKind.u64.wrap b) (IntKind.u64.wrap d))) %
            18446744073709551616)]
      73,
    Ob.free, Ob.free, Ob.free, Ob.free, Ob.free, Ob.free, Ob.free, Ob.free, Ob.free,
    Ob.cells
      [AV.int IntKind.u64
          (absI c * IntKind.u64.wrap ((IntKind.u64.wrap b).tdiv (gcdI (IntKind.u64.wrap b) (IntKind.u64.wrap d))) /
            18446744073709551616),
        AV.int IntKind.u64
          (absI c * IntKind.u64.wrap ((IntKind.u64.wrap b).tdiv (gcdI (IntKind.u64.wrap b) (IntKind.u64.wrap d))) %
            18446744073709551616)]
      73,
    Ob.cells
      [AV.int IntKind.u64
          ((wV
                (absI a *
                    IntKind.u64.wrap ((IntKind.u64.wrap d).tdiv (gcdI (IntKind.u64.wrap b) (IntKind.u64.wrap d))) /
                  18446744073709551616)
                (absI a *
                    IntKind.u64.wrap ((IntKind.u64.wrap d).tdiv (gcdI (IntKind.u64.wrap b) (IntKind.u64.wrap d))) %
                  18446744073709551616) +
              wV
                (absI c *
                    IntKind.u64.wrap ((IntKind.u64.wrap b).tdiv (gcdI (IntKind.u64.wrap b) (IntKind.u64.wrap d))) /
                  18446744073709551616)
                (absI c *
                    IntKind.u64.wrap ((IntKind.u64.wrap b).tdiv (gcdI (IntKind.u64.wrap b) (IntKind.u64.wrap d))) %
                  18446744073709551616)) /
            18446744073709551616),
        AV.int IntKind.u64
          ((wV
                (absI a *
                    IntKind.u64.wrap ((IntKind.u64.wrap d).tdiv (gcdI (IntKind.u64.wrap b) (IntKind.u64.wrap d))) /
                  18446744073709551616)
                (absI a *
                    IntKind.u64.wrap ((IntKind.u64.wrap d).tdiv (gcdI (IntKind.u64.wrap b) (IntKind.u64.wrap d))) %
                  18446744073709551616) +
              wV
                (absI c *
                    IntKind.u64.wrap ((IntKind.u64.wrap b).tdiv (gcdI (IntKind.u64.wrap b) (IntKind.u64.wrap d))) /
                  18446744073709551616)
                (absI c *
                    IntKind.u64.wrap ((IntKind.u64.wrap b).tdiv (gcdI (IntKind.u64.wrap b) (IntKind.u64.wrap d))) %
                  18446744073709551616)) %
            18446744073709551616)]
      73]))) by kernel_rfl) h
def h46_tf_0 (a b c d : Int) : List (Bool × Bool) := [(decide (0 ≤ IntKind.u64.wrap b) && decide (0 ≤ IntKind.u64.wrap d), true), (decide (-9223372036854775808 ≤ a) && decide (a < 9223372036854775808), true), (!decide (gcdI (IntKind.u64.wrap b) (IntKind.u64.wrap d) = 0), true), (inU (absI a) && inU (IntKind.u64.wrap ((IntKind.u64.wrap d).tdiv (gcdI (IntKind.u64.wrap b) (IntKind.u64.wrap d)))), true), (decide (-9223372036854775808 ≤ c) && decide (c < 9223372036854775808), true), (!decide (gcdI (IntKind.u64.wrap b) (IntKind.u64.wrap d) = 0), true), (inU (absI c) && inU (IntKind.u64.wrap ((IntKind.u64.wrap b).tdiv (gcdI (IntKind.u64.wrap b) (IntKind.u64.wrap d)))), true), (decide (a < 0), true), (decide (a < 0), true), (decide (c < 0), false), (decide
  (absI a * IntKind.u64.wrap ((IntKind.u64.wrap d).tdiv (gcdI (IntKind.u64.wrap b) (IntKind.u64.wrap d))) /
      18446744073709551616 <
    absI c * IntKind.u64.wrap ((IntKind.u64.wrap b).tdiv (gcdI (IntKind.u64.wrap b) (IntKind.u64.wrap d))) /
      18446744073709551616), true), (inU
          (absI c * IntKind.u64.wrap ((IntKind.u64.wrap b).tdiv (gcdI (IntKind.u64.wrap b) (IntKind.u64.wrap d))) /
            18446744073709551616) &&
        inU
          (absI c * IntKind.u64.wrap ((IntKind.u64.wrap b).tdiv (gcdI (IntKind.u64.wrap b) (IntKind.u64.wrap d))) %
            18446744073709551616) &&
      inU
        (absI a * IntKind.u64.wrap ((IntKind.u64.wrap d).tdiv (gcdI (IntKind.u64.wrap b) (IntKind.u64.wrap d))) /
          18446744073709551616) &&
    inU
      (absI a * IntKind.u64.wrap ((IntKind.u64.wrap d).tdiv (gcdI (IntKind.u64.wrap b) (IntKind.u64.wrap d))) %
        18446744073709551616) &&
  decide
    (wV
        (absI a * IntKind.u64.wrap ((IntKind.u64.wrap d).tdiv (gcdI (IntKind.u64.wrap b) (IntKind.u64.wrap d))) /
          18446744073709551616)
        (absI a * IntKind.u64.wrap ((IntKind.u64.wrap d).tdiv (gcdI (IntKind.u64.wrap b) (IntKind.u64.wrap d))) %
          18446744073709551616) ≤
      wV
        (absI c * IntKind.u64.wrap ((IntKind.u64.wrap b).tdiv (gcdI (IntKind.u64.wrap b) (IntKind.u64.wrap d))) /
          18446744073709551616)
        (absI c * IntKind.u64.wrap ((IntKind.u64.wrap b).tdiv (gcdI (IntKind.u64.wrap b) (IntKind.u64.wrap d))) %
          18446744073709551616)), true), (decide (c < 0), false)]
theorem h46_tf_0_ok (a b c d : Int) (h : allB (h46_tf_0 a b c d) = true) : (evPart Try.prog (spOf [e36, e37, e38, e53, e54, e65, e66, e67, e68]) (inlOf []) extD (cKD [e36, e37, e38, e53, e54, e65, e66, e67, e68] []) lp46 7 (codeOf Try.prog 59) keep46 ⟨frame0 Try.f59 [.agg [.int .i64 a, .int .i64 b], .agg [.int .i64 c, .int .i64 d]], []⟩).run = some ((Ex.normal,
  [AV.ptr 0 0, AV.ptr 1 0, AV.ptr 2 0, AV.int IntKind.u64 (gcdI (IntKind.u64.wrap b) (IntKind.u64.wrap d)),
    AV.bool false, AV.ptr 23 0],
  [Ob.cells [AV.int IntKind.i64 a, AV.int IntKind.i64 b] 23, Ob.cells [AV.int IntKind.i64 c, AV.int IntKind.i64 d] 23,
    Ob.cells [AV.int IntKind.i64 0, AV.int IntKind.i64 0] 23, Ob.free, Ob.free, Ob.free, Ob.free, Ob.free, Ob.free,
    Ob.free, Ob.free, Ob.free,
    Ob.cells
      [AV.int IntKind.u64
          (absI a * IntKind.u64.wrap ((IntKind.u64.wrap d).tdiv (gcdI (IntKind.u64.wrap b) (IntKind.u64.wrap d))) /
            18446744073709551616),
        AV.int IntKind.u64
          (absI a * IntKind.u64.wrap ((IntKind.u64.wrap d).tdiv (gcdI (IntKind.u64.wrap b) (IntKind.u64.wrap d))) %
            18446744073709551616)]
      73,
    Ob.free, Ob.free, Ob.free, Ob.free, Ob.free, Ob.free, Ob.free, Ob.free, Ob.free,
    Ob.cells
      [AV.int IntKind.u64
          (absI c * IntKind.u64.wrap ((IntKind.u64.wrap b).tdiv (gcdI (IntKind.u64.wrap b) (IntKind.u64.wrap d))) /
            18446744073709551616),
        AV.int IntKind.u64
          (absI c * IntKind.u64.wrap ((IntKind.u64.wrap b).tdiv (gcdI (IntKind.u64.wrap b) (IntKind.u64.wrap d))) %
            18446744073709551616)]
      73,
    Ob.cells
      [AV.int IntKind.u64
          ((wV
                (absI c *
                    IntKind.u64.wrap ((IntKind.u64.wrap b).tdiv (gcdI (IntKind.u64.wrap b) (IntKind.u64.wrap d))) /
                  18446744073709551616)
                (absI c *
                    IntKind.u64.wrap ((IntKind.u64.wrap b).tdiv (gcdI (IntKind.u64.wrap b) (IntKind.u64.wrap d))) %
                  18446744073709551616) -
              wV
                (absI a *
                    IntKind.u64.wrap ((IntKind.u64.wrap d).tdiv (gcdI (IntKind.u64.wrap b) (IntKind.u64.wrap d))) /
                  18446744073709551616)
                (absI a *
                    IntKind.u64.wrap ((IntKind.u64.wrap d).tdiv (gcdI (IntKind.u64.wrap b) (IntKind.u64.wrap d))) %
                  18446744073709551616)) /
            18446744073709551616),
        AV.int IntKind.u64
          ((wV
                (absI c *
                    IntKind.u64.wrap ((IntKind.u64.wrap b).tdiv (gcdI (IntKind.u64.wrap b) (IntKind.u64.wrap d))) /
                  18446744073709551616)
                (absI c *
                    IntKind.u64.wrap ((IntKind.u64.wrap b).tdiv (gcdI (IntKind.u64.wrap b) (IntKind.u64.wrap d))) %
                  18446744073709551616) -
              wV
                (absI a *
                    IntKind.u64.wrap ((IntKind.u64.wrap d).tdiv (gcdI (IntKind.u64.wrap b) (IntKind.u64.wrap d))) /
                  18446744073709551616)
                (absI a *
                    IntKind.u64.wrap ((IntKind.u64.wrap d).tdiv (gcdI (IntKind.u64.wrap b) (IntKind.u64.wrap d))) %
                  18446744073709551616)) %
            18446744073709551616)]
      73]) : Ex × List AV × List Ob) := way (gs := [true, true, true, true, true, true, true, true, false, false, false, true, true, true, true, false, false]) (show Tr.path _ _ = nestB (h46_tf_0 a b c d) (some ((Ex.normal,
  [AV.ptr 0 0, AV.ptr 1 0, AV.ptr 2 0, AV.int IntKind.u64 (gcdI (IntKind.u64.wrap b) (IntKind.u64.wrap d)),
    AV.bool false, AV.ptr 23 0],
  [Ob.cells [AV.int IntKind.i64 a, AV.int IntKind.i64 b] 23, Ob.cells [AV.int IntKind.i64 c, AV.int IntKind.i64 d] 23,
    Ob.cells [AV.int IntKind.i64 0, AV.int IntKind.i64 0] 23, Ob.free, Ob.free, Ob.free, Ob.free, Ob.free, Ob.free,
    Ob.free, Ob.free, Ob.free,
    Ob.cells
      [AV.int IntKind.u64
          (absI a * IntKind.u64.wrap ((IntKind.u64.wrap d).tdiv (gcdI (IntKind.u64.wrap b) (IntKind.u64.wrap d))) /
            18446744073709551616),
        AV.int IntKind.u64
          (absI a * IntKind.u64.wrap ((IntKind.u64.wrap d).tdiv (gcdI (IntKind.u64.wrap b) (IntKind.u64.wrap d))) %
            18446744073709551616)]
      73,
    Ob.free, Ob.free, Ob.free, Ob.free, Ob.free, Ob.free, Ob.free, Ob.free, Ob.free,
    Ob.cells
      [AV.int IntKind.u64
          (absI c * IntKind.u64.wrap ((IntKind.u64.wrap b).tdiv (gcdI (IntKind.u64.wrap b) (IntKind.u64.wrap d))) /
            18446744073709551616),
        AV.int IntKind.u64
          (absI c * IntKind.u64.wrap ((IntKind.u64.wrap b).tdiv (gcdI (IntKind.u64.wrap b) (IntKind.u64.wrap d))) %
            18446744073709551616)]
      73,
    Ob.cells
      [AV.int IntKind.u64
          ((wV
                (absI c *
                    IntKind.u64.wrap ((IntKind.u64.wrap b).tdiv (gcdI (IntKind.u64.wrap b) (IntKind.u64.wrap d))) /
                  18446744073709551616)
                (absI c *
                    IntKind.u64.wrap ((IntKind.u64.wrap b).tdiv (gcdI (IntKind.u64.wrap b) (IntKind.u64.wrap d))) %
                  18446744073709551616) -
              wV
                (absI a *
                    IntKind.u64.wrap ((IntKind.u64.wrap d).tdiv (gcdI (IntKind.u64.wrap b) (IntKind.u64.wrap d))) /
                  18446744073709551616)
                (absI a *
                    IntKind.u64.wrap ((IntKind.u64.wrap d).tdiv (gcdI (IntKind.u64.wrap b) (IntKind.u64.wrap d))) %
                  18446744073709551616)) /
            18446744073709551616),
        AV.int IntKind.u64
          ((wV
                (absI c *
                    IntKind.u64.wrap ((IntKind.u64.wrap b).tdiv (gcdI (IntKind.u64.wrap b) (IntKind.u64.wrap d))) /
                  18446744073709551616)
                (absI c *
                    IntKind.u64.wrap ((IntKind.u64.wrap b).tdiv (gcdI (IntKind.u64.wrap b) (IntKind.u64.wrap d))) %
                  18446744073709551616) -
              wV
                (absI a *
                    IntKind.u64.wrap ((IntKind.u64.wrap d).tdiv (gcdI (IntKind.u64.wrap b) (IntKind.u64.wrap d))) /
                  18446744073709551616)
                (absI a *
                    IntKind.u64.wrap ((IntKind.u64.wrap d).tdiv (gcdI (IntKind.u64.wrap b) (IntKind.u64.wrap d))) %
                  18446744073709551616)) %
            18446744073709551616)]
      73]))) by kernel_rfl) h
def h46_tf_1 (a b c d : Int) : List (Bool × Bool) := [(decide (0 ≤ IntKind.u64.wrap b) && decide (0 ≤ IntKind.u64.wrap d), true), (decide (-9223372036854775808 ≤ a) && decide (a < 9223372036854775808), true), (!decide (gcdI (IntKind.u64.wrap b) (IntKind.u64.wrap d) = 0), true), (inU (absI a) && inU (IntKind.u64.wrap ((IntKind.u64.wrap d).tdiv (gcdI (IntKind.u64.wrap b) (IntKind.u64.wrap d)))), true), (decide (-9223372036854775808 ≤ c) && decide (c < 9223372036854775808), true), (!decide (gcdI (IntKind.u64.wrap b) (IntKind.u64.wrap d) = 0), true), (inU (absI c) && inU (IntKind.u64.wrap ((IntKind.u64.wrap b).tdiv (gcdI (IntKind.u64.wrap b) (IntKind.u64.wrap d)))), true), (decide (a < 0), true), (decide (a < 0), true), (decide (c < 0), false), (decide
  (absI a * IntKind.u64.wrap ((IntKind.u64.wrap d).tdiv (gcdI (IntKind.u64.wrap b) (IntKind.u64.wrap d))) /
      18446744073709551616 <
    absI c * IntKind.u64.wrap ((IntKind.u64.wrap b).tdiv (gcdI (IntKind.u64.wrap b) (IntKind.u64.wrap d))) /
      18446744073709551616), false), (absI a * IntKind.u64.wrap ((IntKind.u64.wrap d).tdiv (gcdI (IntKind.u64.wrap b) (IntKind.u64.wrap d))) /
    18446744073709551616 ==
  absI c * IntKind.u64.wrap ((IntKind.u64.wrap b).tdiv (gcdI (IntKind.u64.wrap b) (IntKind.u64.wrap d))) /
    18446744073709551616, true), (decide
  (absI a * IntKind.u64.wrap ((IntKind.u64.wrap d).tdiv (gcdI (IntKind.u64.wrap b) (IntKind.u64.wrap d))) %
      18446744073709551616 <
    absI c * IntKind.u64.wrap ((IntKind.u64.wrap b).tdiv (gcdI (IntKind.u64.wrap b) (IntKind.u64.wrap d))) %
      18446744073709551616), true), (inU
          (absI c * IntKind.u64.wrap ((IntKind.u64.wrap b).tdiv (gcdI (IntKind.u64.wrap b) (IntKind.u64.wrap d))) /
            18446744073709551616) &&
        inU
          (absI c * IntKind.u64.wrap ((IntKind.u64.wrap b).tdiv (gcdI (IntKind.u64.wrap b) (IntKind.u64.wrap d))) %
            18446744073709551616) &&
      inU
        (absI a * IntKind.u64.wrap ((IntKind.u64.wrap d).tdiv (gcdI (IntKind.u64.wrap b) (IntKind.u64.wrap d))) /
          18446744073709551616) &&
    inU
      (absI a * IntKind.u64.wrap ((IntKind.u64.wrap d).tdiv (gcdI (IntKind.u64.wrap b) (IntKind.u64.wrap d))) %
        18446744073709551616) &&
  decide
    (wV
        (absI a * IntKind.u64.wrap ((IntKind.u64.wrap d).tdiv (gcdI (IntKind.u64.wrap b) (IntKind.u64.wrap d))) /
          18446744073709551616)
        (absI a * IntKind.u64.wrap ((IntKind.u64.wrap d).tdiv (gcdI (IntKind.u64.wrap b) (IntKind.u64.wrap d))) %
          18446744073709551616) ≤
      wV
        (absI c * IntKind.u64.wrap ((IntKind.u64.wrap b).tdiv (gcdI (IntKind.u64.wrap b) (IntKind.u64.wrap d))) /
          18446744073709551616)
        (absI c * IntKind.u64.wrap ((IntKind.u64.wrap b).tdiv (gcdI (IntKind.u64.wrap b) (IntKind.u64.wrap d))) %
          18446744073709551616)), true), (decide (c < 0), false)]
theorem h46_tf_1_ok (a b c d : Int) (h : allB (h46_tf_1 a b c d) = true) : (evPart Try.prog (spOf [e36, e37, e38, e53, e54, e65, e66, e67, e68]) (inlOf []) extD (cKD [e36, e37, e38, e53, e54, e65, e66, e67, e68] []) lp46 7 (codeOf Try.prog 59) keep46 ⟨frame0 Try.f59 [.agg [.int .i64 a, .int .i64 b], .agg [.int .i64 c, .int .i64 d]], []⟩).run = some ((Ex.normal,
  [AV.ptr 0 0, AV.ptr 1 0, AV.ptr 2 0, AV.int IntKind.u64 (gcdI (IntKind.u64.wrap b) (IntKind.u64.wrap d)),
    AV.bool false, AV.ptr 23 0],
  [Ob.cells [AV.int IntKind.i64 a, AV.int IntKind.i64 b] 23, Ob.cells [AV.int IntKind.i64 c, AV.int IntKind.i64 d] 23,
    Ob.cells [AV.int IntKind.i64 0, AV.int IntKind.i64 0] 23, Ob.free, Ob.free, Ob.free, Ob.free, Ob.free, Ob.free,
    Ob.free, Ob.free, Ob.free,
    Ob.cells
      [AV.int IntKind.u64
          (absI a * IntKind.u64.wrap ((IntKind.u64.wrap d).tdiv (gcdI (IntKind.u64.wrap b) (IntKind.u64.wrap d))) /
            18446744073709551616),
        AV.int IntKind.u64
          (absI a * IntKind.u64.wrap ((IntKind.u64.wrap d).tdiv (gcdI (IntKind.u64.wrap b) (IntKind.u64.wrap d))) %
            18446744073709551616)]
      73,
    Ob.free, Ob.free, Ob.free, Ob.free, Ob.free, Ob.free, Ob.free, Ob.free, Ob.free,
    Ob.cells
      [AV.int IntKind.u64
          (absI c * IntKind.u64.wrap ((IntKind.u64.wrap b).tdiv (gcdI (IntKind.u64.wrap b) (IntKind.u64.wrap d))) /
            18446744073709551616),
        AV.int IntKind.u64
          (absI c * IntKind.u64.wrap ((IntKind.u64.wrap b).tdiv (gcdI (IntKind.u64.wrap b) (IntKind.u64.wrap d))) %
            18446744073709551616)]
      73,
    Ob.cells
      [AV.int IntKind.u64
          ((wV
                (absI c *
                    IntKind.u64.wrap ((IntKind.u64.wrap b).tdiv (gcdI (IntKind.u64.wrap b) (IntKind.u64.wrap d))) /
                  18446744073709551616)
                (absI c *
                    IntKind.u64.wrap ((IntKind.u64.wrap b).tdiv (gcdI (IntKind.u64.wrap b) (IntKind.u64.wrap d))) %
                  18446744073709551616) -
              wV
                (absI a *
                    IntKind.u64.wrap ((IntKind.u64.wrap d).tdiv (gcdI (IntKind.u64.wrap b) (IntKind.u64.wrap d))) /
                  18446744073709551616)
                (absI a *
                    IntKind.u64.wrap ((IntKind.u64.wrap d).tdiv (gcdI (IntKind.u64.wrap b) (IntKind.u64.wrap d))) %
                  18446744073709551616)) /
            18446744073709551616),
        AV.int IntKind.u64
          ((wV
                (absI c *
                    IntKind.u64.wrap ((IntKind.u64.wrap b).tdiv (gcdI (IntKind.u64.wrap b) (IntKind.u64.wrap d))) /
                  18446744073709551616)
                (absI c *
                    IntKind.u64.wrap ((IntKind.u64.wrap b).tdiv (gcdI (IntKind.u64.wrap b) (IntKind.u64.wrap d))) %
                  18446744073709551616) -
              wV
                (absI a *
                    IntKind.u64.wrap ((IntKind.u64.wrap d).tdiv (gcdI (IntKind.u64.wrap b) (IntKind.u64.wrap d))) /
                  18446744073709551616)
                (absI a *
                    IntKind.u64.wrap ((IntKind.u64.wrap d).tdiv (gcdI (IntKind.u64.wrap b) (IntKind.u64.wrap d))) %
                  18446744073709551616)) %
            18446744073709551616)]
      73]) : Ex × List AV × List Ob) := way (gs := [true, true, true, true, true, true, true, true, false, false, false, false, true, true, true, true, true, false, false]) (show Tr.path _ _ = nestB (h46_tf_1 a b c d) (some ((Ex.normal,
  [AV.ptr 0 0, AV.ptr 1 0, AV.ptr 2 0, AV.int IntKind.u64 (gcdI (IntKind.u64.wrap b) (IntKind.u64.wrap d)),
    AV.bool false, AV.ptr 23 0],
  [Ob.cells [AV.int IntKind.i64 a, AV.int IntKind.i64 b] 23, Ob.cells [AV.int IntKind.i64 c, AV.int IntKind.i64 d] 23,
    Ob.cells [AV.int IntKind.i64 0, AV.int IntKind.i64 0] 23, Ob.free, Ob.free, Ob.free, Ob.free, Ob.free, Ob.free,
    Ob.free, Ob.free, Ob.free,
    Ob.cells
      [AV.int IntKind.u64
          (absI a * IntKind.u64.wrap ((IntKind.u64.wrap d).tdiv (gcdI (IntKind.u64.wrap b) (IntKind.u64.wrap d))) /
            18446744073709551616),
        AV.int IntKind.u64
          (absI a * IntKind.u64.wrap ((IntKind.u64.wrap d).tdiv (gcdI (IntKind.u64.wrap b) (IntKind.u64.wrap d))) %
            18446744073709551616)]
      73,
    Ob.free, Ob.free, Ob.free, Ob.free, Ob.free, Ob.free, Ob.free, Ob.free, Ob.free,
    Ob.cells
      [AV.int IntKind.u64
          (absI c * IntKind.u64.wrap ((IntKind.u64.wrap b).tdiv (gcdI (IntKind.u64.wrap b) (IntKind.u64.wrap d))) /
            18446744073709551616),
        AV.int IntKind.u64
          (absI c * IntKind.u64.wrap ((IntKind.u64.wrap b).tdiv (gcdI (IntKind.u64.wrap b) (IntKind.u64.wrap d))) %
            18446744073709551616)]
      73,
    Ob.cells
      [AV.int IntKind.u64
          ((wV
                (absI c *
                    IntKind.u64.wrap ((IntKind.u64.wrap b).tdiv (gcdI (IntKind.u64.wrap b) (IntKind.u64.wrap d))) /
                  18446744073709551616)
                (absI c *
                    IntKind.u64.wrap ((IntKind.u64.wrap b).tdiv (gcdI (IntKind.u64.wrap b) (IntKind.u64.wrap d))) %
                  18446744073709551616) -
              wV
                (absI a *
                    IntKind.u64.wrap ((IntKind.u64.wrap d).tdiv (gcdI (IntKind.u64.wrap b) (IntKind.u64.wrap d))) /
                  18446744073709551616)
                (absI a *
                    IntKind.u64.wrap ((IntKind.u64.wrap d).tdiv (gcdI (IntKind.u64.wrap b) (IntKind.u64.wrap d))) %
                  18446744073709551616)) /
            18446744073709551616),
        AV.int IntKind.u64
          ((wV
                (absI c *
                    IntKind.u64.wrap ((IntKind.u64.wrap b).tdiv (gcdI (IntKind.u64.wrap b) (IntKind.u64.wrap d))) /
                  18446744073709551616)
                (absI c *
                    IntKind.u64.wrap ((IntKind.u64.wrap b).tdiv (gcdI (IntKind.u64.wrap b) (IntKind.u64.wrap d))) %
                  18446744073709551616) -
              wV
                (absI a *
                    IntKind.u64.wrap ((IntKind.u64.wrap d).tdiv (gcdI (IntKind.u64.wrap b) (IntKind.u64.wrap d))) /
                  18446744073709551616)
                (absI a *
                    IntKind.u64.wrap ((IntKind.u64.wrap d).tdiv (gcdI (IntKind.u64.wrap b) (IntKind.u64.wrap d))) %
                  18446744073709551616)) %
            18446744073709551616)]
      73]))) by kernel_rfl) h
def h46_tf_2 (a b c d : Int) : List (Bool × Bool) := [(decide (0 ≤ IntKind.u64.wrap b) && decide (0 ≤ IntKind.u64.wrap d), true), (decide (-9223372036854775808 ≤ a) && decide (a < 9223372036854775808), true), (!decide (gcdI (IntKind.u64.wrap b) (IntKind.u64.wrap d) = 0), true), (inU (absI a) && inU (IntKind.u64.wrap ((IntKind.u64.wrap d).tdiv (gcdI (IntKind.u64.wrap b) (IntKind.u64.wrap d)))), true), (decide (-9223372036854775808 ≤ c) && decide (c < 9223372036854775808), true), (!decide (gcdI (IntKind.u64.wrap b) (IntKind.u64.wrap d) = 0), true), (inU (absI c) && inU (IntKind.u64.wrap ((IntKind.u64.wrap b).tdiv (gcdI (IntKind.u64.wrap b) (IntKind.u64.wrap d)))), true), (decide (a < 0), true), (decide (a < 0), true), (decide (c < 0), false), (decide
  (absI a * IntKind.u64.wrap ((IntKind.u64.wrap d).tdiv (gcdI (IntKind.u64.wrap b) (IntKind.u64.wrap d))) /
      18446744073709551616 <
    absI c * IntKind.u64.wrap ((IntKind.u64.wrap b).tdiv (gcdI (IntKind.u64.wrap b) (IntKind.u64.wrap d))) /
      18446744073709551616), false), (absI a * IntKind.u64.wrap ((IntKind.u64.wrap d).tdiv (gcdI (IntKind.u64.wrap b) (IntKind.u64.wrap d))) /
    18446744073709551616 ==
  absI c * IntKind.u64.wrap ((IntKind.u64.wrap b).tdiv (gcdI (IntKind.u64.wrap b) (IntKind.u64.wrap d))) /
    18446744073709551616, true), (decide
  (absI a * IntKind.u64.wrap ((IntKind.u64.wrap d).tdiv (gcdI (IntKind.u64.wrap b) (IntKind.u64.wrap d))) %
      18446744073709551616 <
    absI c * IntKind.u64.wrap ((IntKind.u64.wrap b).tdiv (gcdI (IntKind.u64.wrap b) (IntKind.u64.wrap d))) %
      18446744073709551616), false), (inU
          (absI a * IntKind.u64.wrap ((IntKind.u64.wrap d).tdiv (gcdI (IntKind.u64.wrap b) (IntKind.u64.wrap d))) /
            18446744073709551616) &&
        inU
          (absI a * IntKind.u64.wrap ((IntKind.u64.wrap d).tdiv (gcdI (IntKind.u64.wrap b) (IntKind.u64.wrap d))) %
            18446744073709551616) &&
      inU
        (absI c * IntKind.u64.wrap ((IntKind.u64.wrap b).tdiv (gcdI (IntKind.u64.wrap b) (IntKind.u64.wrap d))) /
          18446744073709551616) &&
    inU
      (absI c * IntKind.u64.wrap ((IntKind.u64.wrap b).tdiv (gcdI (IntKind.u64.wrap b) (IntKind.u64.wrap d))) %
        18446744073709551616) &&
  decide
    (wV
        (absI c * IntKind.u64.wrap ((IntKind.u64.wrap b).tdiv (gcdI (IntKind.u64.wrap b) (IntKind.u64.wrap d))) /
          18446744073709551616)
        (absI c * IntKind.u64.wrap ((IntKind.u64.wrap b).tdiv (gcdI (IntKind.u64.wrap b) (IntKind.u64.wrap d))) %
          18446744073709551616) ≤
      wV
        (absI a * IntKind.u64.wrap ((IntKind.u64.wrap d).tdiv (gcdI (IntKind.u64.wrap b) (IntKind.u64.wrap d))) /
          18446744073709551616)
        (absI a * IntKind.u64.wrap ((IntKind.u64.wrap d).tdiv (gcdI (IntKind.u64.wrap b) (IntKind.u64.wrap d))) %
          18446744073709551616)), true)]
theorem h46_tf_2_ok (a b c d : Int) (h : allB (h46_tf_2 a b c d) = true) : (evPart Try.prog (spOf [e36, e37, e38, e53, e54, e65, e66, e67, e68]) (inlOf []) extD (cKD [e36, e37, e38, e53, e54, e65, e66, e67, e68] []) lp46 7 (codeOf Try.prog 59) keep46 ⟨frame0 Try.f59 [.agg [.int .i64 a, .int .i64 b], .agg [.int .i64 c, .int .i64 d]], []⟩).run = some ((Ex.normal,
  [AV.ptr 0 0, AV.ptr 1 0, AV.ptr 2 0, AV.int IntKind.u64 (gcdI (IntKind.u64.wrap b) (IntKind.u64.wrap d)),
    AV.bool true, AV.ptr 23 0],
  [Ob.cells [AV.int IntKind.i64 a, AV.int IntKind.i64 b] 23, Ob.cells [AV.int IntKind.i64 c, AV.int IntKind.i64 d] 23,
    Ob.cells [AV.int IntKind.i64 0, AV.int IntKind.i64 0] 23, Ob.free, Ob.free, Ob.free, Ob.free, Ob.free, Ob.free,
    Ob.free, Ob.free, Ob.free,
    Ob.cells
      [AV.int IntKind.u64
          (absI a * IntKind.u64.wrap ((IntKind.u64.wrap d).tdiv (gcdI (IntKind.u64.wrap b) (IntKind.u64.wrap d))) /
            18446744073709551616),
        AV.int IntKind.u64
          (absI a * IntKind.u64.wrap ((IntKind.u64.wrap d).tdiv (gcdI (IntKind.u64.wrap b) (IntKind.u64.wrap d))) %
            18446744073709551616)]
      73,
    Ob.free, Ob.free, Ob.free, Ob.free, Ob.free, Ob.free, Ob.free, Ob.free, Ob.free,
    Ob.cells
      [AV.int IntKind.u64
          (absI c * IntKind.u64.wrap ((IntKind.u64.wrap b).tdiv (gcdI (IntKind.u64.wrap b) (IntKind.u64.wrap d))) /
            18446744073709551616),
        AV.int IntKind.u64
          (absI c * IntKind.u64.wrap ((IntKind.u64.wrap b).tdiv (gcdI (IntKind.u64.wrap b) (IntKind.u64.wrap d))) %
            18446744073709551616)]
      73,
    Ob.cells
      [AV.int IntKind.u64
          ((wV
                (absI a *
                    IntKind.u64.wrap ((IntKind.u64.wrap d).tdiv (gcdI (IntKind.u64.wrap b) (IntKind.u64.wrap d))) /
                  18446744073709551616)
                (absI a *
                    IntKind.u64.wrap ((IntKind.u64.wrap d).tdiv (gcdI (IntKind.u64.wrap b) (IntKind.u64.wrap d))) %
                  18446744073709551616) -
              wV
                (absI c *
                    IntKind.u64.wrap ((IntKind.u64.wrap b).tdiv (gcdI (IntKind.u64.wrap b) (IntKind.u64.wrap d))) /
                  18446744073709551616)
                (absI c *
                    IntKind.u64.wrap ((IntKind.u64.wrap b).tdiv (gcdI (IntKind.u64.wrap b) (IntKind.u64.wrap d))) %
                  18446744073709551616)) /
            18446744073709551616),
        AV.int IntKind.u64
          ((wV
                (absI a *
                    IntKind.u64.wrap ((IntKind.u64.wrap d).tdiv (gcdI (IntKind.u64.wrap b) (IntKind.u64.wrap d))) /
                  18446744073709551616)
                (absI a *
                    IntKind.u64.wrap ((IntKind.u64.wrap d).tdiv (gcdI (IntKind.u64.wrap b) (IntKind.u64.wrap d))) %
                  18446744073709551616) -
              wV
                (absI c *
                    IntKind.u64.wrap ((IntKind.u64.wrap b).tdiv (gcdI (IntKind.u64.wrap b) (IntKind.u64.wrap d))) /
                  18446744073709551616)
                (absI c *
                    IntKind.u64.wrap ((IntKind.u64.wrap b).tdiv (gcdI (IntKind.u64.wrap b) (IntKind.u64.wrap d))) %
                  18446744073709551616)) %
            18446744073709551616)]
      73]) : Ex × List AV × List Ob) := way (gs := [true, true, true, true, true, true, true, true, false, false, false, false, true, false, false, false, true]) (show Tr.path _ _ = nestB (h46_tf_2 a b c d) (some ((Ex.normal,
  [AV.ptr 0 0, AV.ptr 1 0, AV.ptr 2 0, AV.int IntKind.u64 (gcdI (IntKind.u64.wrap b) (IntKind.u64.wrap d)),
    AV.bool true, AV.ptr 23 0],
  [Ob.cells [AV.int IntKind.i64 a, AV.int IntKind.i64 b] 23, Ob.cells [AV.int IntKind.i64 c, AV.int IntKind.i64 d] 23,
    Ob.cells [AV.int IntKind.i64 0, AV.int IntKind.i64 0] 23, Ob.free, Ob.free, Ob.free, Ob.free, Ob.free, Ob.free,
    Ob.free, Ob.free, Ob.free,
    Ob.cells
      [AV.int IntKind.u64
          (absI a * IntKind.u64.wrap ((IntKind.u64.wrap d).tdiv (gcdI (IntKind.u64.wrap b) (IntKind.u64.wrap d))) /
            18446744073709551616),
        AV.int IntKind.u64
          (absI a * IntKind.u64.wrap ((IntKind.u64.wrap d).tdiv (gcdI (IntKind.u64.wrap b) (IntKind.u64.wrap d))) %
            18446744073709551616)]
      73,
    Ob.free, Ob.free, Ob.free, Ob.free, Ob.free, Ob.free, Ob.free, Ob.free, Ob.free,
    Ob.cells
      [AV.int IntKind.u64
          (absI c * IntKind.u64.wrap ((IntKind.u64.wrap b).tdiv (gcdI (IntKind.u64.wrap b) (IntKind.u64.wrap d))) /
            18446744073709551616),
        AV.int IntKind.u64
          (absI c * IntKind.u64.wrap ((IntKind.u64.wrap b).tdiv (gcdI (IntKind.u64.wrap b) (IntKind.u64.wrap d))) %
            18446744073709551616)]
      73,
    Ob.cells
      [AV.int IntKind.u64
          ((wV
                (absI a *
                    IntKind.u64.wrap ((IntKind.u64.wrap d).tdiv (gcdI (IntKind.u64.wrap b) (IntKind.u64.wrap d))) /
                  18446744073709551616)
                (absI a *
                    IntKind.u64.wrap ((IntKind.u64.wrap d).tdiv (gcdI (IntKind.u64.wrap b) (IntKind.u64.wrap d))) %
                  18446744073709551616) -
              wV
                (absI c *
                    IntKind.u64.wrap ((IntKind.u64.wrap b).tdiv (gcdI (IntKind.u64.wrap b) (IntKind.u64.wrap d))) /
                  18446744073709551616)
                (absI c *
                    IntKind.u64.wrap ((IntKind.u64.wrap b).tdiv (gcdI (IntKind.u64.wrap b) (IntKind.u64.wrap d))) %
                  18446744073709551616)) /
            18446744073709551616),
        AV.int IntKind.u64
          ((wV
                (absI a *
                    IntKind.u64.wrap ((IntKind.u64.wrap d).tdiv (gcdI (IntKind.u64.wrap b) (IntKind.u64.wrap d))) /
                  18446744073709551616)
                (absI a *
                    IntKind.u64.wrap ((IntKind.u64.wrap d).tdiv (gcdI (IntKind.u64.wrap b) (IntKind.u64.wrap d))) %
                  18446744073709551616) -
              wV
                (absI c *
                    IntKind.u64.wrap ((IntKind.u64.wrap b).tdiv (gcdI (IntKind.u64.wrap b) (IntKind.u64.wrap d))) /
                  18446744073709551616)
                (absI c *
                    IntKind.u64.wrap ((IntKind.u64.wrap b).tdiv (gcdI (IntKind.u64.wrap b) (IntKind.u64.wrap d))) %
                  18446744073709551616)) %
            18446744073709551616)]
      73]))) by kernel_rfl) h
def h46_tf_3 (a b c d : Int) : List (Bool × Bool) := [(decide (0 ≤ IntKind.u64.wrap b) && decide (0 ≤ IntKind.u64.wrap d), true), (decide (-9223372036854775808 ≤ a) && decide (a < 9223372036854775808), true), (!decide (gcdI (IntKind.u64.wrap b) (IntKind.u64.wrap d) = 0), true), (inU (absI a) && inU (IntKind.u64.wrap ((IntKind.u64.wrap d).tdiv (gcdI (IntKind.u64.wrap b) (IntKind.u64.wrap d)))), true), (decide (-9223372036854775808 ≤ c) && decide (c < 9223372036854775808), true), (!decide (gcdI (IntKind.u64.wrap b) (IntKind.u64.wrap d) = 0), true), (inU (absI c) && inU (IntKind.u64.wrap ((IntKind.u64.wrap b).tdiv (gcdI (IntKind.u64.wrap b) (IntKind.u64.wrap d)))), true), (decide (a < 0), true), (decide (a < 0), true), (decide (c < 0), false), (decide
  (absI a * IntKind.u64.wrap ((IntKind.u64.wrap d).tdiv (gcdI (IntKind.u64.wrap b) (IntKind.u64.wrap d))) /
      18446744073709551616 <
    absI c * IntKind.u64.wrap ((IntKind.u64.wrap b).tdiv (gcdI (IntKind.u64.wrap b) (IntKind.u64.wrap d))) /
      18446744073709551616), false), (absI a * IntKind.u64.wrap ((IntKind.u64.wrap d).tdiv (gcdI (IntKind.u64.wrap b) (IntKind.u64.wrap d))) /
    18446744073709551616 ==
  absI c * IntKind.u64.wrap ((IntKind.u64.wrap b).tdiv (gcdI (IntKind.u64.wrap b) (IntKind.u64.wrap d))) /
    18446744073709551616, false), (inU
          (absI a * IntKind.u64.wrap ((IntKind.u64.wrap d).tdiv (gcdI (IntKind.u64.wrap b) (IntKind.u64.wrap d))) /
            18446744073709551616) &&
        inU
          (absI a * IntKind.u64.wrap ((IntKind.u64.wrap d).tdiv (gcdI (IntKind.u64.wrap b) (IntKind.u64.wrap d))) %
            18446744073709551616) &&
      inU
        (absI c * IntKind.u64.wrap ((IntKind.u64.wrap b).tdiv (gcdI (IntKind.u64.wrap b) (IntKind.u64.wrap d))) /
          18446744073709551616) &&
    inU
      (absI c * IntKind.u64.wrap ((IntKind.u64.wrap b).tdiv (gcdI (IntKind.u64.wrap b) (IntKind.u64.wrap d))) %
        18446744073709551616) &&
  decide
    (wV
        (absI c * IntKind.u64.wrap ((IntKind.u64.wrap b).tdiv (gcdI (IntKind.u64.wrap b) (IntKind.u64.wrap d))) /
          18446744073709551616)
        (absI c * IntKind.u64.wrap ((IntKind.u64.wrap b).tdiv (gcdI (IntKind.u64.wrap b) (IntKind.u64.wrap d))) %
          18446744073709551616) ≤
      wV
        (absI a * IntKind.u64.wrap ((IntKind.u64.wrap d).tdiv (gcdI (IntKind.u64.wrap b) (IntKind.u64.wrap d))) /
          18446744073709551616)
        (absI a * IntKind.u64.wrap ((IntKind.u64.wrap d).tdiv (gcdI (IntKind.u64.wrap b) (IntKind.u64.wrap d))) %
          18446744073709551616)), true)]
theorem h46_tf_3_ok (a b c d : Int) (h : allB (h46_tf_3 a b c d) = true) : (evPart Try.prog (spOf [e36, e37, e38, e53, e54, e65, e66, e67, e68]) (inlOf []) extD (cKD [e36, e37, e38, e53, e54, e65, e66, e67, e68] []) lp46 7 (codeOf Try.prog 59) keep46 ⟨frame0 Try.f59 [.agg [.int .i64 a, .int .i64 b], .agg [.int .i64 c, .int .i64 d]], []⟩).run = some ((Ex.normal,
  [AV.ptr 0 0, AV.ptr 1 0, AV.ptr 2 0, AV.int IntKind.u64 (gcdI (IntKind.u64.wrap b) (IntKind.u64.wrap d)),
    AV.bool true, AV.ptr 23 0],
  [Ob.cells [AV.int IntKind.i64 a, AV.int IntKind.i64 b] 23, Ob.cells [AV.int IntKind.i64 c, AV.int IntKind.i64 d] 23,
    Ob.cells [AV.int IntKind.i64 0, AV.int IntKind.i64 0] 23, Ob.free, Ob.free, Ob.free, Ob.free, Ob.free, Ob.free,
    Ob.free, Ob.free, Ob.free,
    Ob.cells
      [AV.int IntKind.u64
          (absI a * IntKind.u64.wrap ((IntKind.u64.wrap d).tdiv (gcdI (IntKind.u64.wrap b) (IntKind.u64.wrap d))) /
            18446744073709551616),
        AV.int IntKind.u64
          (absI a * IntKind.u64.wrap ((IntKind.u64.wrap d).tdiv (gcdI (IntKind.u64.wrap b) (IntKind.u64.wrap d))) %
            18446744073709551616)]
      73,
    Ob.free, Ob.free, Ob.free, Ob.free, Ob.free, Ob.free, Ob.free, Ob.free, Ob.free,
    Ob.cells
      [AV.int IntKind.u64
          (absI c * IntKind.u64.wrap ((IntKind.u64.wrap b).tdiv (gcdI (IntKind.u64.wrap b) (IntKind.u64.wrap d))) /
            18446744073709551616),
        AV.int IntKind.u64
          (absI c * IntKind.u64.wrap ((IntKind.u64.wrap b).tdiv (gcdI (IntKind.u64.wrap b) (IntKind.u64.wrap d))) %
            18446744073709551616)]
      73,
    Ob.cells
      [AV.int IntKind.u64
          ((wV
                (absI a *
                    IntKind.u64.wrap ((IntKind.u64.wrap d).tdiv (gcdI (IntKind.u64.wrap b) (IntKind.u64.wrap d))) /
                  18446744073709551616)
                (absI a *
                    IntKind.u64.wrap ((IntKind.u64.wrap d).tdiv (gcdI (IntKind.u64.wrap b) (IntKind.u64.wrap d))) %
                  18446744073709551616) -
              wV
                (absI c *
                    IntKind.u64.wrap ((IntKind.u64.wrap b).tdiv (gcdI (IntKind.u64.wrap b) (IntKind.u64.wrap d))) /
                  18446744073709551616)
                (absI c *
                    IntKind.u64.wrap ((IntKind.u64.wrap b).tdiv (gcdI (IntKind.u64.wrap b) (IntKind.u64.wrap d))) %
                  18446744073709551616)) /
            18446744073709551616),
        AV.int IntKind.u64
          ((wV
                (absI a *
                    IntKind.u64.wrap ((IntKind.u64.wrap d).tdiv (gcdI (IntKind.u64.wrap b) (IntKind.u64.wrap d))) /
                  18446744073709551616)
                (absI a *
                    IntKind.u64.wrap ((IntKind.u64.wrap d).tdiv (gcdI (IntKind.u64.wrap b) (IntKind.u64.wrap d))) %
                  18446744073709551616) -
              wV
                (absI c *
                    IntKind.u64.wrap ((IntKind.u64.wrap b).tdiv (gcdI (IntKind.u64.wrap b) (IntKind.u64.wrap d))) /
                  18446744073709551616)
                (absI c *
                    IntKind.u64.wrap ((IntKind.u64.wrap b).tdiv (gcdI (IntKind.u64.wrap b) (IntKind.u64.wrap d))) %
                  18446744073709551616)) %
            18446744073709551616)]
      73]) : Ex × List AV × List Ob) := way (gs := [true, true, true, true, true, true, true, true, false, false, false, false, false, false, false, true]) (show Tr.path _ _ = nestB (h46_tf_3 a b c d) (some ((Ex.normal,
  [AV.ptr 0 0, AV.ptr 1 0, AV.ptr 2 0, AV.int IntKind.u64 (gcdI (IntKind.u64.wrap b) (IntKind.u64.wrap d)),
    AV.bool true, AV.ptr 23 0],
  [Ob.cells [AV.int IntKind.i64 a, AV.int IntKind.i64 b] 23, Ob.cells [AV.int IntKind.i64 c, AV.int IntKind.i64 d] 23,
    Ob.cells [AV.int IntKind.i64 0, AV.int IntKind.i64 0] 23, Ob.free, Ob.free, Ob.free, Ob.free, Ob.free, Ob.free,
    Ob.free, Ob.free, Ob.free,
    Ob.cells
      [AV.int IntKind.u64
          (absI a * IntKind.u64.wrap ((IntKind.u64.wrap d).tdiv (gcdI (IntKind.u64.wrap b) (IntKind.u64.wrap d))) /
            18446744073709551616),
        AV.int IntKind.u64
          (absI a * IntKind.u64.wrap ((IntKind.u64.wrap d).tdiv (gcdI (IntKind.u64.wrap b) (IntKind.u64.wrap d))) %
            18446744073709551616)]
      73,
    Ob.free, Ob.free, Ob.free, Ob.free, Ob.free, Ob.free, Ob.free, Ob.free, Ob.free,
    Ob.cells
      [AV.int IntKind.u64
          (absI c * IntKind.u64.wrap ((IntKind.u64.wrap b).tdiv (gcdI (IntKind.u64.wrap b) (IntKind.u64.wrap d))) /
            18446744073709551616),
        AV.int IntKind.u64
          (absI c * IntKind.u64.wrap ((IntKind.u64.wrap b).tdiv (gcdI (IntKind.u64.wrap b) (IntKind.u64.wrap d))) %
            18446744073709551616)]
      73,
    Ob.cells
      [AV.int IntKind.u64
          ((wV
                (absI a *
                    IntKind.u64.wrap ((IntKind.u64.wrap d).tdiv (gcdI (IntKind.u64.wrap b) (IntKind.u64.wrap d))) /
                  18446744073709551616)
                (absI a *
                    IntKind.u64.wrap ((IntKind.u64.wrap d).tdiv (gcdI (IntKind.u64.wrap b) (IntKind.u64.wrap d))) %
                  18446744073709551616) -
              wV
                (absI c *
                    IntKind.u64.wrap ((IntKind.u64.wrap b).tdiv (gcdI (IntKind.u64.wrap b) (IntKind.u64.wrap d))) /
                  18446744073709551616)
                (absI c *
                    IntKind.u64.wrap ((IntKind.u64.wrap b).tdiv (gcdI (IntKind.u64.wrap b) (IntKind.u64.wrap d))) %
                  18446744073709551616)) /
            18446744073709551616),
        AV.int IntKind.u64
          ((wV
                (absI a *
                    IntKind.u64.wrap ((IntKind.u64.wrap d).tdiv (gcdI (IntKind.u64.wrap b) (IntKind.u64.wrap d))) /
                  18446744073709551616)
                (absI a *
                    IntKind.u64.wrap ((IntKind.u64.wrap d).tdiv (gcdI (IntKind.u64.wrap b) (IntKind.u64.wrap d))) %
                  18446744073709551616) -
              wV
                (absI c *
                    IntKind.u64.wrap ((IntKind.u64.wrap b).tdiv (gcdI (IntKind.u64.wrap b) (IntKind.u64.wrap d))) /
                  18446744073709551616)
                (absI c *
                    IntKind.u64.wrap ((IntKind.u64.wrap b).tdiv (gcdI (IntKind.u64.wrap b) (IntKind.u64.wrap d))) %
                  18446744073709551616)) %
            18446744073709551616)]
      73]))) by kernel_rfl) h
def h46_ft_0 (a b c d : Int) : List (Bool × Bool) := [(decide (0 ≤ IntKind.u64.wrap b) && decide (0 ≤ IntKind.u64.wrap d), true), (decide (-9223372036854775808 ≤ a) && decide (a < 9223372036854775808), true), (!decide (gcdI (IntKind.u64.wrap b) (IntKind.u64.wrap d) = 0), true), (inU (absI a) && inU (IntKind.u64.wrap ((IntKind.u64.wrap d).tdiv (gcdI (IntKind.u64.wrap b) (IntKind.u64.wrap d)))), true), (decide (-9223372036854775808 ≤ c) && decide (c < 9223372036854775808), true), (!decide (gcdI (IntKind.u64.wrap b) (IntKind.u64.wrap d) = 0), true), (inU (absI c) && inU (IntKind.u64.wrap ((IntKind.u64.wrap b).tdiv (gcdI (IntKind.u64.wrap b) (IntKind.u64.wrap d)))), true), (decide (a < 0), false), (decide (a < 0), false), (decide (c < 0), true), (decide
  (absI a * IntKind.u64.wrap ((IntKind.u64.wrap d).tdiv (gcdI (IntKind.u64.wrap b) (IntKind.u64.wrap d))) /
      18446744073709551616 <
    absI c * IntKind.u64.wrap ((IntKind.u64.wrap b).tdiv (gcdI (IntKind.u64.wrap b) (IntKind.u64.wrap d))) /
      18446744073709551616), true), (inU
          (absI c * IntKind.u64.wrap ((IntKind.u64.wrap b).tdiv (gcdI (IntKind.u64.wrap b) (IntKind.u64.wrap d))) /
            18446744073709551616) &&
        inU
          (absI c * IntKind.u64.wrap ((IntKind.u64.wrap b).tdiv (gcdI (IntKind.u64.wrap b) (IntKind.u64.wrap d))) %
            18446744073709551616) &&
      inU
        (absI a * IntKind.u64.wrap ((IntKind.u64.wrap d).tdiv (gcdI (IntKind.u64.wrap b) (IntKind.u64.wrap d))) /
          18446744073709551616) &&
    inU
      (absI a * IntKind.u64.wrap ((IntKind.u64.wrap d).tdiv (gcdI (IntKind.u64.wrap b) (IntKind.u64.wrap d))) %
        18446744073709551616) &&
  decide
    (wV
        (absI a * IntKind.u64.wrap ((IntKind.u64.wrap d).tdiv (gcdI (IntKind.u64.wrap b) (IntKind.u64.wrap d))) /
          18446744073709551616)
        (absI a * IntKind.u64.wrap ((IntKind.u64.wrap d).tdiv (gcdI (IntKind.u64.wrap b) (IntKind.u64.wrap d))) %
          18446744073709551616) ≤
      wV
        (absI c * IntKind.u64.wrap ((IntKind.u64.wrap b).tdiv (gcdI (IntKind.u64.wrap b) (IntKind.u64.wrap d))) /
          18446744073709551616)
        (absI c * IntKind.u64.wrap ((IntKind.u64.wrap b).tdiv (gcdI (IntKind.u64.wrap b) (IntKind.u64.wrap d))) %
          18446744073709551616)), true), (decide (c < 0), true)]
theorem h46_ft_0_ok (a b c d : Int) (h : allB (h46_ft_0 a b c d) = true) : (evPart Try.prog (spOf [e36, e37, e38, e53, e54, e65, e66, e67, e68]) (inlOf []) extD (cKD [e36, e37, e38, e53, e54, e65, e66, e67, e68] []) lp46 7 (codeOf Try.prog 59) keep46 ⟨frame0 Try.f59 [.agg [.int .i64 a, .int .i64 b], .agg [.int .i64 c, .int .i64 d]], []⟩).run = some ((Ex.normal,
  [AV.ptr 0 0, AV.ptr 1 0, AV.ptr 2 0, AV.int IntKind.u64 (gcdI (IntKind.u64.wrap b) (IntKind.u64.wrap d)),
    AV.bool true, AV.ptr 23 0],
  [Ob.cells [AV.int IntKind.i64 a, AV.int IntKind.i64 b] 23, Ob.cells [AV.int IntKind.i64 c, AV.int IntKind.i64 d] 23,
    Ob.cells [AV.int IntKind.i64 0, AV.int IntKind.i64 0] 23, Ob.free, Ob.free, Ob.free, Ob.free, Ob.free, Ob.free,
    Ob.free, Ob.free, Ob.free,
    Ob.cells
      [AV.int IntKind.u64
          (absI a * IntKind.u64.wrap ((IntKind.u64.wrap d).tdiv (gcdI (IntKind.u64.wrap b) (IntKind.u64.wrap d))) /
            18446744073709551616),
        AV.int IntKind.u64
          (absI a * IntKind.u64.wrap ((IntKind.u64.wrap d).tdiv (gcdI (IntKind.u64.wrap b) (IntKind.u64.wrap d))) %
            18446744073709551616)]
      73,
    Ob.free, Ob.free, Ob.free, Ob.free, Ob.free, Ob.free, Ob.free, Ob.free, Ob.free,
    Ob.cells
      [AV.int IntKind.u64
          (absI c * IntKind.u64.wrap ((IntKind.u64.wrap b).tdiv (gcdI (IntKind.u64.wrap b) (IntKind.u64.wrap d))) /
            18446744073709551616),
        AV.int IntKind.u64
          (absI c * IntKind.u64.wrap ((IntKind.u64.wrap b).tdiv (gcdI (IntKind.u64.wrap b) (IntKind.u64.wrap d))) %
            18446744073709551616)]
      73,
    Ob.cells
      [AV.int IntKind.u64
          ((wV
                (absI c *
                    IntKind.u64.wrap ((IntKind.u64.wrap b).tdiv (gcdI (IntKind.u64.wrap b) (IntKind.u64.wrap d))) /
                  18446744073709551616)
                (absI c *
                    IntKind.u64.wrap ((IntKind.u64.wrap b).tdiv (gcdI (IntKind.u64.wrap b) (IntKind.u64.wrap d))) %
                  18446744073709551616) -
              wV
                (absI a *
                    IntKind.u64.wrap ((IntKind.u64.wrap d).tdiv (gcdI (IntKind.u64.wrap b) (IntKind.u64.wrap d))) /
                  18446744073709551616)
                (absI a *
                    IntKind.u64.wrap ((IntKind.u64.wrap d).tdiv (gcdI (IntKind.u64.wrap b) (IntKind.u64.wrap d))) %
                  18446744073709551616)) /
            18446744073709551616),
        AV.int IntKind.u64
          ((wV
                (absI c *
                    IntKind.u64.wrap ((IntKind.u64.wrap b).tdiv (gcdI (IntKind.u64.wrap b) (IntKind.u64.wrap d))) /
                  18446744073709551616)
                (absI c *
                    IntKind.u64.wrap ((IntKind.u64.wrap b).tdiv (gcdI (IntKind.u64.wrap b) (IntKind.u64.wrap d))) %
                  18446744073709551616) -
              wV
                (absI a *
                    IntKind.u64.wrap ((IntKind.u64.wrap d).tdiv (gcdI (IntKind.u64.wrap b) (IntKind.u64.wrap d))) /
                  18446744073709551616)
                (absI a *
                    IntKind.u64.wrap ((IntKind.u64.wrap d).tdiv (gcdI (IntKind.u64.wrap b) (IntKind.u64.wrap d))) %
                  18446744073709551616)) %
            18446744073709551616)]
      73]) : Ex × List AV × List Ob) := way (gs := [true, true, true, true, true, false, false, false, true, false, false, true, true, true, true, true, true]) (show Tr.path _ _ = nestB (h46_ft_0 a b c d) (some ((Ex.normal,
  [AV.ptr 0 0, AV.ptr 1 0, AV.ptr 2 0, AV.int IntKind.u64 (gcdI (IntKind.u64.wrap b) (IntKind.u64.wrap d)),
    AV.bool true, AV.ptr 23 0],
  [Ob.cells [AV.int IntKind.i64 a, AV.int IntKind.i64 b] 23, Ob.cells [AV.int IntKind.i64 c, AV.int IntKind.i64 d] 23,
    Ob.cells [AV.int IntKind.i64 0, AV.int IntKind.i64 0] 23, Ob.free, Ob.free, Ob.free, Ob.free, Ob.free, Ob.free,
    Ob.free, Ob.free, Ob.free,
    Ob.cells
      [AV.int IntKind.u64
          (absI a * IntKind.u64.wrap ((IntKind.u64.wrap d).tdiv (gcdI (IntKind.u64.wrap b) (IntKind.u64.wrap d))) /
            18446744073709551616),
        AV.int IntKind.u64
          (absI a * IntKind.u64.wrap ((IntKind.u64.wrap d).tdiv (gcdI (IntKind.u64.wrap b) (IntKind.u64.wrap d))) %
            18446744073709551616)]
      73,
    Ob.free, Ob.free, Ob.free, Ob.free, Ob.free, Ob.free, Ob.free, Ob.free, Ob.free,
    Ob.cells
      [AV.int IntKind.u64
          (absI c * IntKind.u64.wrap ((IntKind.u64.wrap b).tdiv (gcdI (IntKind.u64.wrap b) (IntKind.u64.wrap d))) /
            18446744073709551616),
        AV.int IntKind.u64
          (absI c * IntKind.u64.wrap ((IntKind.u64.wrap b).tdiv (gcdI (IntKind.u64.wrap b) (IntKind.u64.wrap d))) %
            18446744073709551616)]
      73,
    Ob.cells
      [AV.int IntKind.u64
          ((wV
                (absI c *
                    IntKind.u64.wrap ((IntKind.u64.wrap b).tdiv (gcdI (IntKind.u64.wrap b) (IntKind.u64.wrap d))) /
                  18446744073709551616)
                (absI c *
                    IntKind.u64.wrap ((IntKind.u64.wrap b).tdiv (gcdI (IntKind.u64.wrap b) (IntKind.u64.wrap d))) %
                  18446744073709551616) -
              wV
                (absI a *
                    IntKind.u64.wrap ((IntKind.u64.wrap d).tdiv (gcdI (IntKind.u64.wrap b) (IntKind.u64.wrap d))) /
                  18446744073709551616)
                (absI a *
                    IntKind.u64.wrap ((IntKind.u64.wrap d).tdiv (gcdI (IntKind.u64.wrap b) (IntKind.u64.wrap d))) %
                  18446744073709551616)) /
            18446744073709551616),
        AV.int IntKind.u64
          ((wV
                (absI c *
                    IntKind.u64.wrap ((IntKind.u64.wrap b).tdiv (gcdI (IntKind.u64.wrap b) (IntKind.u64.wrap d))) /
                  18446744073709551616)
                (absI c *
                    IntKind.u64.wrap ((IntKind.u64.wrap b).tdiv (gcdI (IntKind.u64.wrap b) (IntKind.u64.wrap d))) %
                  18446744073709551616) -
              wV
                (absI a *
                    IntKind.u64.wrap ((IntKind.u64.wrap d).tdiv (gcdI (IntKind.u64.wrap b) (IntKind.u64.wrap d))) /
                  18446744073709551616)
                (absI a *
                    IntKind.u64.wrap ((IntKind.u64.wrap d).tdiv (gcdI (IntKind.u64.wrap b) (IntKind.u64.wrap d))) %
                  18446744073709551616)) %
            18446744073709551616)]
      73]))) by kernel_rfl) h
def h46_ft_1 (a b c d : Int) : List (Bool × Bool) := [(decide (0 ≤ IntKind.u64.wrap b) && decide (0 ≤ IntKind.u64.wrap d), true), (decide (-9223372036854775808 ≤ a) && decide (a < 9223372036854775808), true), (!decide (gcdI (IntKind.u64.wrap b) (IntKind.u64.wrap d) = 0), true), (inU (absI a) && inU (IntKind.u64.wrap ((IntKind.u64.wrap d).tdiv (gcdI (IntKind.u64.wrap b) (IntKind.u64.wrap d)))), true), (decide (-9223372036854775808 ≤ c) && decide (c < 9223372036854775808), true), (!decide (gcdI (IntKind.u64.wrap b) (IntKind.u64.wrap d) = 0), true), (inU (absI c) && inU (IntKind.u64.wrap ((IntKind.u64.wrap b).tdiv (gcdI (IntKind.u64.wrap b) (IntKind.u64.wrap d)))), true), (decide (a < 0), false), (decide (a < 0), false), (decide (c < 0), true), (decide
  (absI a * IntKind.u64.wrap ((IntKind.u64.wrap d).tdiv (gcdI (IntKind.u64.wrap b) (IntKind.u64.wrap d))) /
      18446744073709551616 <
    absI c * IntKind.u64.wrap ((IntKind.u64.wrap b).tdiv (gcdI (IntKind.u64.wrap b) (IntKind.u64.wrap d))) /
      18446744073709551616), false), (absI a * IntKind.u64.wrap ((IntKind.u64.wrap d).tdiv (gcdI (IntKind.u64.wrap b) (IntKind.u64.wrap d))) /
    18446744073709551616 ==
  absI c * IntKind.u64.wrap ((IntKind.u64.wrap b).tdiv (gcdI (IntKind.u64.wrap b) (IntKind.u64.wrap d))) /
    18446744073709551616, true), (decide
  (absI a * IntKind.u64.wrap ((IntKind.u64.wrap d).tdiv (gcdI (IntKind.u64.wrap b) (IntKind.u64.wrap d))) %
      18446744073709551616 <
    absI c * IntKind.u64.wrap ((IntKind.u64.wrap b).tdiv (gcdI (IntKind.u64.wrap b) (IntKind.u64.wrap d))) %
      18446744073709551616), true), (inU
          (absI c * IntKind.u64.wrap ((IntKind.u64.wrap b).tdiv (gcdI (IntKind.u64.wrap b) (IntKind.u64.wrap d))) /
            18446744073709551616) &&
        inU
          (absI c * IntKind.u64.wrap ((IntKind.u64.wrap b).tdiv (gcdI (IntKind.u64.wrap b) (IntKind.u64.wrap d))) %
            18446744073709551616) &&
      inU
        (absI a * IntKind.u64.wrap ((IntKind.u64.wrap d).tdiv (gcdI (IntKind.u64.wrap b) (IntKind.u64.wrap d))) /
          18446744073709551616) &&
    inU
      (absI a * IntKind.u64.wrap ((IntKind.u64.wrap d).tdiv (gcdI (IntKind.u64.wrap b) (IntKind.u64.wrap d))) %
        18446744073709551616) &&
  decide
    (wV
        (absI a * IntKind.u64.wrap ((IntKind.u64.wrap d).tdiv (gcdI (IntKind.u64.wrap b) (IntKind.u64.wrap d))) /
          18446744073709551616)
        (absI a * IntKind.u64.wrap ((IntKind.u64.wrap d).tdiv (gcdI (IntKind.u64.wrap b) (IntKind.u64.wrap d))) %
          18446744073709551616) ≤
      wV
        (absI c * IntKind.u64.wrap ((IntKind.u64.wrap b).tdiv (gcdI (IntKind.u64.wrap b) (IntKind.u64.wrap d))) /
          18446744073709551616)
        (absI c * IntKind.u64.wrap ((IntKind.u64.wrap b).tdiv (gcdI (IntKind.u64.wrap b) (IntKind.u64.wrap d))) %
          18446744073709551616)), true), (decide (c < 0), true)]
theorem h46_ft_1_ok (a b c d : Int) (h : allB (h46_ft_1 a b c d) = true) : (evPart Try.prog (spOf [e36, e37, e38, e53, e54, e65, e66, e67, e68]) (inlOf []) extD (cKD [e36, e37, e38, e53, e54, e65, e66, e67, e68] []) lp46 7 (codeOf Try.prog 59) keep46 ⟨frame0 Try.f59 [.agg [.int .i64 a, .int .i64 b], .agg [.int .i64 c, .int .i64 d]], []⟩).run = some ((Ex.normal,
  [AV.ptr 0 0, AV.ptr 1 0, AV.ptr 2 0, AV.int IntKind.u64 (gcdI (IntKind.u64.wrap b) (IntKind.u64.wrap d)),
    AV.bool true, AV.ptr 23 0],
  [Ob.cells [AV.int IntKind.i64 a, AV.int IntKind.i64 b] 23, Ob.cells [AV.int IntKind.i64 c, AV.int IntKind.i64 d] 23,
    Ob.cells [AV.int IntKind.i64 0, AV.int IntKind.i64 0] 23, Ob.free, Ob.free, Ob.free, Ob.free, Ob.free, Ob.free,
    Ob.free, Ob.free, Ob.free,
    Ob.cells
      [AV.int IntKind.u64
          (absI a * IntKind.u64.wrap ((IntKind.u64.wrap d).tdiv (gcdI (IntKind.u64.wrap b) (IntKind.u64.wrap d))) /
            18446744073709551616),
        AV.int IntKind.u64
          (absI a * IntKind.u64.wrap ((IntKind.u64.wrap d).tdiv (gcdI (IntKind.u64.wrap b) (IntKind.u64.wrap d))) %
            18446744073709551616)]
      73,
    Ob.free, Ob.free, Ob.free, Ob.free, Ob.free, Ob.free, Ob.free, Ob.free, Ob.free,
    Ob.cells
      [AV.int IntKind.u64
          (absI c * IntKind.u64.wrap ((IntKind.u64.wrap b).tdiv (gcdI (IntKind.u64.wrap b) (IntKind.u64.wrap d))) /
            18446744073709551616),
        AV.int IntKind.u64
          (absI c * IntKind.u64.wrap ((IntKind.u64.wrap b).tdiv (gcdI (IntKind.u64.wrap b) (IntKind.u64.wrap d))) %
            18446744073709551616)]
      73,
    Ob.cells
      [AV.int IntKind.u64
          ((wV
                (absI c *
                    IntKind.u64.wrap ((IntKind.u64.wrap b).tdiv (gcdI (IntKind.u64.wrap b) (IntKind.u64.wrap d))) /
                  18446744073709551616)
                (absI c *
                    IntKind.u64.wrap ((IntKind.u64.wrap b).tdiv (gcdI (IntKind.u64.wrap b) (IntKind.u64.wrap d))) %
                  18446744073709551616) -
              wV
                (absI a *
                    IntKind.u64.wrap ((IntKind.u64.wrap d).tdiv (gcdI (IntKind.u64.wrap b) (IntKind.u64.wrap d))) /
                  18446744073709551616)
                (absI a *
                    IntKind.u64.wrap ((IntKind.u64.wrap d).tdiv (gcdI (IntKind.u64.wrap b) (IntKind.u64.wrap d))) %
                  18446744073709551616)) /
            18446744073709551616),
        AV.int IntKind.u64
          ((wV
                (absI c *
                    IntKind.u64.wrap ((IntKind.u64.wrap b).tdiv (gcdI (IntKind.u64.wrap b) (IntKind.u64.wrap d))) /
                  18446744073709551616)
                (absI c *
                    IntKind.u64.wrap ((IntKind.u64.wrap b).tdiv (gcdI (IntKind.u64.wrap b) (IntKind.u64.wrap d))) %
                  18446744073709551616) -
              wV
                (absI a *
                    IntKind.u64.wrap ((IntKind.u64.wrap d).tdiv (gcdI (IntKind.u64.wrap b) (IntKind.u64.wrap d))) /
                  18446744073709551616)
                (absI a *
                    IntKind.u64.wrap ((IntKind.u64.wrap d).tdiv (gcdI (IntKind.u64.wrap b) (IntKind.u64.wrap d))) %
                  18446744073709551616)) %
            18446744073709551616)]
      73]) : Ex × List AV × List Ob) := way (gs := [true, true, true, true, true, false, false, false, true, false, false, false, true, true, true, true, true, true, true]) (show Tr.path _ _ = nestB (h46_ft_1 a b c d) (some ((Ex.normal,
  [AV.ptr 0 0, AV.ptr 1 0, AV.ptr 2 0, AV.int IntKind.u64 (gcdI (IntKind.u64.wrap b) (IntKind.u64.wrap d)),
    AV.bool true, AV.ptr 23 0],
  [Ob.cells [AV.int IntKind.i64 a, AV.int IntKind.i64 b] 23, Ob.cells [AV.int IntKind.i64 c, AV.int IntKind.i64 d] 23,
    Ob.cells [AV.int IntKind.i64 0, AV.int IntKind.i64 0] 23, Ob.free, Ob.free, Ob.free, Ob.free, Ob.free, Ob.free,
    Ob.free, Ob.free, Ob.free,
    Ob.cells
      [AV.int IntKind.u64
          (absI a * IntKind.u64.wrap ((IntKind.u64.wrap d).tdiv (gcdI (IntKind.u64.wrap b) (IntKind.u64.wrap d))) /
            18446744073709551616),
        AV.int IntKind.u64
          (absI a * IntKind.u64.wrap ((IntKind.u64.wrap d).tdiv (gcdI (IntKind.u64.wrap b) (IntKind.u64.wrap d))) %
            18446744073709551616)]
      73,
    Ob.free, Ob.free, Ob.free, Ob.free, Ob.free, Ob.free, Ob.free, Ob.free, Ob.free,
    Ob.cells
      [AV.int IntKind.u64
          (absI c * IntKind.u64.wrap ((IntKind.u64.wrap b).tdiv (gcdI (IntKind.u64.wrap b) (IntKind.u64.wrap d))) /
            18446744073709551616),
        AV.int IntKind.u64
          (absI c * IntKind.u64.wrap ((IntKind.u64.wrap b).tdiv (gcdI (IntKind.u64.wrap b) (IntKind.u64.wrap d))) %
            18446744073709551616)]
      73,
    Ob.cells
      [AV.int IntKind.u64
          ((wV
                (absI c *
                    IntKind.u64.wrap ((IntKind.u64.wrap b).tdiv (gcdI (IntKind.u64.wrap b) (IntKind.u64.wrap d))) /
                  18446744073709551616)
                (absI c *
                    IntKind.u64.wrap ((IntKind.u64.wrap b).tdiv (gcdI (IntKind.u64.wrap b) (IntKind.u64.wrap d))) %
                  18446744073709551616) -
              wV
                (absI a *
                    IntKind.u64.wrap ((IntKind.u64.wrap d).tdiv (gcdI (IntKind.u64.wrap b) (IntKind.u64.wrap d))) /
                  18446744073709551616)
                (absI a *
                    IntKind.u64.wrap ((IntKind.u64.wrap d).tdiv (gcdI (IntKind.u64.wrap b) (IntKind.u64.wrap d))) %
                  18446744073709551616)) /
            18446744073709551616),
        AV.int IntKind.u64
          ((wV
                (absI c *
                    IntKind.u64.wrap ((IntKind.u64.wrap b).tdiv (gcdI (IntKind.u64.wrap b) (IntKind.u64.wrap d))) /
                  18446744073709551616)
                (absI c *
                    IntKind.u64.wrap ((IntKind.u64.wrap b).tdiv (gcdI (IntKind.u64.wrap b) (IntKind.u64.wrap d))) %
                  18446744073709551616) -
              wV
                (absI a *
                    IntKind.u64.wrap ((IntKind.u64.wrap d).tdiv (gcdI (IntKind.u64.wrap b) (IntKind.u64.wrap d))) /
                  18446744073709551616)
                (absI a *
                    IntKind.u64.wrap ((IntKind.u64.wrap d).tdiv (gcdI (IntKind.u64.wrap b) (IntKind.u64.wrap d))) %
                  18446744073709551616)) %
            18446744073709551616)]
      73]))) by kernel_rfl) h
def h46_ft_2 (a b c d : Int) : List (Bool × Bool) := [(decide (0 ≤ IntKind.u64.wrap b) && decide (0 ≤ IntKind.u64.wrap d), true), (decide (-9223372036854775808 ≤ a) && decide (a < 9223372036854775808), true), (!decide (gcdI (IntKind.u64.wrap b) (IntKind.u64.wrap d) = 0), true), (inU (absI a) && inU (IntKind.u64.wrap ((IntKind.u64.wrap d).tdiv (gcdI (IntKind.u64.wrap b) (IntKind.u64.wrap d)))), true), (decide (-9223372036854775808 ≤ c) && decide (c < 9223372036854775808), true), (!decide (gcdI (IntKind.u64.wrap b) (IntKind.u64.wrap d) = 0), true), (inU (absI c) && inU (IntKind.u64.wrap ((IntKind.u64.wrap b).tdiv (gcdI (IntKind.u64.wrap b) (IntKind.u64.wrap d)))), true), (decide (a < 0), false), (decide (a < 0), false), (decide (c < 0), true), (decide
  (absI a * IntKind.u64.wrap ((IntKind.u64.wrap d).tdiv (gcdI (IntKind.u64.wrap b) (IntKind.u64.wrap d))) /
      18446744073709551616 <
    absI c * IntKind.u64.wrap ((IntKind.u64.wrap b).tdiv (gcdI (IntKind.u64.wrap b) (IntKind.u64.wrap d))) /
      18446744073709551616), false), (absI a * IntKind.u64.wrap ((IntKind.u64.wrap d).tdiv (gcdI (IntKind.u64.wrap b) (IntKind.u64.wrap d))) /
    18446744073709551616 ==
  absI c * IntKind.u64.wrap ((IntKind.u64.wrap b).tdiv (gcdI (IntKind.u64.wrap b) (IntKind.u64.wrap d))) /
    18446744073709551616, true), (decide
  (absI a * IntKind.u64.wrap ((IntKind.u64.wrap d).tdiv (gcdI (IntKind.u64.wrap b) (IntKind.u64.wrap d))) %
      18446744073709551616 <
    absI c * IntKind.u64.wrap ((IntKind.u64.wrap b).tdiv (gcdI (IntKind.u64.wrap b) (IntKind.u64.wrap d))) %
      18446744073709551616), false), (inU
          (absI a * IntKind.u64.wrap ((IntKind.u64.wrap d).tdiv (gcdI (IntKind.u64.wrap b) (IntKind.u64.wrap d))) /
            18446744073709551616) &&
        inU
          (absI a * IntKind.u64.wrap ((IntKind.u64.wrap d).tdiv (gcdI (IntKind.u64.wrap b) (IntKind.u64.wrap d))) %
            18446744073709551616) &&
      inU
        (absI c * IntKind.u64.wrap ((IntKind.u64.wrap b).tdiv (gcdI (IntKind.u64.wrap b) (IntKind.u64.wrap d))) /
          18446744073709551616) &&
    inU
      (absI c * IntKind.u64.wrap ((IntKind.u64.wrap b).tdiv (gcdI (IntKind.u64.wrap b) (IntKind.u64.wrap d))) %
        18446744073709551616) &&
  decide
    (wV
        (absI c * IntKind.u64.wrap ((IntKind.u64.wrap b).tdiv (gcdI (IntKind.u64.wrap b) (IntKind.u64.wrap d))) /
          18446744073709551616)
        (absI c * IntKind.u64.wrap ((IntKind.u64.wrap b).tdiv (gcdI (IntKind.u64.wrap b) (IntKind.u64.wrap d))) %
          18446744073709551616) ≤
      wV
        (absI a * IntKind.u64.wrap ((IntKind.u64.wrap d).tdiv (gcdI (IntKind.u64.wrap b) (IntKind.u64.wrap d))) /
          18446744073709551616)
        (absI a * IntKind.u64.wrap ((IntKind.u64.wrap d).tdiv (gcdI (IntKind.u64.wrap b) (IntKind.u64.wrap d))) %
          18446744073709551616)), true)]
theorem h46_ft_2_ok (a b c d : Int) (h : allB (h46_ft_2 a b c d) = true) : (evPart Try.prog (spOf [e36, e37, e38, e53, e54, e65, e66, e67, e68]) (inlOf []) extD (cKD [e36, e37, e38, e53, e54, e65, e66, e67, e68] []) lp46 7 (codeOf Try.prog 59) keep46 ⟨frame0 Try.f59 [.agg [.int .i64 a, .int .i64 b], .agg [.int .i64 c, .int .i64 d]], []⟩).run = some ((Ex.normal,
  [AV.ptr 0 0, AV.ptr 1 0, AV.ptr 2 0, AV.int IntKind.u64 (gcdI (IntKind.u64.wrap b) (IntKind.u64.wrap d)),
    AV.bool false, AV.ptr 23 0],
  [Ob.cells [AV.int IntKind.i64 a, AV.int IntKind.i64 b] 23, Ob.cells [AV.int IntKind.i64 c, AV.int IntKind.i64 d] 23,
    Ob.cells [AV.int IntKind.i64 0, AV.int IntKind.i64 0] 23, Ob.free, Ob.free, Ob.free, Ob.free, Ob.free, Ob.free,
    Ob.free, Ob.free, Ob.free,
    Ob.cells
      [AV.int IntKind.u64
          (absI a * IntKind.u64.wrap ((IntKind.u64.wrap d).tdiv (gcdI (IntKind.u64.wrap b) (IntKind.u64.wrap d))) /
            18446744073709551616),
        AV.int IntKind.u64
          (absI a * IntKind.u64.wrap ((IntKind.u64.wrap d).tdiv (gcdI (IntKind.u64.wrap b) (IntKind.u64.wrap d))) %
            18446744073709551616)]
      73,
    Ob.free, Ob.free, Ob.free, Ob.free, Ob.free, Ob.free, Ob.free, Ob.free, Ob.free,
    Ob.cells
      [AV.int IntKind.u64
          (absI c * IntKind.u64.wrap ((IntKind.u64.wrap b).tdiv (gcdI (IntKind.u64.wrap b) (IntKind.u64.wrap d))) /
            18446744073709551616),
        AV.int IntKind.u64
          (absI c * IntKind.u64.wrap ((IntKind.u64.wrap b).tdiv (gcdI (IntKind.u64.wrap b) (IntKind.u64.wrap d))) %
            18446744073709551616)]
      73,
    Ob.cells
      [AV.int IntKind.u64
          ((wV
                (absI a *
                    IntKind.u64.wrap ((IntKind.u64.wrap d).tdiv (gcdI (IntKind.u64.wrap b) (IntKind.u64.wrap d))) /
                  18446744073709551616)
                (absI a *
                    IntKind.u64.wrap ((IntKind.u64.wrap d).tdiv (gcdI (IntKind.u64.wrap b) (IntKind.u64.wrap d))) %
                  18446744073709551616) -
              wV
                (absI c *
                    IntKind.u64.wrap ((IntKind.u64.wrap b).tdiv (gcdI (IntKind.u64.wrap b) (IntKind.u64.wrap d))) /
                  18446744073709551616)
                (absI c *
                    IntKind.u64.wrap ((IntKind.u64.wrap b).tdiv (gcdI (IntKind.u64.wrap b) (IntKind.u64.wrap d))) %
                  18446744073709551616)) /
            18446744073709551616),
        AV.int IntKind.u64
          ((wV
                (absI a *
                    IntKind.u64.wrap ((IntKind.u64.wrap d).tdiv (gcdI (IntKind.u64.wrap b) (IntKind.u64.wrap d))) /
                  18446744073709551616)
                (absI a *
                    IntKind.u64.wrap ((IntKind.u64.wrap d).tdiv (gcdI (IntKind.u64.wrap b) (IntKind.u64.wrap d))) %
                  18446744073709551616) -
              wV
                (absI c *
                    IntKind.u64.wrap ((IntKind.u64.wrap b).tdiv (gcdI (IntKind.u64.wrap b) (IntKind.u64.wrap d))) /
                  18446744073709551616)
                (absI c *
                    IntKind.u64.wrap ((IntKind.u64.wrap b).tdiv (gcdI (IntKind.u64.wrap b) (IntKind.u64.wrap d))) %
                  18446744073709551616)) %
            18446744073709551616)]
      73]) : Ex × List AV × List Ob) := way (gs := [true, true, true, true, true, false, false, false, true, false, false, false, true, false, false, false, true]) (show Tr.path _ _ = nestB (h46_ft_2 a b c d) (some ((Ex.normal,
  [AV.ptr 0 0, AV.ptr 1 0, AV.ptr 2 0, AV.int IntKind.u64 (gcdI (IntKind.u64.wrap b) (IntKind.u64.wrap d)),
    AV.bool false, AV.ptr 23 0],
  [Ob.cells [AV.int IntKind.i64 a, AV.int IntKind.i64 b] 23, Ob.cells [AV.int IntKind.i64 c, AV.int IntKind.i64 d] 23,
    Ob.cells [AV.int IntKind.i64 0, AV.int IntKind.i64 0] 23, Ob.free, Ob.free, Ob.free, Ob.free, Ob.free, Ob.free,
    Ob.free, Ob.free, Ob.free,
    Ob.cells
      [AV.int IntKind.u64
          (absI a * IntKind.u64.wrap ((IntKind.u64.wrap d).tdiv (gcdI (IntKind.u64.wrap b) (IntKind.u64.wrap d))) /
            18446744073709551616),
        AV.int IntKind.u64
          (absI a * IntKind.u64.wrap ((IntKind.u64.wrap d).tdiv (gcdI (IntKind.u64.wrap b) (IntKind.u64.wrap d))) %
            18446744073709551616)]
      73,
    Ob.free, Ob.free, Ob.free, Ob.free, Ob.free, Ob.free, Ob.free, Ob.free, Ob.free,
    Ob.cells
      [AV.int IntKind.u64
          (absI c * IntKind.u64.wrap ((IntKind.u64.wrap b).tdiv (gcdI (IntKind.u64.wrap b) (IntKind.u64.wrap d))) /
            18446744073709551616),
        AV.int IntKind.u64
          (absI c * IntKind.u64.wrap ((IntKind.u64.wrap b).tdiv (gcdI (IntKind.u64.wrap b) (IntKind.u64.wrap d))) %
            18446744073709551616)]
      73,
    Ob.cells
      [AV.int IntKind.u64
          ((wV
                (absI a *
                    IntKind.u64.wrap ((IntKind.u64.wrap d).tdiv (gcdI (IntKind.u64.wrap b) (IntKind.u64.wrap d))) /
                  18446744073709551616)
                (absI a *
                    IntKind.u64.wrap ((IntKind.u64.wrap d).tdiv (gcdI (IntKind.u64.wrap b) (IntKind.u64.wrap d))) %
                  18446744073709551616) -
              wV
                (absI c *
                    IntKind.u64.wrap ((IntKind.u64.wrap b).tdiv (gcdI (IntKind.u64.wrap b) (IntKind.u64.wrap d))) /
                  18446744073709551616)
                (absI c *
                    IntKind.u64.wrap ((IntKind.u64.wrap b).tdiv (gcdI (IntKind.u64.wrap b) (IntKind.u64.wrap d))) %
                  18446744073709551616)) /
            18446744073709551616),
        AV.int IntKind.u64
          ((wV
                (absI a *
                    IntKind.u64.wrap ((IntKind.u64.wrap d).tdiv (gcdI (IntKind.u64.wrap b) (IntKind.u64.wrap d))) /
                  18446744073709551616)
                (absI a *
                    IntKind.u64.wrap ((IntKind.u64.wrap d).tdiv (gcdI (IntKind.u64.wrap b) (IntKind.u64.wrap d))) %
                  18446744073709551616) -
              wV
                (absI c *
                    IntKind.u64.wrap ((IntKind.u64.wrap b).tdiv (gcdI (IntKind.u64.wrap b) (IntKind.u64.wrap d))) /
                  18446744073709551616)
                (absI c *
                    IntKind.u64.wrap ((IntKind.u64.wrap b).tdiv (gcdI (IntKind.u64.wrap b) (IntKind.u64.wrap d))) %
                  18446744073709551616)) %
            18446744073709551616)]
      73]))) by kernel_rfl) h
def h46_ft_3 (a b c d : Int) : List (Bool × Bool) := [(decide (0 ≤ IntKind.u64.wrap b) && decide (0 ≤ IntKind.u64.wrap d), true), (decide (-9223372036854775808 ≤ a) && decide (a < 9223372036854775808), true), (!decide (gcdI (IntKind.u64.wrap b) (IntKind.u64.wrap d) = 0), true), (inU (absI a) && inU (IntKind.u64.wrap ((IntKind.u64.wrap d).tdiv (gcdI (IntKind.u64.wrap b) (IntKind.u64.wrap d)))), true), (decide (-9223372036854775808 ≤ c) && decide (c < 9223372036854775808), true), (!decide (gcdI (IntKind.u64.wrap b) (IntKind.u64.wrap d) = 0), true), (inU (absI c) && inU (IntKind.u64.wrap ((IntKind.u64.wrap b).tdiv (gcdI (IntKind.u64.wrap b) (IntKind.u64.wrap d)))), true), (decide (a < 0), false), (decide (a < 0), false), (decide (c < 0), true), (decide
  (absI a * IntKind.u64.wrap ((IntKind.u64.wrap d).tdiv (gcdI (IntKind.u64.wrap b) (IntKind.u64.wrap d))) /
      18446744073709551616 <
    absI c * IntKind.u64.wrap ((IntKind.u64.wrap b).tdiv (gcdI (IntKind.u64.wrap b) (IntKind.u64.wrap d))) /
      18446744073709551616), false), (absI a * IntKind.u64.wrap ((IntKind.u64.wrap d).tdiv (gcdI (IntKind.u64.wrap b) (IntKind.u64.wrap d))) /
    18446744073709551616 ==
  absI c * IntKind.u64.wrap ((IntKind.u64.wrap b).tdiv (gcdI (IntKind.u64.wrap b) (IntKind.u64.wrap d))) /
    18446744073709551616, false), (inU
          (absI a * IntKind.u64.wrap ((IntKind.u64.wrap d).tdiv (gcdI (IntKind.u64.wrap b) (IntKind.u64.wrap d))) /
            18446744073709551616) &&
        inU
          (absI a * IntKind.u64.wrap ((IntKind.u64.wrap d).tdiv (gcdI (IntKind.u64.wrap b) (IntKind.u64.wrap d))) %
            18446744073709551616) &&
      inU
        (absI c * IntKind.u64.wrap ((IntKind.u64.wrap b).tdiv (gcdI (IntKind.u64.wrap b) (IntKind.u64.wrap d))) /
          18446744073709551616) &&
    inU
      (absI c * IntKind.u64.wrap ((IntKind.u64.wrap b).tdiv (gcdI (IntKind.u64.wrap b) (IntKind.u64.wrap d))) %
        18446744073709551616) &&
  decide
    (wV
        (absI c * IntKind.u64.wrap ((IntKind.u64.wrap b).tdiv (gcdI (IntKind.u64.wrap b) (IntKind.u64.wrap d))) /
          18446744073709551616)
        (absI c * IntKind.u64.wrap ((IntKind.u64.wrap b).tdiv (gcdI (IntKind.u64.wrap b) (IntKind.u64.wrap d))) %
          18446744073709551616) ≤
      wV
        (absI a * IntKind.u64.wrap ((IntKind.u64.wrap d).tdiv (gcdI (IntKind.u64.wrap b) (IntKind.u64.wrap d))) /
          18446744073709551616)
        (absI a * IntKind.u64.wrap ((IntKind.u64.wrap d).tdiv (gcdI (IntKind.u64.wrap b) (IntKind.u64.wrap d))) %
          18446744073709551616)), true)]
theorem h46_ft_3_ok (a b c d : Int) (h : allB (h46_ft_3 a b c d) = true) : (evPart Try.prog (spOf [e36, e37, e38, e53, e54, e65, e66, e67, e68]) (inlOf []) extD (cKD [e36, e37, e38, e53, e54, e65, e66, e67, e68] []) lp46 7 (codeOf Try.prog 59) keep46 ⟨frame0 Try.f59 [.agg [.int .i64 a, .int .i64 b], .agg [.int .i64 c, .int .i64 d]], []⟩).run = some ((Ex.normal,
  [AV.ptr 0 0, AV.ptr 1 0, AV.ptr 2 0, AV.int IntKind.u64 (gcdI (IntKind.u64.wrap b) (IntKind.u64.wrap d)),
    AV.bool false, AV.ptr 23 0],
  [Ob.cells [AV.int IntKind.i64 a, AV.int IntKind.i64 b] 23, Ob.cells [AV.int IntKind.i64 c, AV.int IntKind.i64 d] 23,
    Ob.cells [AV.int IntKind.i64 0, AV.int IntKind.i64 0] 23, Ob.free, Ob.free, Ob.free, Ob.free, Ob.free, Ob.free,
    Ob.free, Ob.free, Ob.free,
    Ob.cells
      [AV.int IntKind.u64
          (absI a * IntKind.u64.wrap ((IntKind.u64.wrap d).tdiv (gcdI (IntKind.u64.wrap b) (IntKind.u64.wrap d))) /
            18446744073709551616),
        AV.int IntKind.u64
          (absI a * IntKind.u64.wrap ((IntKind.u64.wrap d).tdiv (gcdI (IntKind.u64.wrap b) (IntKind.u64.wrap d))) %
            18446744073709551616)]
      73,
    Ob.free, Ob.free, Ob.free, Ob.free, Ob.free, Ob.free, Ob.free, Ob.free, Ob.free,
    Ob.cells
      [AV.int IntKind.u64
          (absI c * IntKind.u64.wrap ((IntKind.u64.wrap b).tdiv (gcdI (IntKind.u64.wrap b) (IntKind.u64.wrap d))) /
            18446744073709551616),
        AV.int IntKind.u64
          (absI c * IntKind.u64.wrap ((IntKind.u64.wrap b).tdiv (gcdI (IntKind.u64.wrap b) (IntKind.u64.wrap d))) %
            18446744073709551616)]
      73,
    Ob.cells
      [AV.int IntKind.u64
          ((wV
                (absI a *
                    IntKind.u64.wrap ((IntKind.u64.wrap d).tdiv (gcdI (IntKind.u64.wrap b) (IntKind.u64.wrap d))) /
                  18446744073709551616)
                (absI a *
                    IntKind.u64.wrap ((IntKind.u64.wrap d).tdiv (gcdI (IntKind.u64.wrap b) (IntKind.u64.wrap d))) %
                  18446744073709551616) -
              wV
                (absI c *
                    IntKind.u64.wrap ((IntKind.u64.wrap b).tdiv (gcdI (IntKind.u64.wrap b) (IntKind.u64.wrap d))) /
                  18446744073709551616)
                (absI c *
                    IntKind.u64.wrap ((IntKind.u64.wrap b).tdiv (gcdI (IntKind.u64.wrap b) (IntKind.u64.wrap d))) %
                  18446744073709551616)) /
            18446744073709551616),
        AV.int IntKind.u64
          ((wV
                (absI a *
                    IntKind.u64.wrap ((IntKind.u64.wrap d).tdiv (gcdI (IntKind.u64.wrap b) (IntKind.u64.wrap d))) /
                  18446744073709551616)
                (absI a *
                    IntKind.u64.wrap ((IntKind.u64.wrap d).tdiv (gcdI (IntKind.u64.wrap b) (IntKind.u64.wrap d))) %
                  18446744073709551616) -
              wV
                (absI c *
                    IntKind.u64.wrap ((IntKind.u64.wrap b).tdiv (gcdI (IntKind.u64.wrap b) (IntKind.u64.wrap d))) /
                  18446744073709551616)
                (absI c *
                    IntKind.u64.wrap ((IntKind.u64.wrap b).tdiv (gcdI (IntKind.u64.wrap b) (IntKind.u64.wrap d))) %
                  18446744073709551616)) %
            18446744073709551616)]
      73]) : Ex × List AV × List Ob) := way (gs := [true, true, true, true, true, false, false, false, true, false, false, false, false, false, false, true]) (show Tr.path _ _ = nestB (h46_ft_3 a b c d) (some ((Ex.normal,
  [AV.ptr 0 0, AV.ptr 1 0, AV.ptr 2 0, AV.int IntKind.u64 (gcdI (IntKind.u64.wrap b) (IntKind.u64.wrap d)),
    AV.bool false, AV.ptr 23 0],
  [Ob.cells [AV.int IntKind.i64 a, AV.int IntKind.i64 b] 23, Ob.cells [AV.int IntKind.i64 c, AV.int IntKind.i64 d] 23,
    Ob.cells [AV.int IntKind.i64 0, AV.int IntKind.i64 0] 23, Ob.free, Ob.free, Ob.free, Ob.free, Ob.free, Ob.free,
    Ob.free, Ob.free, Ob.free,
    Ob.cells
      [AV.int IntKind.u64
          (absI a * IntKind.u64.wrap ((IntKind.u64.wrap d).tdiv (gcdI (IntKind.u64.wrap b) (IntKind.u64.wrap d))) /
            18446744073709551616),
        AV.int IntKind.u64
          (absI a * IntKind.u64.wrap ((IntKind.u64.wrap d).tdiv (gcdI (IntKind.u64.wrap b) (IntKind.u64.wrap d))) %
            18446744073709551616)]
      73,
    Ob.free, Ob.free, Ob.free, Ob.free, Ob.free, Ob.free, Ob.free, Ob.free, Ob.free,
    Ob.cells
      [AV.int IntKind.u64
          (absI c * IntKind.u64.wrap ((IntKind.u64.wrap b).tdiv (gcdI (IntKind.u64.wrap b) (IntKind.u64.wrap d))) /
            18446744073709551616),
        AV.int IntKind.u64
          (absI c * IntKind.u64.wrap ((IntKind.u64.wrap b).tdiv (gcdI (IntKind.u64.wrap b) (IntKind.u64.wrap d))) %
            18446744073709551616)]
      73,
    Ob.cells
      [AV.int IntKind.u64
          ((wV
                (absI a *
                    IntKind.u64.wrap ((IntKind.u64.wrap d).tdiv (gcdI (IntKind.u64.wrap b) (IntKind.u64.wrap d))) /
                  18446744073709551616)
                (absI a *
                    IntKind.u64.wrap ((IntKind.u64.wrap d).tdiv (gcdI (IntKind.u64.wrap b) (IntKind.u64.wrap d))) %
                  18446744073709551616) -
              wV
                (absI c *
                    IntKind.u64.wrap ((IntKind.u64.wrap b).tdiv (gcdI (IntKind.u64.wrap b) (IntKind.u64.wrap d))) /
                  18446744073709551616)
                (absI c *
                    IntKind.u64.wrap ((IntKind.u64.wrap b).tdiv (gcdI (IntKind.u64.wrap b) (IntKind.u64.wrap d))) %
                  18446744073709551616)) /
            18446744073709551616),
        AV.int IntKind.u64
          ((wV
                (absI a *
                    IntKind.u64.wrap ((IntKind.u64.wrap d).tdiv (gcdI (IntKind.u64.wrap b) (IntKind.u64.wrap d))) /
                  18446744073709551616)
                (absI a *
                    IntKind.u64.wrap ((IntKind.u64.wrap d).tdiv (gcdI (IntKind.u64.wrap b) (IntKind.u64.wrap d))) %
                  18446744073709551616) -
              wV
                (absI c *
                    IntKind.u64.wrap ((IntKind.u64.wrap b).tdiv (gcdI (IntKind.u64.wrap b) (IntKind.u64.wrap d))) /
                  18446744073709551616)
                (absI c *
                    IntKind.u64.wrap ((IntKind.u64.wrap b).tdiv (gcdI (IntKind.u64.wrap b) (IntKind.u64.wrap d))) %
                  18446744073709551616)) %
            18446744073709551616)]
      73]))) by kernel_rfl) h
def h46_ff_0 (a b c d : Int) : List (Bool × Bool) := [(decide (0 ≤ IntKind.u64.wrap b) && decide (0 ≤ IntKind.u64.wrap d), true), (decide (-9223372036854775808 ≤ a) && decide (a < 9223372036854775808), true), (!decide (gcdI (IntKind.u64.wrap b) (IntKind.u64.wrap d) = 0), true), (inU (absI a) && inU (IntKind.u64.wrap ((IntKind.u64.wrap d).tdiv (gcdI (IntKind.u64.wrap b) (IntKind.u64.wrap d)))), true), (decide (-9223372036854775808 ≤ c) && decide (c < 9223372036854775808), true), (!decide (gcdI (IntKind.u64.wrap b) (IntKind.u64.wrap d) = 0), true), (inU (absI c) && inU (IntKind.u64.wrap ((IntKind.u64.wrap b).tdiv (gcdI (IntKind.u64.wrap b) (IntKind.u64.wrap d)))), true), (decide (a < 0), false), (decide (a < 0), false), (decide (c < 0), false), (inU
          (absI a * IntKind.u64.wrap ((IntKind.u64.wrap d).tdiv (gcdI (IntKind.u64.wrap b) (IntKind.u64.wrap d))) /
            18446744073709551616) &&
        inU
          (absI a * IntKind.u64.wrap ((IntKind.u64.wrap d).tdiv (gcdI (IntKind.u64.wrap b) (IntKind.u64.wrap d))) %
            18446744073709551616) &&
      inU
        (absI c * IntKind.u64.wrap ((IntKind.u64.wrap b).tdiv (gcdI (IntKind.u64.wrap b) (IntKind.u64.wrap d))) /
          18446744073709551616) &&
    inU
      (absI c * IntKind.u64.wrap ((IntKind.u64.wrap b).tdiv (gcdI (IntKind.u64.wrap b) (IntKind.u64.wrap d))) %
        18446744073709551616) &&
  decide
    (absI a * IntKind.u64.wrap ((IntKind.u64.wrap d).tdiv (gcdI (IntKind.u64.wrap b) (IntKind.u64.wrap d))) /
          18446744073709551616 +
        absI c * IntKind.u64.wrap ((IntKind.u64.wrap b).tdiv (gcdI (IntKind.u64.wrap b) (IntKind.u64.wrap d))) /
          18446744073709551616 <
      18446744073709551615), true)]
theorem h46_ff_0_ok (a b c d : Int) (h : allB (h46_ff_0 a b c d) = true) : (evPart Try.prog (spOf [e36, e37, e38, e53, e54, e65, e66, e67, e68]) (inlOf []) extD (cKD [e36, e37, e38, e53, e54, e65, e66, e67, e68] []) lp46 7 (codeOf Try.prog 59) keep46 ⟨frame0 Try.f59 [.agg [.int .i64 a, .int .i64 b], .agg [.int .i64 c, .int .i64 d]], []⟩).run = some ((Ex.normal,
  [AV.ptr 0 0, AV.ptr 1 0, AV.ptr 2 0, AV.int IntKind.u64 (gcdI (IntKind.u64.wrap b) (IntKind.u64.wrap d)),
    AV.bool false, AV.ptr 23 0],
  [Ob.cells [AV.int IntKind.i64 a, AV.int IntKind.i64 b] 23, Ob.cells [AV.int IntKind.i64 c, AV.int IntKind.i64 d] 23,
    Ob.cells [AV.int IntKind.i64 0, AV.int IntKind.i64 0] 23, Ob.free, Ob.free, Ob.free, Ob.free, Ob.free, Ob.free,
    Ob.free, Ob.free, Ob.free,
    Ob.cells
      [AV.int IntKind.u64
          (absI a * IntKind.u64.wrap ((IntKind.u64.wrap d).tdiv (gcdI (IntKind.u64.wrap b) (IntKind.u64.wrap d))) /
            18446744073709551616),
        AV.int IntKind.u64
          (absI a * IntKind.u64.wrap ((IntKind.u64.wrap d).tdiv (gcdI (IntKind.u64.wrap b) (IntKind.u64.wrap d))) %
            18446744073709551616)]
      73,
    Ob.free, Ob.free, Ob.free, Ob.free, Ob.free, Ob.free, Ob.free, Ob.free, Ob.free,
    Ob.cells
      [AV.int IntKind.u64
          (absI c * IntKind.u64.wrap ((IntKind.u64.wrap b).tdiv (gcdI (IntKind.u64.wrap b) (IntKind.u64.wrap d))) /
            18446744073709551616),
        AV.int IntKind.u64
          (absI c * IntKind.u64.wrap ((IntKind.u64.wrap b).tdiv (gcdI (IntKind.u64.wrap b) (IntKind.u64.wrap d))) %
            18446744073709551616)]
      73,
    Ob.cells
      [AV.int IntKind.u64
          ((wV
                (absI a *
                    IntKind.u64.wrap ((IntKind.u64.wrap d).tdiv (gcdI (IntKind.u64.wrap b) (IntKind.u64.wrap d))) /
                  18446744073709551616)
                (absI a *
                    IntKind.u64.wrap ((IntKind.u64.wrap d).tdiv (gcdI (IntKind.u64.wrap b) (IntKind.u64.wrap d))) %
                  18446744073709551616) +
              wV
                (absI c *
                    IntKind.u64.wrap ((IntKind.u64.wrap b).tdiv (gcdI (IntKind.u64.wrap b) (IntKind.u64.wrap d))) /
                  18446744073709551616)
                (absI c *
                    IntKind.u64.wrap ((IntKind.u64.wrap b).tdiv (gcdI (IntKind.u64.wrap b) (IntKind.u64.wrap d))) %
                  18446744073709551616)) /
            18446744073709551616),
        AV.int IntKind.u64
          ((wV
                (absI a *
                    IntKind.u64.wrap ((IntKind.u64.wrap d).tdiv (gcdI (IntKind.u64.wrap b) (IntKind.u64.wrap d))) /
                  18446744073709551616)
                (absI a *
                    IntKind.u64.wrap ((IntKind.u64.wrap d).tdiv (gcdI (IntKind.u64.wrap b) (IntKind.u64.wrap d))) %
                  18446744073709551616) +
              wV
                (absI c *
                    IntKind.u64.wrap ((IntKind.u64.wrap b).tdiv (gcdI (IntKind.u64.wrap b) (IntKind.u64.wrap d))) /
                  18446744073709551616)
                (absI c *
                    IntKind.u64.wrap ((IntKind.u64.wrap b).tdiv (gcdI (IntKind.u64.wrap b) (IntKind.u64.wrap d))) %
                  18446744073709551616)) %
            18446744073709551616)]
      73]) : Ex × List AV × List Ob) := way (gs := [true, true, true, true, true, false, false, false, false, true, true, true]) (show Tr.path _ _ = nestB (h46_ff_0 a b c d) (some ((Ex.normal,
  [AV.ptr 0 0, AV.ptr 1 0, AV.ptr 2 0, AV.int IntKind.u64 (gcdI (IntKind.u64.wrap b) (IntKind.u64.wrap d)),
    AV.bool false, AV.ptr 23 0],
  [Ob.cells [AV.int IntKind.i64 a, AV.int IntKind.i64 b] 23, Ob.cells [AV.int IntKind.i64 c, AV.int IntKind.i64 d] 23,
    Ob.cells [AV.int IntKind.i64 0, AV.int IntKind.i64 0] 23, Ob.free, Ob.free, Ob.free, Ob.free, Ob.free, Ob.free,
    Ob.free, Ob.free, Ob.free,
    Ob.cells
      [AV.int IntKind.u64
          (absI a * IntKind.u64.wrap ((IntKind.u64.wrap d).tdiv (gcdI (IntKind.u64.wrap b) (IntKind.u64.wrap d))) /
            18446744073709551616),
        AV.int IntKind.u64
          (absI a * IntKind.u64.wrap ((IntKind.u64.wrap d).tdiv (gcdI (IntKind.u64.wrap b) (IntKind.u64.wrap d))) %
            18446744073709551616)]
      73,
    Ob.free, Ob.free, Ob.free, Ob.free, Ob.free, Ob.free, Ob.free, Ob.free, Ob.free,
    Ob.cells
      [AV.int IntKind.u64
          (absI c * IntKind.u64.wrap ((IntKind.u64.wrap b).tdiv (gcdI (IntKind.u64.wrap b) (IntKind.u64.wrap d))) /
            18446744073709551616),
        AV.int IntKind.u64
          (absI c * IntKind.u64.wrap ((IntKind.u64.wrap b).tdiv (gcdI (IntKind.u64.wrap b) (IntKind.u64.wrap d))) %
            18446744073709551616)]
      73,
    Ob.cells
      [AV.int IntKind.u64
          ((wV
                (absI a *
                    IntKind.u64.wrap ((IntKind.u64.wrap d).tdiv (gcdI (IntKind.u64.wrap b) (IntKind.u64.wrap d))) /
                  18446744073709551616)
                (absI a *
                    IntKind.u64.wrap ((IntKind.u64.wrap d).tdiv (gcdI (IntKind.u64.wrap b) (IntKind.u64.wrap d))) %
                  18446744073709551616) +
              wV
                (absI c *
                    IntKind.u64.wrap ((IntKind.u64.wrap b).tdiv (gcdI (IntKind.u64.wrap b) (IntKind.u64.wrap d))) /
                  18446744073709551616)
                (absI c *
                    IntKind.u64.wrap ((IntKind.u64.wrap b).tdiv (gcdI (IntKind.u64.wrap b) (IntKind.u64.wrap d))) %
                  18446744073709551616)) /
            18446744073709551616),
        AV.int IntKind.u64
          ((wV
                (absI a *
                    IntKind.u64.wrap ((IntKind.u64.wrap d).tdiv (gcdI (IntKind.u64.wrap b) (IntKind.u64.wrap d))) /
                  18446744073709551616)
                (absI a *
                    IntKind.u64.wrap ((IntKind.u64.wrap d).tdiv (gcdI (IntKind.u64.wrap b) (IntKind.u64.wrap d))) %
                  18446744073709551616) +
              wV
                (absI c *
                    IntKind.u64.wrap ((IntKind.u64.wrap b).tdiv (gcdI (IntKind.u64.wrap b) (IntKind.u64.wrap d))) /
                  18446744073709551616)
                (absI c *
                    IntKind.u64.wrap ((IntKind.u64.wrap b).tdiv (gcdI (IntKind.u64.wrap b) (IntKind.u64.wrap d))) %
                  18446744073709551616)) %
            18446744073709551616)]
      73]))) by kernel_rfl) h
end Go.Proofs.Ytebiafgcnmnacaa

/- The ways of sum behind its test for zero, and of multiple. No condition. -/
namespace Go.Proofs.Ytebiafgcnmnacaa
open Go.Evl Go.RowKit
def t46_t_0 (_a _b _c _d _g _p1 _p0 _q1 _q0 n1 n0 : Int) : List (Bool × Bool) := [(n1 == 0 && (n0 == 0 && true), true)]
theorem t46_t_0_ok (a b c d g p1 p0 q1 q0 n1 n0 : Int) (h : allB (t46_t_0 a b c d g p1 p0 q1 q0 n1 n0) = true) : (evRest Try.prog (spOf [e36, e37, e38, e53, e54, e65, e66, e67, e68]) (inlOf []) extD (cKD [e36, e37, e38, e53, e54, e65, e66, e67, e68] []) lp46 (dropSeq 7 (codeOf Try.prog 59)) 88 keep46 [.ptr 0 0, .ptr 1 0, .ptr 2 0, .int .u64 g, .bool true, .ptr 23 0] (heap46 a b c d p1 p0 q1 q0 n1 n0) (endKT Try.prog Try.f59 0 fun r _ => .ofOpt (some r))).run = some (Res.ret (AV.agg [AV.int IntKind.i64 0, AV.int IntKind.i64 1]) : Res) := way (gs := [true]) (by kernel_rfl) h
def t46_t_1 (_a b _c d g _p1 _p0 _q1 _q0 n1 n0 : Int) : List (Bool × Bool) := [(n1 == 0 && (n0 == 0 && true), false), (inU n1 && inU n0 && inU g && decide (0 < g), true), (decide (0 ≤ wV n1 n0 % g) && decide (0 ≤ g), true), (inU n1 && inU n0 && inU (gcdI (wV n1 n0 % g) g) && decide (0 < gcdI (wV n1 n0 % g) g), true), (!decide (g = 0), true), (!decide (gcdI (wV n1 n0 % g) g = 0), true), (inU (IntKind.u64.wrap ((IntKind.u64.wrap b).tdiv g)) &&
  inU (IntKind.u64.wrap ((IntKind.u64.wrap d).tdiv (gcdI (wV n1 n0 % g) g))), true), (inU (wV n1 n0 / gcdI (wV n1 n0 % g) g % 18446744073709551616) &&
  inU
    (IntKind.u64.wrap ((IntKind.u64.wrap b).tdiv g) *
        IntKind.u64.wrap ((IntKind.u64.wrap d).tdiv (gcdI (wV n1 n0 % g) g)) %
      18446744073709551616), true), (fitB (wV n1 n0 / gcdI (wV n1 n0 % g) g / 18446744073709551616) (wV n1 n0 / gcdI (wV n1 n0 % g) g % 18446744073709551616), true), (fitB
  (IntKind.u64.wrap ((IntKind.u64.wrap b).tdiv g) *
      IntKind.u64.wrap ((IntKind.u64.wrap d).tdiv (gcdI (wV n1 n0 % g) g)) /
    18446744073709551616)
  (IntKind.u64.wrap ((IntKind.u64.wrap b).tdiv g) *
      IntKind.u64.wrap ((IntKind.u64.wrap d).tdiv (gcdI (wV n1 n0 % g) g)) %
    18446744073709551616), true)]
theorem t46_t_1_ok (a b c d g p1 p0 q1 q0 n1 n0 : Int) (h : allB (t46_t_1 a b c d g p1 p0 q1 q0 n1 n0) = true) : (evRest Try.prog (spOf [e36, e37, e38, e53, e54, e65, e66, e67, e68]) (inlOf []) extD (cKD [e36, e37, e38, e53, e54, e65, e66, e67, e68] []) lp46 (dropSeq 7 (codeOf Try.prog 59)) 88 keep46 [.ptr 0 0, .ptr 1 0, .ptr 2 0, .int .u64 g, .bool true, .ptr 23 0] (heap46 a b c d p1 p0 q1 q0 n1 n0) (endKT Try.prog Try.f59 0 fun r _ => .ofOpt (some r))).run = some (Res.ret
  (AV.agg
    [AV.int IntKind.i64
        (bif true then -(wV n1 n0 / gcdI (wV n1 n0 % g) g % 18446744073709551616)
        else wV n1 n0 / gcdI (wV n1 n0 % g) g % 18446744073709551616),
      AV.int IntKind.i64
        (IntKind.u64.wrap ((IntKind.u64.wrap b).tdiv g) *
            IntKind.u64.wrap ((IntKind.u64.wrap d).tdiv (gcdI (wV n1 n0 % g) g)) %
          18446744073709551616)]) : Res) := way (gs := [false, true, true, true, true, true, true, true, true]) (by kernel_rfl) h
def t46_t_2 (_a b _c d g _p1 _p0 _q1 _q0 n1 n0 : Int) : List (Bool × Bool) := [(n1 == 0 && (n0 == 0 && true), false), (inU n1 && inU n0 && inU g && decide (0 < g), true), (decide (0 ≤ wV n1 n0 % g) && decide (0 ≤ g), true), (inU n1 && inU n0 && inU (gcdI (wV n1 n0 % g) g) && decide (0 < gcdI (wV n1 n0 % g) g), true), (!decide (g = 0), true), (!decide (gcdI (wV n1 n0 % g) g = 0), true), (inU (IntKind.u64.wrap ((IntKind.u64.wrap b).tdiv g)) &&
  inU (IntKind.u64.wrap ((IntKind.u64.wrap d).tdiv (gcdI (wV n1 n0 % g) g))), true), (inU (wV n1 n0 / gcdI (wV n1 n0 % g) g % 18446744073709551616) &&
  inU
    (IntKind.u64.wrap ((IntKind.u64.wrap b).tdiv g) *
        IntKind.u64.wrap ((IntKind.u64.wrap d).tdiv (gcdI (wV n1 n0 % g) g)) %
      18446744073709551616), true), (fitB (wV n1 n0 / gcdI (wV n1 n0 % g) g / 18446744073709551616) (wV n1 n0 / gcdI (wV n1 n0 % g) g % 18446744073709551616), true), (fitB
  (IntKind.u64.wrap ((IntKind.u64.wrap b).tdiv g) *
      IntKind.u64.wrap ((IntKind.u64.wrap d).tdiv (gcdI (wV n1 n0 % g) g)) /
    18446744073709551616)
  (IntKind.u64.wrap ((IntKind.u64.wrap b).tdiv g) *
      IntKind.u64.wrap ((IntKind.u64.wrap d).tdiv (gcdI (wV n1 n0 % g) g)) %
    18446744073709551616), false)]
theorem t46_t_2_ok (a b c d g p1 p0 q1 q0 n1 n0 : Int) (h : allB (t46_t_2 a b c d g p1 p0 q1 q0 n1 n0) = true) : (evRest Try.prog (spOf [e36, e37, e38, e53, e54, e65, e66, e67, e68]) (inlOf []) extD (cKD [e36, e37, e38, e53, e54, e65, e66, e67, e68] []) lp46 (dropSeq 7 (codeOf Try.prog 59)) 88 keep46 [.ptr 0 0, .ptr 1 0, .ptr 2 0, .int .u64 g, .bool true, .ptr 23 0] (heap46 a b c d p1 p0 q1 q0 n1 n0) (endKT Try.prog Try.f59 0 fun r _ => .ofOpt (some r))).run = some (Res.pan : Res) := way (gs := [false, true, true, true, true, true, true, true, false]) (by kernel_rfl) h
def t46_t_3 (_a b _c d g _p1 _p0 _q1 _q0 n1 n0 : Int) : List (Bool × Bool) := [(n1 == 0 && (n0 == 0 && true), false), (inU n1 && inU n0 && inU g && decide (0 < g), true), (decide (0 ≤ wV n1 n0 % g) && decide (0 ≤ g), true), (inU n1 && inU n0 && inU (gcdI (wV n1 n0 % g) g) && decide (0 < gcdI (wV n1 n0 % g) g), true), (!decide (g = 0), true), (!decide (gcdI (wV n1 n0 % g) g = 0), true), (inU (IntKind.u64.wrap ((IntKind.u64.wrap b).tdiv g)) &&
  inU (IntKind.u64.wrap ((IntKind.u64.wrap d).tdiv (gcdI (wV n1 n0 % g) g))), true), (inU (wV n1 n0 / gcdI (wV n1 n0 % g) g % 18446744073709551616) &&
  inU
    (IntKind.u64.wrap ((IntKind.u64.wrap b).tdiv g) *
        IntKind.u64.wrap ((IntKind.u64.wrap d).tdiv (gcdI (wV n1 n0 % g) g)) %
      18446744073709551616), true), (fitB (wV n1 n0 / gcdI (wV n1 n0 % g) g / 18446744073709551616) (wV n1 n0 / gcdI (wV n1 n0 % g) g % 18446744073709551616), false)]
theorem t46_t_3_ok (a b c d g p1 p0 q1 q0 n1 n0 : Int) (h : allB (t46_t_3 a b c d g p1 p0 q1 q0 n1 n0) = true) : (evRest Try.prog (spOf [e36, e37, e38, e53, e54, e65, e66, e67, e68]) (inlOf []) extD (cKD [e36, e37, e38, e53, e54, e65, e66, e67, e68] []) lp46 (dropSeq 7 (codeOf Try.prog 59)) 88 keep46 [.ptr 0 0, .ptr 1 0, .ptr 2 0, .int .u64 g, .bool true, .ptr 23 0] (heap46 a b c d p1 p0 q1 q0 n1 n0) (endKT Try.prog Try.f59 0 fun r _ => .ofOpt (some r))).run = some (Res.pan : Res) := way (gs := [false, true, true, true, true, true, true, false]) (by kernel_rfl) h
def t46_f_0 (_a _b _c _d _g _p1 _p0 _q1 _q0 n1 n0 : Int) : List (Bool × Bool) := [(n1 == 0 && (n0 == 0 && true), true)]
theorem t46_f_0_ok (a b c d g p1 p0 q1 q0 n1 n0 : Int) (h : allB (t46_f_0 a b c d g p1 p0 q1 q0 n1 n0) = true) : (evRest Try.prog (spOf [e36, e37, e38, e53, e54, e65, e66, e67, e68]) (inlOf []) extD (cKD [e36, e37, e38, e53, e54, e65, e66, e67, e68] []) lp46 (dropSeq 7 (codeOf Try.prog 59)) 88 keep46 [.ptr 0 0, .ptr 1 0, .ptr 2 0, .int .u64 g, .bool false, .ptr 23 0] (heap46 a b c d p1 p0 q1 q0 n1 n0) (endKT Try.prog Try.f59 0 fun r _ => .ofOpt (some r))).run = some (Res.ret (AV.agg [AV.int IntKind.i64 0, AV.int IntKind.i64 1]) : Res) := way (gs := [true]) (by kernel_rfl) h
def t46_f_1 (_a b _c d g _p1 _p0 _q1 _q0 n1 n0 : Int) : List (Bool × Bool) := [(n1 == 0 && (n0 == 0 && true), false), (inU n1 && inU n0 && inU g && decide (0 < g), true), (decide (0 ≤ wV n1 n0 % g) && decide (0 ≤ g), true), (inU n1 && inU n0 && inU (gcdI (wV n1 n0 % g) g) && decide (0 < gcdI (wV n1 n0 % g) g), true), (!decide (g = 0), true), (!decide (gcdI (wV n1 n0 % g) g = 0), true), (inU (IntKind.u64.wrap ((IntKind.u64.wrap b).tdiv g)) &&
  inU (IntKind.u64.wrap ((IntKind.u64.wrap d).tdiv (gcdI (wV n1 n0 % g) g))), true), (inU (wV n1 n0 / gcdI (wV n1 n0 % g) g % 18446744073709551616) &&
  inU
    (IntKind.u64.wrap ((IntKind.u64.wrap b).tdiv g) *
        IntKind.u64.wrap ((IntKind.u64.wrap d).tdiv (gcdI (wV n1 n0 % g) g)) %
      18446744073709551616), true), (fitB (wV n1 n0 / gcdI (wV n1 n0 % g) g / 18446744073709551616) (wV n1 n0 / gcdI (wV n1 n0 % g) g % 18446744073709551616), true), (fitB
  (IntKind.u64.wrap ((IntKind.u64.wrap b).tdiv g) *
      IntKind.u64.wrap ((IntKind.u64.wrap d).tdiv (gcdI (wV n1 n0 % g) g)) /
    18446744073709551616)
  (IntKind.u64.wrap ((IntKind.u64.wrap b).tdiv g) *
      IntKind.u64.wrap ((IntKind.u64.wrap d).tdiv (gcdI (wV n1 n0 % g) g)) %
    18446744073709551616), true)]
theorem t46_f_1_ok (a b c d g p1 p0 q1 q0 n1 n0 : Int) (h : allB (t46_f_1 a b c d g p1 p0 q1 q0 n1 n0) = true) : (evRest Try.prog (spOf [e36, e37, e38, e53, e54, e65, e66, e67, e68]) (inlOf []) extD (cKD [e36, e37, e38, e53, e54, e65, e66, e67, e68] []) lp46 (dropSeq 7 (codeOf Try.prog 59)) 88 keep46 [.ptr 0 0, .ptr 1 0, .ptr 2 0, .int .u64 g, .bool false, .ptr 23 0] (heap46 a b c d p1 p0 q1 q0 n1 n0) (endKT Try.prog Try.f59 0 fun r _ => .ofOpt (some r))).run = some (Res.ret
  (AV.agg
    [AV.int IntKind.i64
        (bif false then -(wV n1 n0 / gcdI (wV n1 n0 % g) g % 18446744073709551616)
        else wV n1 n0 / gcdI (wV n1 n0 % g) g % 18446744073709551616),
      AV.int IntKind.i64
        (IntKind.u64.wrap ((IntKind.u64.wrap b).tdiv g) *
            IntKind.u64.wrap ((IntKind.u64.wrap d).tdiv (gcdI (wV n1 n0 % g) g)) %
          18446744073709551616)]) : Res) := way (gs := [false, true, true, false, true, true, true, true, true]) (by kernel_rfl) h
def t46_f_2 (_a b _c d g _p1 _p0 _q1 _q0 n1 n0 : Int) : List (Bool × Bool) := [(n1 == 0 && (n0 == 0 && true), false), (inU n1 && inU n0 && inU g && decide (0 < g), true), (decide (0 ≤ wV n1 n0 % g) && decide (0 ≤ g), true), (inU n1 && inU n0 && inU (gcdI (wV n1 n0 % g) g) && decide (0 < gcdI (wV n1 n0 % g) g), true), (!decide (g = 0), true), (!decide (gcdI (wV n1 n0 % g) g = 0), true), (inU (IntKind.u64.wrap ((IntKind.u64.wrap b).tdiv g)) &&
  inU (IntKind.u64.wrap ((IntKind.u64.wrap d).tdiv (gcdI (wV n1 n0 % g) g))), true), (inU (wV n1 n0 / gcdI (wV n1 n0 % g) g % 18446744073709551616) &&
  inU
    (IntKind.u64.wrap ((IntKind.u64.wrap b).tdiv g) *
        IntKind.u64.wrap ((IntKind.u64.wrap d).tdiv (gcdI (wV n1 n0 % g) g)) %
      18446744073709551616), true), (fitB (wV n1 n0 / gcdI (wV n1 n0 % g) g / 18446744073709551616) (wV n1 n0 / gcdI (wV n1 n0 % g) g % 18446744073709551616), true), (fitB
  (IntKind.u64.wrap ((IntKind.u64.wrap b).tdiv g) *
      IntKind.u64.wrap ((IntKind.u64.wrap d).tdiv (gcdI (wV n1 n0 % g) g)) /
    18446744073709551616)
  (IntKind.u64.wrap ((IntKind.u64.wrap b).tdiv g) *
      IntKind.u64.wrap ((IntKind.u64.wrap d).tdiv (gcdI (wV n1 n0 % g) g)) %
    18446744073709551616), false)]
theorem t46_f_2_ok (a b c d g p1 p0 q1 q0 n1 n0 : Int) (h : allB (t46_f_2 a b c d g p1 p0 q1 q0 n1 n0) = true) : (evRest Try.prog (spOf [e36, e37, e38, e53, e54, e65, e66, e67, e68]) (inlOf []) extD (cKD [e36, e37, e38, e53, e54, e65, e66, e67, e68] []) lp46 (dropSeq 7 (codeOf Try.prog 59)) 88 keep46 [.ptr 0 0, .ptr 1 0, .ptr 2 0, .int .u64 g, .bool false, .ptr 23 0] (heap46 a b c d p1 p0 q1 q0 n1 n0) (endKT Try.prog Try.f59 0 fun r _ => .ofOpt (some r))).run = some (Res.pan : Res) := way (gs := [false, true, true, false, true, true, true, true, false]) (by kernel_rfl) h
def t46_f_3 (_a b _c d g _p1 _p0 _q1 _q0 n1 n0 : Int) : List (Bool × Bool) := [(n1 == 0 && (n0 == 0 && true), false), (inU n1 && inU n0 && inU g && decide (0 < g), true), (decide (0 ≤ wV n1 n0 % g) && decide (0 ≤ g), true), (inU n1 && inU n0 && inU (gcdI (wV n1 n0 % g) g) && decide (0 < gcdI (wV n1 n0 % g) g), true), (!decide (g = 0), true), (!decide (gcdI (wV n1 n0 % g) g = 0), true), (inU (IntKind.u64.wrap ((IntKind.u64.wrap b).tdiv g)) &&
  inU (IntKind.u64.wrap ((IntKind.u64.wrap d).tdiv (gcdI (wV n1 n0 % g) g))), true), (inU (wV n1 n0 / gcdI (wV n1 n0 % g) g % 18446744073709551616) &&
  inU
    (IntKind.u64.wrap ((IntKind.u64.wrap b).tdiv g) *
        IntKind.u64.wrap ((IntKind.u64.wrap d).tdiv (gcdI (wV n1 n0 % g) g)) %
      18446744073709551616), true), (fitB (wV n1 n0 / gcdI (wV n1 n0 % g) g / 18446744073709551616) (wV n1 n0 / gcdI (wV n1 n0 % g) g % 18446744073709551616), false)]
theorem t46_f_3_ok (a b c d g p1 p0 q1 q0 n1 n0 : Int) (h : allB (t46_f_3 a b c d g p1 p0 q1 q0 n1 n0) = true) : (evRest Try.prog (spOf [e36, e37, e38, e53, e54, e65, e66, e67, e68]) (inlOf []) extD (cKD [e36, e37, e38, e53, e54, e65, e66, e67, e68] []) lp46 (dropSeq 7 (codeOf Try.prog 59)) 88 keep46 [.ptr 0 0, .ptr 1 0, .ptr 2 0, .int .u64 g, .bool false, .ptr 23 0] (heap46 a b c d p1 p0 q1 q0 n1 n0) (endKT Try.prog Try.f59 0 fun r _ => .ofOpt (some r))).run = some (Res.pan : Res) := way (gs := [false, true, true, false, true, true, true, false]) (by kernel_rfl) h
def w48_0 (a b c d : Int) : List (Bool × Bool) := [(decide (-9223372036854775808 ≤ a) && decide (a < 9223372036854775808), true), (decide (0 ≤ absI a) && decide (0 ≤ IntKind.u64.wrap d), true), (decide (-9223372036854775808 ≤ c) && decide (c < 9223372036854775808), true), (decide (0 ≤ absI c) && decide (0 ≤ IntKind.u64.wrap b), true), (decide (-9223372036854775808 ≤ a) && decide (a < 9223372036854775808), true), (!decide (gcdI (absI a) (IntKind.u64.wrap d) = 0), true), (decide (-9223372036854775808 ≤ c) && decide (c < 9223372036854775808), true), (!decide (gcdI (absI c) (IntKind.u64.wrap b) = 0), true), (inU (IntKind.u64.wrap ((absI a).tdiv (gcdI (absI a) (IntKind.u64.wrap d)))) &&
  inU (IntKind.u64.wrap ((absI c).tdiv (gcdI (absI c) (IntKind.u64.wrap b)))), true), (!decide (gcdI (absI c) (IntKind.u64.wrap b) = 0), true), (!decide (gcdI (absI a) (IntKind.u64.wrap d) = 0), true), (inU (IntKind.u64.wrap ((IntKind.u64.wrap b).tdiv (gcdI (absI c) (IntKind.u64.wrap b)))) &&
  inU (IntKind.u64.wrap ((IntKind.u64.wrap d).tdiv (gcdI (absI a) (IntKind.u64.wrap d)))), true), (decide (a < 0), true), (decide (c < 0), true), (inU
    (IntKind.u64.wrap ((absI a).tdiv (gcdI (absI a) (IntKind.u64.wrap d))) *
        IntKind.u64.wrap ((absI c).tdiv (gcdI (absI c) (IntKind.u64.wrap b))) %
      18446744073709551616) &&
  inU
    (IntKind.u64.wrap ((IntKind.u64.wrap b).tdiv (gcdI (absI c) (IntKind.u64.wrap b))) *
        IntKind.u64.wrap ((IntKind.u64.wrap d).tdiv (gcdI (absI a) (IntKind.u64.wrap d))) %
      18446744073709551616), true), (fitB
  (IntKind.u64.wrap ((absI a).tdiv (gcdI (absI a) (IntKind.u64.wrap d))) *
      IntKind.u64.wrap ((absI c).tdiv (gcdI (absI c) (IntKind.u64.wrap b))) /
    18446744073709551616)
  (IntKind.u64.wrap ((absI a).tdiv (gcdI (absI a) (IntKind.u64.wrap d))) *
      IntKind.u64.wrap ((absI c).tdiv (gcdI (absI c) (IntKind.u64.wrap b))) %
    18446744073709551616), true), (fitB
  (IntKind.u64.wrap ((IntKind.u64.wrap b).tdiv (gcdI (absI c) (IntKind.u64.wrap b))) *
      IntKind.u64.wrap ((IntKind.u64.wrap d).tdiv (gcdI (absI a) (IntKind.u64.wrap d))) /
    18446744073709551616)
  (IntKind.u64.wrap ((IntKind.u64.wrap b).tdiv (gcdI (absI c) (IntKind.u64.wrap b))) *
      IntKind.u64.wrap ((IntKind.u64.wrap d).tdiv (gcdI (absI a) (IntKind.u64.wrap d))) %
    18446744073709551616), true)]
theorem w48_0_ok (a b c d : Int) (h : allB (w48_0 a b c d) = true) : (evFnT Try.prog (spOf [e36, e37, e38, e53]) (inlOf []) extD (cKD [e36, e37, e38, e53] []) (fun _ => .unroll 0) Try.f61 [.agg [.int .i64 a, .int .i64 b], .agg [.int .i64 c, .int .i64 d]] [] (fun r _ => .ofOpt (some r))).run = some (Res.ret
  (AV.agg
    [AV.int IntKind.i64
        (bif false then
          -(IntKind.u64.wrap ((absI a).tdiv (gcdI (absI a) (IntKind.u64.wrap d))) *
                IntKind.u64.wrap ((absI c).tdiv (gcdI (absI c) (IntKind.u64.wrap b))) %
              18446744073709551616)
        else
          IntKind.u64.wrap ((absI a).tdiv (gcdI (absI a) (IntKind.u64.wrap d))) *
              IntKind.u64.wrap ((absI c).tdiv (gcdI (absI c) (IntKind.u64.wrap b))) %
            18446744073709551616),
      AV.int IntKind.i64
        (IntKind.u64.wrap ((IntKind.u64.wrap b).tdiv (gcdI (absI c) (IntKind.u64.wrap b))) *
            IntKind.u64.wrap ((IntKind.u64.wrap d).tdiv (gcdI (absI a) (IntKind.u64.wrap d))) %
          18446744073709551616)]) : Res) := way (gs := [true, true, true, true, true, true, true, true, true, true, false, true, true, true]) (by kernel_rfl) h
def w48_1 (a b c d : Int) : List (Bool × Bool) := [(decide (-9223372036854775808 ≤ a) && decide (a < 9223372036854775808), true), (decide (0 ≤ absI a) && decide (0 ≤ IntKind.u64.wrap d), true), (decide (-9223372036854775808 ≤ c) && decide (c < 9223372036854775808), true), (decide (0 ≤ absI c) && decide (0 ≤ IntKind.u64.wrap b), true), (decide (-9223372036854775808 ≤ a) && decide (a < 9223372036854775808), true), (!decide (gcdI (absI a) (IntKind.u64.wrap d) = 0), true), (decide (-9223372036854775808 ≤ c) && decide (c < 9223372036854775808), true), (!decide (gcdI (absI c) (IntKind.u64.wrap b) = 0), true), (inU (IntKind.u64.wrap ((absI a).tdiv (gcdI (absI a) (IntKind.u64.wrap d)))) &&
  inU (IntKind.u64.wrap ((absI c).tdiv (gcdI (absI c) (IntKind.u64.wrap b)))), true), (!decide (gcdI (absI c) (IntKind.u64.wrap b) = 0), true), (!decide (gcdI (absI a) (IntKind.u64.wrap d) = 0), true), (inU (IntKind.u64.wrap ((IntKind.u64.wrap b).tdiv (gcdI (absI c) (IntKind.u64.wrap b)))) &&
  inU (IntKind.u64.wrap ((IntKind.u64.wrap d).tdiv (gcdI (absI a) (IntKind.u64.wrap d)))), true), (decide (a < 0), true), (decide (c < 0), true), (inU
    (IntKind.u64.wrap ((absI a).tdiv (gcdI (absI a) (IntKind.u64.wrap d))) *
        IntKind.u64.wrap ((absI c).tdiv (gcdI (absI c) (IntKind.u64.wrap b))) %
      18446744073709551616) &&
  inU
    (IntKind.u64.wrap ((IntKind.u64.wrap b).tdiv (gcdI (absI c) (IntKind.u64.wrap b))) *
        IntKind.u64.wrap ((IntKind.u64.wrap d).tdiv (gcdI (absI a) (IntKind.u64.wrap d))) %
      18446744073709551616), true), (fitB
  (IntKind.u64.wrap ((absI a).tdiv (gcdI (absI a) (IntKind.u64.wrap d))) *
      IntKind.u64.wrap ((absI c).tdiv (gcdI (absI c) (IntKind.u64.wrap b))) /
    18446744073709551616)
  (IntKind.u64.wrap ((absI a).tdiv (gcdI (absI a) (IntKind.u64.wrap d))) *
      IntKind.u64.wrap ((absI c).tdiv (gcdI (absI c) (IntKind.u64.wrap b))) %
    18446744073709551616), true), (fitB
  (IntKind.u64.wrap ((IntKind.u64.wrap b).tdiv (gcdI (absI c) (IntKind.u64.wrap b))) *
      IntKind.u64.wrap ((IntKind.u64.wrap d).tdiv (gcdI (absI a) (IntKind.u64.wrap d))) /
    18446744073709551616)
  (IntKind.u64.wrap ((IntKind.u64.wrap b).tdiv (gcdI (absI c) (IntKind.u64.wrap b))) *
      IntKind.u64.wrap ((IntKind.u64.wrap d).tdiv (gcdI (absI a) (IntKind.u64.wrap d))) %
    18446744073709551616), false)]
theorem w48_1_ok (a b c d : Int) (h : allB (w48_1 a b c d) = true) : (evFnT Try.prog (spOf [e36, e37, e38, e53]) (inlOf []) extD (cKD [e36, e37, e38, e53] []) (fun _ => .unroll 0) Try.f61 [.agg [.int .i64 a, .int .i64 b], .agg [.int .i64 c, .int .i64 d]] [] (fun r _ => .ofOpt (some r))).run = some (Res.pan : Res) := way (gs := [true, true, true, true, true, true, true, true, true, true, false, true, true, false]) (by kernel_rfl) h
def w48_2 (a b c d : Int) : List (Bool × Bool) := [(decide (-9223372036854775808 ≤ a) && decide (a < 9223372036854775808), true), (decide (0 ≤ absI a) && decide (0 ≤ IntKind.u64.wrap d), true), (decide (-9223372036854775808 ≤ c) && decide (c < 9223372036854775808), true), (decide (0 ≤ absI c) && decide (0 ≤ IntKind.u64.wrap b), true), (decide (-9223372036854775808 ≤ a) && decide (a < 9223372036854775808), true), (!decide (gcdI (absI a) (IntKind.u64.wrap d) = 0), true), (decide (-9223372036854775808 ≤ c) && decide (c < 9223372036854775808), true), (!decide (gcdI (absI c) (IntKind.u64.wrap b) = 0), true), (inU (IntKind.u64.wrap ((absI a).tdiv (gcdI (absI a) (IntKind.u64.wrap d)))) &&
  inU (IntKind.u64.wrap ((absI c).tdiv (gcdI (absI c) (IntKind.u64.wrap b)))), true), (!decide (gcdI (absI c) (IntKind.u64.wrap b) = 0), true), (!decide (gcdI (absI a) (IntKind.u64.wrap d) = 0), true), (inU (IntKind.u64.wrap ((IntKind.u64.wrap b).tdiv (gcdI (absI c) (IntKind.u64.wrap b)))) &&
  inU (IntKind.u64.wrap ((IntKind.u64.wrap d).tdiv (gcdI (absI a) (IntKind.u64.wrap d)))), true), (decide (a < 0), true), (decide (c < 0), true), (inU
    (IntKind.u64.wrap ((absI a).tdiv (gcdI (absI a) (IntKind.u64.wrap d))) *
        IntKind.u64.wrap ((absI c).tdiv (gcdI (absI c) (IntKind.u64.wrap b))) %
      18446744073709551616) &&
  inU
    (IntKind.u64.wrap ((IntKind.u64.wrap b).tdiv (gcdI (absI c) (IntKind.u64.wrap b))) *
        IntKind.u64.wrap ((IntKind.u64.wrap d).tdiv (gcdI (absI a) (IntKind.u64.wrap d))) %
      18446744073709551616), true), (fitB
  (IntKind.u64.wrap ((absI a).tdiv (gcdI (absI a) (IntKind.u64.wrap d))) *
      IntKind.u64.wrap ((absI c).tdiv (gcdI (absI c) (IntKind.u64.wrap b))) /
    18446744073709551616)
  (IntKind.u64.wrap ((absI a).tdiv (gcdI (absI a) (IntKind.u64.wrap d))) *
      IntKind.u64.wrap ((absI c).tdiv (gcdI (absI c) (IntKind.u64.wrap b))) %
    18446744073709551616), false)]
theorem w48_2_ok (a b c d : Int) (h : allB (w48_2 a b c d) = true) : (evFnT Try.prog (spOf [e36, e37, e38, e53]) (inlOf []) extD (cKD [e36, e37, e38, e53] []) (fun _ => .unroll 0) Try.f61 [.agg [.int .i64 a, .int .i64 b], .agg [.int .i64 c, .int .i64 d]] [] (fun r _ => .ofOpt (some r))).run = some (Res.pan : Res) := way (gs := [true, true, true, true, true, true, true, true, true, true, false, true, false]) (by kernel_rfl) h
def w48_3 (a b c d : Int) : List (Bool × Bool) := [(decide (-9223372036854775808 ≤ a) && decide (a < 9223372036854775808), true), (decide (0 ≤ absI a) && decide (0 ≤ IntKind.u64.wrap d), true), (decide (-9223372036854775808 ≤ c) && decide (c < 9223372036854775808), true), (decide (0 ≤ absI c) && decide (0 ≤ IntKind.u64.wrap b), true), (decide (-9223372036854775808 ≤ a) && decide (a < 9223372036854775808), true), (!decide (gcdI (absI a) (IntKind.u64.wrap d) = 0), true), (decide (-9223372036854775808 ≤ c) && decide (c < 9223372036854775808), true), (!decide (gcdI (absI c) (IntKind.u64.wrap b) = 0), true), (inU (IntKind.u64.wrap ((absI a).tdiv (gcdI (absI a) (IntKind.u64.wrap d)))) &&
  inU (IntKind.u64.wrap ((absI c).tdiv (gcdI (absI c) (IntKind.u64.wrap b)))), true), (!decide (gcdI (absI c) (IntKind.u64.wrap b) = 0), true), (!decide (gcdI (absI a) (IntKind.u64.wrap d) = 0), true), (inU (IntKind.u64.wrap ((IntKind.u64.wrap b).tdiv (gcdI (absI c) (IntKind.u64.wrap b)))) &&
  inU (IntKind.u64.wrap ((IntKind.u64.wrap d).tdiv (gcdI (absI a) (IntKind.u64.wrap d)))), true), (decide (a < 0), true), (decide (c < 0), false), (inU
    (IntKind.u64.wrap ((absI a).tdiv (gcdI (absI a) (IntKind.u64.wrap d))) *
        IntKind.u64.wrap ((absI c).tdiv (gcdI (absI c) (IntKind.u64.wrap b))) %
      18446744073709551616) &&
  inU
    (IntKind.u64.wrap ((IntKind.u64.wrap b).tdiv (gcdI (absI c) (IntKind.u64.wrap b))) *
        IntKind.u64.wrap ((IntKind.u64.wrap d).tdiv (gcdI (absI a) (IntKind.u64.wrap d))) %
      18446744073709551616), true), (fitB
  (IntKind.u64.wrap ((absI a).tdiv (gcdI (absI a) (IntKind.u64.wrap d))) *
      IntKind.u64.wrap ((absI c).tdiv (gcdI (absI c) (IntKind.u64.wrap b))) /
    18446744073709551616)
  (IntKind.u64.wrap ((absI a).tdiv (gcdI (absI a) (IntKind.u64.wrap d))) *
      IntKind.u64.wrap ((absI c).tdiv (gcdI (absI c) (IntKind.u64.wrap b))) %
    18446744073709551616), true), (fitB
  (IntKind.u64.wrap ((IntKind.u64.wrap b).tdiv (gcdI (absI c) (IntKind.u64.wrap b))) *
      IntKind.u64.wrap ((IntKind.u64.wrap d).tdiv (gcdI (absI a) (IntKind.u64.wrap d))) /
    18446744073709551616)
  (IntKind.u64.wrap ((IntKind.u64.wrap b).tdiv (gcdI (absI c) (IntKind.u64.wrap b))) *
      IntKind.u64.wrap ((IntKind.u64.wrap d).tdiv (gcdI (absI a) (IntKind.u64.wrap d))) %
    18446744073709551616), true)]
theorem w48_3_ok (a b c d : Int) (h : allB (w48_3 a b c d) = true) : (evFnT Try.prog (spOf [e36, e37, e38, e53]) (inlOf []) extD (cKD [e36, e37, e38, e53] []) (fun _ => .unroll 0) Try.f61 [.agg [.int .i64 a, .int .i64 b], .agg [.int .i64 c, .int .i64 d]] [] (fun r _ => .ofOpt (some r))).run = some (Res.ret
  (AV.agg
    [AV.int IntKind.i64
        (bif true then
          -(IntKind.u64.wrap ((absI a).tdiv (gcdI (absI a) (IntKind.u64.wrap d))) *
                IntKind.u64.wrap ((absI c).tdiv (gcdI (absI c) (IntKind.u64.wrap b))) %
              18446744073709551616)
        else
          IntKind.u64.wrap ((absI a).tdiv (gcdI (absI a) (IntKind.u64.wrap d))) *
              IntKind.u64.wrap ((absI c).tdiv (gcdI (absI c) (IntKind.u64.wrap b))) %
            18446744073709551616),
      AV.int IntKind.i64
        (IntKind.u64.wrap ((IntKind.u64.wrap b).tdiv (gcdI (absI c) (IntKind.u64.wrap b))) *
            IntKind.u64.wrap ((IntKind.u64.wrap d).tdiv (gcdI (absI a) (IntKind.u64.wrap d))) %
          18446744073709551616)]) : Res) := way (gs := [true, true, true, true, true, true, true, true, true, false, true, true, true, true]) (by kernel_rfl) h
def w48_4 (a b c d : Int) : List (Bool × Bool) := [(decide (-9223372036854775808 ≤ a) && decide (a < 9223372036854775808), true), (decide (0 ≤ absI a) && decide (0 ≤ IntKind.u64.wrap d), true), (decide (-9223372036854775808 ≤ c) && decide (c < 9223372036854775808), true), (decide (0 ≤ absI c) && decide (0 ≤ IntKind.u64.wrap b), true), (decide (-9223372036854775808 ≤ a) && decide (a < 9223372036854775808), true), (!decide (gcdI (absI a) (IntKind.u64.wrap d) = 0), true), (decide (-9223372036854775808 ≤ c) && decide (c < 9223372036854775808), true), (!decide (gcdI (absI c) (IntKind.u64.wrap b) = 0), true), (inU (IntKind.u64.wrap ((absI a).tdiv (gcdI (absI a) (IntKind.u64.wrap d)))) &&
  inU (IntKind.u64.wrap ((absI c).tdiv (gcdI (absI c) (IntKind.u64.wrap b)))), true), (!decide (gcdI (absI c) (IntKind.u64.wrap b) = 0), true), (!decide (gcdI (absI a) (IntKind.u64.wrap d) = 0), true), (inU (IntKind.u64.wrap ((IntKind.u64.wrap b).tdiv (gcdI (absI c) (IntKind.u64.wrap b)))) &&
  inU (IntKind.u64.wrap ((IntKind.u64.wrap d).tdiv (gcdI (absI a) (IntKind.u64.wrap d)))), true), (decide (a < 0), true), (decide (c < 0), false), (inU
    (IntKind.u64.wrap ((absI a).tdiv (gcdI (absI a) (IntKind.u64.wrap d))) *
        IntKind.u64.wrap ((absI c).tdiv (gcdI (absI c) (IntKind.u64.wrap b))) %
      18446744073709551616) &&
  inU
    (IntKind.u64.wrap ((IntKind.u64.wrap b).tdiv (gcdI (absI c) (IntKind.u64.wrap b))) *
        IntKind.u64.wrap ((IntKind.u64.wrap d).tdiv (gcdI (absI a) (IntKind.u64.wrap d))) %
      18446744073709551616), true), (fitB
  (IntKind.u64.wrap ((absI a).tdiv (gcdI (absI a) (IntKind.u64.wrap d))) *
      IntKind.u64.wrap ((absI c).tdiv (gcdI (absI c) (IntKind.u64.wrap b))) /
    18446744073709551616)
  (IntKind.u64.wrap ((absI a).tdiv (gcdI (absI a) (IntKind.u64.wrap d))) *
      IntKind.u64.wrap ((absI c).tdiv (gcdI (absI c) (IntKind.u64.wrap b))) %
    18446744073709551616), true), (fitB
  (IntKind.u64.wrap ((IntKind.u64.wrap b).tdiv (gcdI (absI c) (IntKind.u64.wrap b))) *
      IntKind.u64.wrap ((IntKind.u64.wrap d).tdiv (gcdI (absI a) (IntKind.u64.wrap d))) /
    18446744073709551616)
  (IntKind.u64.wrap ((IntKind.u64.wrap b).tdiv (gcdI (absI c) (IntKind.u64.wrap b))) *
      IntKind.u64.wrap ((IntKind.u64.wrap d).tdiv (gcdI (absI a) (IntKind.u64.wrap d))) %
    18446744073709551616), false)]
theorem w48_4_ok (a b c d : Int) (h : allB (w48_4 a b c d) = true) : (evFnT Try.prog (spOf [e36, e37, e38, e53]) (inlOf []) extD (cKD [e36, e37, e38, e53] []) (fun _ => .unroll 0) Try.f61 [.agg [.int .i64 a, .int .i64 b], .agg [.int .i64 c, .int .i64 d]] [] (fun r _ => .ofOpt (some r))).run = some (Res.pan : Res) := way (gs := [true, true, true, true, true, true, true, true, true, false, true, true, true, false]) (by kernel_rfl) h
def w48_5 (a b c d : Int) : List (Bool × Bool) := [(decide (-9223372036854775808 ≤ a) && decide (a < 9223372036854775808), true), (decide (0 ≤ absI a) && decide (0 ≤ IntKind.u64.wrap d), true), (decide (-9223372036854775808 ≤ c) && decide (c < 9223372036854775808), true), (decide (0 ≤ absI c) && decide (0 ≤ IntKind.u64.wrap b), true), (decide (-9223372036854775808 ≤ a) && decide (a < 9223372036854775808), true), (!decide (gcdI (absI a) (IntKind.u64.wrap d) = 0), true), (decide (-9223372036854775808 ≤ c) && decide (c < 9223372036854775808), true), (!decide (gcdI (absI c) (IntKind.u64.wrap b) = 0), true), (inU (IntKind.u64.wrap ((absI a).tdiv (gcdI (absI a) (IntKind.u64.wrap d)))) &&
  inU (IntKind.u64.wrap ((absI c).tdiv (gcdI (absI c) (IntKind.u64.wrap b)))), true), (!decide (gcdI (absI c) (IntKind.u64.wrap b) = 0), true), (!decide (gcdI (absI a) (IntKind.u64.wrap d) = 0), true), (inU (IntKind.u64.wrap ((IntKind.u64.wrap b).tdiv (gcdI (absI c) (IntKind.u64.wrap b)))) &&
  inU (IntKind.u64.wrap ((IntKind.u64.wrap d).tdiv (gcdI (absI a) (IntKind.u64.wrap d)))), true), (decide (a < 0), true), (decide (c < 0), false), (inU
    (IntKind.u64.wrap ((absI a).tdiv (gcdI (absI a) (IntKind.u64.wrap d))) *
        IntKind.u64.wrap ((absI c).tdiv (gcdI (absI c) (IntKind.u64.wrap b))) %
      18446744073709551616) &&
  inU
    (IntKind.u64.wrap ((IntKind.u64.wrap b).tdiv (gcdI (absI c) (IntKind.u64.wrap b))) *
        IntKind.u64.wrap ((IntKind.u64.wrap d).tdiv (gcdI (absI a) (IntKind.u64.wrap d))) %
      18446744073709551616), true), (fitB
  (IntKind.u64.wrap ((absI a).tdiv (gcdI (absI a) (IntKind.u64.wrap d))) *
      IntKind.u64.wrap ((absI c).tdiv (gcdI (absI c) (IntKind.u64.wrap b))) /
    18446744073709551616)
  (IntKind.u64.wrap ((absI a).tdiv (gcdI (absI a) (IntKind.u64.wrap d))) *
      IntKind.u64.wrap ((absI c).tdiv (gcdI (absI c) (IntKind.u64.wrap b))) %
    18446744073709551616), false)]
theorem w48_5_ok (a b c d : Int) (h : allB (w48_5 a b c d) = true) : (evFnT Try.prog (spOf [e36, e37, e38, e53]) (inlOf []) extD (cKD [e36, e37, e38, e53] []) (fun _ => .unroll 0) Try.f61 [.agg [.int .i64 a, .int .i64 b], .agg [.int .i64 c, .int .i64 d]] [] (fun r _ => .ofOpt (some r))).run = some (Res.pan : Res) := way (gs := [true, true, true, true, true, true, true, true, true, false, true, true, false]) (by kernel_rfl) h
def w48_6 (a b c d : Int) : List (Bool × Bool) := [(decide (-9223372036854775808 ≤ a) && decide (a < 9223372036854775808), true), (decide (0 ≤ absI a) && decide (0 ≤ IntKind.u64.wrap d), true), (decide (-9223372036854775808 ≤ c) && decide (c < 9223372036854775808), true), (decide (0 ≤ absI c) && decide (0 ≤ IntKind.u64.wrap b), true), (decide (-9223372036854775808 ≤ a) && decide (a < 9223372036854775808), true), (!decide (gcdI (absI a) (IntKind.u64.wrap d) = 0), true), (decide (-9223372036854775808 ≤ c) && decide (c < 9223372036854775808), true), (!decide (gcdI (absI c) (IntKind.u64.wrap b) = 0), true), (inU (IntKind.u64.wrap ((absI a).tdiv (gcdI (absI a) (IntKind.u64.wrap d)))) &&
  inU (IntKind.u64.wrap ((absI c).tdiv (gcdI (absI c) (IntKind.u64.wrap b)))), true), (!decide (gcdI (absI c) (IntKind.u64.wrap b) = 0), true), (!decide (gcdI (absI a) (IntKind.u64.wrap d) = 0), true), (inU (IntKind.u64.wrap ((IntKind.u64.wrap b).tdiv (gcdI (absI c) (IntKind.u64.wrap b)))) &&
  inU (IntKind.u64.wrap ((IntKind.u64.wrap d).tdiv (gcdI (absI a) (IntKind.u64.wrap d)))), true), (decide (a < 0), false), (decide (c < 0), true), (inU
    (IntKind.u64.wrap ((absI a).tdiv (gcdI (absI a) (IntKind.u64.wrap d))) *
        IntKind.u64.wrap ((absI c).tdiv (gcdI (absI c) (IntKind.u64.wrap b))) %
      18446744073709551616) &&
  inU
    (IntKind.u64.wrap ((IntKind.u64.wrap b).tdiv (gcdI (absI c) (IntKind.u64.wrap b))) *
        IntKind.u64.wrap ((IntKind.u64.wrap d).tdiv (gcdI (absI a) (IntKind.u64.wrap d))) %
      18446744073709551616), true), (fitB
  (IntKind.u64.wrap ((absI a).tdiv (gcdI (absI a) (IntKind.u64.wrap d))) *
      IntKind.u64.wrap ((absI c).tdiv (gcdI (absI c) (IntKind.u64.wrap b))) /
    18446744073709551616)
  (IntKind.u64.wrap ((absI a).tdiv (gcdI (absI a) (IntKind.u64.wrap d))) *
      IntKind.u64.wrap ((absI c).tdiv (gcdI (absI c) (IntKind.u64.wrap b))) %
    18446744073709551616), true), (fitB
  (IntKind.u64.wrap ((IntKind.u64.wrap b).tdiv (gcdI (absI c) (IntKind.u64.wrap b))) *
      IntKind.u64.wrap ((IntKind.u64.wrap d).tdiv (gcdI (absI a) (IntKind.u64.wrap d))) /
    18446744073709551616)
  (IntKind.u64.wrap ((IntKind.u64.wrap b).tdiv (gcdI (absI c) (IntKind.u64.wrap b))) *
      IntKind.u64.wrap ((IntKind.u64.wrap d).tdiv (gcdI (absI a) (IntKind.u64.wrap d))) %
    18446744073709551616), true)]
theorem w48_6_ok (a b c d : Int) (h : allB (w48_6 a b c d) = true) : (evFnT Try.prog (spOf [e36, e37, e38, e53]) (inlOf []) extD (cKD [e36, e37, e38, e53] []) (fun _ => .unroll 0) Try.f61 [.agg [.int .i64 a, .int .i64 b], .agg [.int .i64 c, .int .i64 d]] [] (fun r _ => .ofOpt (some r))).run = some (Res.ret
  (AV.agg
    [AV.int IntKind.i64
        (bif true then
          -(IntKind.u64.wrap ((absI a).tdiv (gcdI (absI a) (IntKind.u64.wrap d))) *
                IntKind.u64.wrap ((absI c).tdiv (gcdI (absI c) (IntKind.u64.wrap b))) %
              18446744073709551616)
        else
          IntKind.u64.wrap ((absI a).tdiv (gcdI (absI a) (IntKind.u64.wrap d))) *
              IntKind.u64.wrap ((absI c).tdiv (gcdI (absI c) (IntKind.u64.wrap b))) %
            18446744073709551616),
      AV.int IntKind.i64
        (IntKind.u64.wrap ((IntKind.u64.wrap b).tdiv (gcdI (absI c) (IntKind.u64.wrap b))) *
            IntKind.u64.wrap ((IntKind.u64.wrap d).tdiv (gcdI (absI a) (IntKind.u64.wrap d))) %
          18446744073709551616)]) : Res) := way (gs := [true, true, true, true, true, true, true, true, false, true, true, true, true, true]) (by kernel_rfl) h
def w48_7 (a b c d : Int) : List (Bool × Bool) := [(decide (-9223372036854775808 ≤ a) && decide (a < 9223372036854775808), true), (decide (0 ≤ absI a) && decide (0 ≤ IntKind.u64.wrap d), true), (decide (-9223372036854775808 ≤ c) && decide (c < 9223372036854775808), true), (decide (0 ≤ absI c) && decide (0 ≤ IntKind.u64.wrap b), true), (decide (-9223372036854775808 ≤ a) && decide (a < 9223372036854775808), true), (!decide (gcdI (absI a) (IntKind.u64.wrap d) = 0), true), (decide (-9223372036854775808 ≤ c) && decide (c < 9223372036854775808), true), (!decide (gcdI (absI c) (IntKind.u64.wrap b) = 0), true), (inU (IntKind.u64.wrap ((absI a).tdiv (gcdI (absI a) (IntKind.u64.wrap d)))) &&
  inU (IntKind.u64.wrap ((absI c).tdiv (gcdI (absI c) (IntKind.u64.wrap b)))), true), (!decide (gcdI (absI c) (IntKind.u64.wrap b) = 0), true), (!decide (gcdI (absI a) (IntKind.u64.wrap d) = 0), true), (inU (IntKind.u64.wrap ((IntKind.u64.wrap b).tdiv (gcdI (absI c) (IntKind.u64.wrap b)))) &&
  inU (IntKind.u64.wrap ((IntKind.u64.wrap d).tdiv (gcdI (absI a) (IntKind.u64.wrap d)))), true), (decide (a < 0), false), (decide (c < 0), true), (inU
    (IntKind.u64.wrap ((absI a).tdiv (gcdI (absI a) (IntKind.u64.wrap d))) *
        IntKind.u64.wrap ((absI c).tdiv (gcdI (absI c) (IntKind.u64.wrap b))) %
      18446744073709551616) &&
  inU
    (IntKind.u64.wrap ((IntKind.u64.wrap b).tdiv (gcdI (absI c) (IntKind.u64.wrap b))) *
        IntKind.u64.wrap ((IntKind.u64.wrap d).tdiv (gcdI (absI a) (IntKind.u64.wrap d))) %
      18446744073709551616), true), (fitB
  (IntKind.u64.wrap ((absI a).tdiv (gcdI (absI a) (IntKind.u64.wrap d))) *
      IntKind.u64.wrap ((absI c).tdiv (gcdI (absI c) (IntKind.u64.wrap b))) /
    18446744073709551616)
  (IntKind.u64.wrap ((absI a).tdiv (gcdI (absI a) (IntKind.u64.wrap d))) *
      IntKind.u64.wrap ((absI c).tdiv (gcdI (absI c) (IntKind.u64.wrap b))) %
    18446744073709551616), true), (fitB
  (IntKind.u64.wrap ((IntKind.u64.wrap b).tdiv (gcdI (absI c) (IntKind.u64.wrap b))) *
      IntKind.u64.wrap ((IntKind.u64.wrap d).tdiv (gcdI (absI a) (IntKind.u64.wrap d))) /
    18446744073709551616)
  (IntKind.u64.wrap ((IntKind.u64.wrap b).tdiv (gcdI (absI c) (IntKind.u64.wrap b))) *
      IntKind.u64.wrap ((IntKind.u64.wrap d).tdiv (gcdI (absI a) (IntKind.u64.wrap d))) %
    18446744073709551616), false)]
theorem w48_7_ok (a b c d : Int) (h : allB (w48_7 a b c d) = true) : (evFnT Try.prog (spOf [e36, e37, e38, e53]) (inlOf []) extD (cKD [e36, e37, e38, e53] []) (fun _ => .unroll 0) Try.f61 [.agg [.int .i64 a, .int .i64 b], .agg [.int .i64 c, .int .i64 d]] [] (fun r _ => .ofOpt (some r))).run = some (Res.pan : Res) := way (gs := [true, true, true, true, true, true, true, true, false, true, true, true, true, false]) (by kernel_rfl) h
def w48_8 (a b c d : Int) : List (Bool × Bool) := [(decide (-9223372036854775808 ≤ a) && decide (a < 9223372036854775808), true), (decide (0 ≤ absI a) && decide (0 ≤ IntKind.u64.wrap d), true), (decide (-9223372036854775808 ≤ c) && decide (c < 9223372036854775808), true), (decide (0 ≤ absI c) && decide (0 ≤ IntKind.u64.wrap b), true), (decide (-9223372036854775808 ≤ a) && decide (a < 9223372036854775808), true), (!decide (gcdI (absI a) (IntKind.u64.wrap d) = 0), true), (decide (-9223372036854775808 ≤ c) && decide (c < 9223372036854775808), true), (!decide (gcdI (absI c) (IntKind.u64.wrap b) = 0), true), (inU (IntKind.u64.wrap ((absI a).tdiv (gcdI (absI a) (IntKind.u64.wrap d)))) &&
  inU (IntKind.u64.wrap ((absI c).tdiv (gcdI (absI c) (IntKind.u64.wrap b)))), true), (!decide (gcdI (absI c) (IntKind.u64.wrap b) = 0), true), (!decide (gcdI (absI a) (IntKind.u64.wrap d) = 0), true), (inU (IntKind.u64.wrap ((IntKind.u64.wrap b).tdiv (gcdI (absI c) (IntKind.u64.wrap b)))) &&
  inU (IntKind.u64.wrap ((IntKind.u64.wrap d).tdiv (gcdI (absI a) (IntKind.u64.wrap d)))), true), (decide (a < 0), false), (decide (c < 0), true), (inU
    (IntKind.u64.wrap ((absI a).tdiv (gcdI (absI a) (IntKind.u64.wrap d))) *
        IntKind.u64.wrap ((absI c).tdiv (gcdI (absI c) (IntKind.u64.wrap b))) %
      18446744073709551616) &&
  inU
    (IntKind.u64.wrap ((IntKind.u64.wrap b).tdiv (gcdI (absI c) (IntKind.u64.wrap b))) *
        IntKind.u64.wrap ((IntKind.u64.wrap d).tdiv (gcdI (absI a) (IntKind.u64.wrap d))) %
      18446744073709551616), true), (fitB
  (IntKind.u64.wrap ((absI a).tdiv (gcdI (absI a) (IntKind.u64.wrap d))) *
      IntKind.u64.wrap ((absI c).tdiv (gcdI (absI c) (IntKind.u64.wrap b))) /
    18446744073709551616)
  (IntKind.u64.wrap ((absI a).tdiv (gcdI (absI a) (IntKind.u64.wrap d))) *
      IntKind.u64.wrap ((absI c).tdiv (gcdI (absI c) (IntKind.u64.wrap b))) %
    18446744073709551616), false)]
theorem w48_8_ok (a b c d : Int) (h : allB (w48_8 a b c d) = true) : (evFnT Try.prog (spOf [e36, e37, e38, e53]) (inlOf []) extD (cKD [e36, e37, e38, e53] []) (fun _ => .unroll 0) Try.f61 [.agg [.int .i64 a, .int .i64 b], .agg [.int .i64 c, .int .i64 d]] [] (fun r _ => .ofOpt (some r))).run = some (Res.pan : Res) := way (gs := [true, true, true, true, true, true, true, true, false, true, true, true, false]) (by kernel_rfl) h
def w48_9 (a b c d : Int) : List (Bool × Bool) := [(decide (-9223372036854775808 ≤ a) && decide (a < 9223372036854775808), true), (decide (0 ≤ absI a) && decide (0 ≤ IntKind.u64.wrap d), true), (decide (-9223372036854775808 ≤ c) && decide (c < 9223372036854775808), true), (decide (0 ≤ absI c) && decide (0 ≤ IntKind.u64.wrap b), true), (decide (-9223372036854775808 ≤ a) && decide (a < 9223372036854775808), true), (!decide (gcdI (absI a) (IntKind.u64.wrap d) = 0), true), (decide (-9223372036854775808 ≤ c) && decide (c < 9223372036854775808), true), (!decide (gcdI (absI c) (IntKind.u64.wrap b) = 0), true), (inU (IntKind.u64.wrap ((absI a).tdiv (gcdI (absI a) (IntKind.u64.wrap d)))) &&
  inU (IntKind.u64.wrap ((absI c).tdiv (gcdI (absI c) (IntKind.u64.wrap b)))), true), (!decide (gcdI (absI c) (IntKind.u64.wrap b) = 0), true), (!decide (gcdI (absI a) (IntKind.u64.wrap d) = 0), true), (inU (IntKind.u64.wrap ((IntKind.u64.wrap b).tdiv (gcdI (absI c) (IntKind.u64.wrap b)))) &&
  inU (IntKind.u64.wrap ((IntKind.u64.wrap d).tdiv (gcdI (absI a) (IntKind.u64.wrap d)))), true), (decide (a < 0), false), (decide (c < 0), false), (inU
    (IntKind.u64.wrap ((absI a).tdiv (gcdI (absI a) (IntKind.u64.wrap d))) *
        IntKind.u64.wrap ((absI c).tdiv (gcdI (absI c) (IntKind.u64.wrap b))) %
      18446744073709551616) &&
  inU
    (IntKind.u64.wrap ((IntKind.u64.wrap b).tdiv (gcdI (absI c) (IntKind.u64.wrap b))) *
        IntKind.u64.wrap ((IntKind.u64.wrap d).tdiv (gcdI (absI a) (IntKind.u64.wrap d))) %
      18446744073709551616), true), (fitB
  (IntKind.u64.wrap ((absI a).tdiv (gcdI (absI a) (IntKind.u64.wrap d))) *
      IntKind.u64.wrap ((absI c).tdiv (gcdI (absI c) (IntKind.u64.wrap b))) /
    18446744073709551616)
  (IntKind.u64.wrap ((absI a).tdiv (gcdI (absI a) (IntKind.u64.wrap d))) *
      IntKind.u64.wrap ((absI c).tdiv (gcdI (absI c) (IntKind.u64.wrap b))) %
    18446744073709551616), true), (fitB
  (IntKind.u64.wrap ((IntKind.u64.wrap b).tdiv (gcdI (absI c) (IntKind.u64.wrap b))) *
      IntKind.u64.wrap ((IntKind.u64.wrap d).tdiv (gcdI (absI a) (IntKind.u64.wrap d))) /
    18446744073709551616)
  (IntKind.u64.wrap ((IntKind.u64.wrap b).tdiv (gcdI (absI c) (IntKind.u64.wrap b))) *
      IntKind.u64.wrap ((IntKind.u64.wrap d).tdiv (gcdI (absI a) (IntKind.u64.wrap d))) %
    18446744073709551616), true)]
theorem w48_9_ok (a b c d : Int) (h : allB (w48_9 a b c d) = true) : (evFnT Try.prog (spOf [e36, e37, e38, e53]) (inlOf []) extD (cKD [e36, e37, e38, e53] []) (fun _ => .unroll 0) Try.f61 [.agg [.int .i64 a, .int .i64 b], .agg [.int .i64 c, .int .i64 d]] [] (fun r _ => .ofOpt (some r))).run = some (Res.ret
  (AV.agg
    [AV.int IntKind.i64
        (bif false then
          -(IntKind.u64.wrap ((absI a).tdiv (gcdI (absI a) (IntKind.u64.wrap d))) *
                IntKind.u64.wrap ((absI c).tdiv (gcdI (absI c) (IntKind.u64.wrap b))) %
              18446744073709551616)
        else
          IntKind.u64.wrap ((absI a).tdiv (gcdI (absI a) (IntKind.u64.wrap d))) *
              IntKind.u64.wrap ((absI c).tdiv (gcdI (absI c) (IntKind.u64.wrap b))) %
            18446744073709551616),
      AV.int IntKind.i64
        (IntKind.u64.wrap ((IntKind.u64.wrap b).tdiv (gcdI (absI c) (IntKind.u64.wrap b))) *
            IntKind.u64.wrap ((IntKind.u64.wrap d).tdiv (gcdI (absI a) (IntKind.u64.wrap d))) %
          18446744073709551616)]) : Res) := way (gs := [true, true, true, true, true, true, true, true, false, false, false, true, true, true]) (by kernel_rfl) h
def w48_10 (a b c d : Int) : List (Bool × Bool) := [(decide (-9223372036854775808 ≤ a) && decide (a < 9223372036854775808), true), (decide (0 ≤ absI a) && decide (0 ≤ IntKind.u64.wrap d), true), (decide (-9223372036854775808 ≤ c) && decide (c < 9223372036854775808), true), (decide (0 ≤ absI c) && decide (0 ≤ IntKind.u64.wrap b), true), (decide (-9223372036854775808 ≤ a) && decide (a < 9223372036854775808), true), (!decide (gcdI (absI a) (IntKind.u64.wrap d) = 0), true), (decide (-9223372036854775808 ≤ c) && decide (c < 9223372036854775808), true), (!decide (gcdI (absI c) (IntKind.u64.wrap b) = 0), true), (inU (IntKind.u64.wrap ((absI a).tdiv (gcdI (absI a) (IntKind.u64.wrap d)))) &&
  inU (IntKind.u64.wrap ((absI c).tdiv (gcdI (absI c) (IntKind.u64.wrap b)))), true), (!decide (gcdI (absI c) (IntKind.u64.wrap b) = 0), true), (!decide (gcdI (absI a) (IntKind.u64.wrap d) = 0), true), (inU (IntKind.u64.wrap ((IntKind.u64.wrap b).tdiv (gcdI (absI c) (IntKind.u64.wrap b)))) &&
  inU (IntKind.u64.wrap ((IntKind.u64.wrap d).tdiv (gcdI (absI a) (IntKind.u64.wrap d)))), true), (decide (a < 0), false), (decide (c < 0), false), (inU
    (IntKind.u64.wrap ((absI a).tdiv (gcdI (absI a) (IntKind.u64.wrap d))) *
        IntKind.u64.wrap ((absI c).tdiv (gcdI (absI c) (IntKind.u64.wrap b))) %
      18446744073709551616) &&
  inU
    (IntKind.u64.wrap ((IntKind.u64.wrap b).tdiv (gcdI (absI c) (IntKind.u64.wrap b))) *
        IntKind.u64.wrap ((IntKind.u64.wrap d).tdiv (gcdI (absI a) (IntKind.u64.wrap d))) %
      18446744073709551616), true), (fitB
  (IntKind.u64.wrap ((absI a).tdiv (gcdI (absI a) (IntKind.u64.wrap d))) *
      IntKind.u64.wrap ((absI c).tdiv (gcdI (absI c) (IntKind.u64.wrap b))) /
    18446744073709551616)
  (IntKind.u64.wrap ((absI a).tdiv (gcdI (absI a) (IntKind.u64.wrap d))) *
      IntKind.u64.wrap ((absI c).tdiv (gcdI (absI c) (IntKind.u64.wrap b))) %
    18446744073709551616), true), (fitB
  (IntKind.u64.wrap ((IntKind.u64.wrap b).tdiv (gcdI (absI c) (IntKind.u64.wrap b))) *
      IntKind.u64.wrap ((IntKind.u64.wrap d).tdiv (gcdI (absI a) (IntKind.u64.wrap d))) /
    18446744073709551616)
  (IntKind.u64.wrap ((IntKind.u64.wrap b).tdiv (gcdI (absI c) (IntKind.u64.wrap b))) *
      IntKind.u64.wrap ((IntKind.u64.wrap d).tdiv (gcdI (absI a) (IntKind.u64.wrap d))) %
    18446744073709551616), false)]
theorem w48_10_ok (a b c d : Int) (h : allB (w48_10 a b c d) = true) : (evFnT Try.prog (spOf [e36, e37, e38, e53]) (inlOf []) extD (cKD [e36, e37, e38, e53] []) (fun _ => .unroll 0) Try.f61 [.agg [.int .i64 a, .int .i64 b], .agg [.int .i64 c, .int .i64 d]] [] (fun r _ => .ofOpt (some r))).run = some (Res.pan : Res) := way (gs := [true, true, true, true, true, true, true, true, false, false, false, true, true, false]) (by kernel_rfl) h
def w48_11 (a b c d : Int) : List (Bool × Bool) := [(decide (-9223372036854775808 ≤ a) && decide (a < 9223372036854775808), true), (decide (0 ≤ absI a) && decide (0 ≤ IntKind.u64.wrap d), true), (decide (-9223372036854775808 ≤ c) && decide (c < 9223372036854775808), true), (decide (0 ≤ absI c) && decide (0 ≤ IntKind.u64.wrap b), true), (decide (-9223372036854775808 ≤ a) && decide (a < 9223372036854775808), true), (!decide (gcdI (absI a) (IntKind.u64.wrap d) = 0), true), (decide (-9223372036854775808 ≤ c) && decide (c < 9223372036854775808), true), (!decide (gcdI (absI c) (IntKind.u64.wrap b) = 0), true), (inU (IntKind.u64.wrap ((absI a).tdiv (gcdI (absI a) (IntKind.u64.wrap d)))) &&
  inU (IntKind.u64.wrap ((absI c).tdiv (gcdI (absI c) (IntKind.u64.wrap b)))), true), (!decide (gcdI (absI c) (IntKind.u64.wrap b) = 0), true), (!decide (gcdI (absI a) (IntKind.u64.wrap d) = 0), true), (inU (IntKind.u64.wrap ((IntKind.u64.wrap b).tdiv (gcdI (absI c) (IntKind.u64.wrap b)))) &&
  inU (IntKind.u64.wrap ((IntKind.u64.wrap d).tdiv (gcdI (absI a) (IntKind.u64.wrap d)))), true), (decide (a < 0), false), (decide (c < 0), false), (inU
    (IntKind.u64.wrap ((absI a).tdiv (gcdI (absI a) (IntKind.u64.wrap d))) *
        IntKind.u64.wrap ((absI c).tdiv (gcdI (absI c) (IntKind.u64.wrap b))) %
      18446744073709551616) &&
  inU
    (IntKind.u64.wrap ((IntKind.u64.wrap b).tdiv (gcdI (absI c) (IntKind.u64.wrap b))) *
        IntKind.u64.wrap ((IntKind.u64.wrap d).tdiv (gcdI (absI a) (IntKind.u64.wrap d))) %
      18446744073709551616), true), (fitB
  (IntKind.u64.wrap ((absI a).tdiv (gcdI (absI a) (IntKind.u64.wrap d))) *
      IntKind.u64.wrap ((absI c).tdiv (gcdI (absI c) (IntKind.u64.wrap b))) /
    18446744073709551616)
  (IntKind.u64.wrap ((absI a).tdiv (gcdI (absI a) (IntKind.u64.wrap d))) *
      IntKind.u64.wrap ((absI c).tdiv (gcdI (absI c) (IntKind.u64.wrap b))) %
    18446744073709551616), false)]
theorem w48_11_ok (a b c d : Int) (h : allB (w48_11 a b c d) = true) : (evFnT Try.prog (spOf [e36, e37, e38, e53]) (inlOf []) extD (cKD [e36, e37, e38, e53] []) (fun _ => .unroll 0) Try.f61 [.agg [.int .i64 a, .int .i64 b], .agg [.int .i64 c, .int .i64 d]] [] (fun r _ => .ofOpt (some r))).run = some (Res.pan : Res) := way (gs := [true, true, true, true, true, true, true, true, false, false, false, true, false]) (by kernel_rfl) h
end Go.Proofs.Ytebiafgcnmnacaa

/- The contract of Make. Conditions: none beyond the context's. -/
namespace Go.Proofs.Ytebiafgcnmnacaa
open Go.Evl Go.RowKit

theorem tree63 (a b : Int) : evFn Try.prog (spOf []) (inlOf []) extD (cKD [] []) (fun _ => .unroll 0) Try.f66 [.agg [.int .u64 a, .int .u64 b]] [] (fun r _ => some r) =
    (bif a != 0 then some Res.pan
    else
      bif decide (b > 1152921504606846976) then some Res.pan else some (Res.ret (AV.int IntKind.i64 (IntKind.i64.wrap b))) : Option Res) := by kernel_rfl
theorem tree38t (a b c d : Int) : evFn Try.prog (spOf [e63]) (inlOf []) extD (cKD [e63] []) (fun _ => .unroll 0) Try.f54 [.bool true, .agg [.int .u64 a, .int .u64 b], .agg [.int .u64 c, .int .u64 d]] [] (fun r _ => some r) =
    (bif inU b then
      bif fitB a b then
        bif inU d then
          bif fitB c d then some (Res.ret (AV.agg [AV.int IntKind.i64 (IntKind.i64.wrap (0 - b)), AV.int IntKind.i64 d]))
          else some Res.pan
        else none
      else some Res.pan
    else none : Option Res) := by kernel_rfl
theorem tree38f (a b c d : Int) : evFn Try.prog (spOf [e63]) (inlOf []) extD (cKD [e63] []) (fun _ => .unroll 0) Try.f54 [.bool false, .agg [.int .u64 a, .int .u64 b], .agg [.int .u64 c, .int .u64 d]] [] (fun r _ => some r) =
    (bif inU b then
      bif fitB a b then
        bif inU d then
          bif fitB c d then some (Res.ret (AV.agg [AV.int IntKind.i64 b, AV.int IntKind.i64 d])) else some Res.pan
        else none
      else some Res.pan
    else none : Option Res) := by kernel_rfl
theorem tree11 (a b : Int) : evFn Try.prog (spOf [e36, e37, e38]) (inlOf [50, 51]) extD (cKD [e36, e37, e38] [50, 51]) (fun _ => .unroll 0) Try.f32 [.int .i64 a, .int .i64 b] [] (fun r _ => some r) =
    (bif b == 0 then some (Res.ret (AV.tup [AV.agg [AV.int IntKind.i64 0, AV.int IntKind.i64 0], AV.int IntKind.i64 26]))
    else
      bif decide (-9223372036854775808 ≤ a) && decide (a < 9223372036854775808) then
        bif decide (-9223372036854775808 ≤ b) && decide (b < 9223372036854775808) then
          bif decide (0 ≤ absI a) && decide (0 ≤ absI b) then
            bif decide (a < 0) then
              bif decide (b < 0) then
                bif !decide (gcdI (absI a) (absI b) = 0) then
                  bif !decide (gcdI (absI a) (absI b) = 0) then
                    bif
                        inU (IntKind.u64.wrap ((absI a).tdiv (gcdI (absI a) (absI b)))) &&
                          inU (IntKind.u64.wrap ((absI b).tdiv (gcdI (absI a) (absI b)))) then
                      bif fitB 0 (IntKind.u64.wrap ((absI a).tdiv (gcdI (absI a) (absI b)))) then
                        bif fitB 0 (IntKind.u64.wrap ((absI b).tdiv (gcdI (absI a) (absI b)))) then
                          some
                            (Res.ret
                              (AV.tup
                                [AV.agg
                                    [AV.int IntKind.i64
                                        (bif false then -IntKind.u64.wrap ((absI a).tdiv (gcdI (absI a) (absI b)))
                                        else IntKind.u64.wrap ((absI a).tdiv (gcdI (absI a) (absI b)))),
                                      AV.int IntKind.i64 (IntKind.u64.wrap ((absI b).tdiv (gcdI (absI a) (absI b))))],
                                  AV.int IntKind.i64 0]))
                        else
                          some
                            (Res.ret (AV.tup [AV.agg [AV.int IntKind.i64 0, AV.int IntKind.i64 0], AV.int IntKind.i64 14]))
                      else
                        some (Res.ret (AV.tup [AV.agg [AV.int IntKind.i64 0, AV.int IntKind.i64 0], AV.int IntKind.i64 14]))
                    else none
                  else none
                else none
              else
                bif !decide (gcdI (absI a) (absI b) = 0) then
                  bif !decide (gcdI (absI a) (absI b) = 0) then
                    bif
                        inU (IntKind.u64.wrap ((absI a).tdiv (gcdI (absI a) (absI b)))) &&
                          inU (IntKind.u64.wrap ((absI b).tdiv (gcdI (absI a) (absI b)))) then
                      bif fitB 0 (IntKind.u64.wrap ((absI a).tdiv (gcdI (absI a) (absI b)))) then
                        bif fitB 0 (IntKind.u64.wrap ((absI b).tdiv (gcdI (absI a) (absI b)))) then
                          some
                            (Res.ret
                              (AV.tup
                                [AV.agg
                                    [AV.int IntKind.i64
                                        (bif true then -IntKind.u64.wrap ((absI a).tdiv (gcdI (absI a) (absI b)))
                                        else IntKind.u64.wrap ((absI a).tdiv (gcdI (absI a) (absI b)))),
                                      AV.int IntKind.i64 (IntKind.u64.wrap ((absI b).tdiv (gcdI (absI a) (absI b))))],
                                  AV.int IntKind.i64 0]))
                        else
                          some
                            (Res.ret (AV.tup [AV.agg [AV.int IntKind.i64 0, AV.int IntKind.i64 0], AV.int IntKind.i64 14]))
                      else
                        some (Res.ret (AV.tup [AV.agg [AV.int IntKind.i64 0, AV.int IntKind.i64 0], AV.int IntKind.i64 14]))
                    else none
                  else none
                else none
            else
              bif decide (b < 0) then
                bif !decide (gcdI (absI a) (absI b) = 0) then
                  bif !decide (gcdI (absI a) (absI b) = 0) then
                    bif
                        inU (IntKind.u64.wrap ((absI a).tdiv (gcdI (absI a) (absI b)))) &&
                          inU (IntKind.u64.wrap ((absI b).tdiv (gcdI (absI a) (absI b)))) then
                      bif fitB 0 (IntKind.u64.wrap ((absI a).tdiv (gcdI (absI a) (absI b)))) then
                        bif fitB 0 (IntKind.u64.wrap ((absI b).tdiv (gcdI (absI a) (absI b)))) then
                          some
                            (Res.ret
                              (AV.tup
                                [AV.agg
                                    [AV.int IntKind.i64
                                        (bif true then -IntKind.u64.wrap ((absI a).tdiv (gcdI (absI a) (absI b)))
                                        else IntKind.u64.wrap ((absI a).tdiv (gcdI (absI a) (absI b)))),
                                      AV.int IntKind.i64 (IntKind.u64.wrap ((absI b).tdiv (gcdI (absI a) (absI b))))],
                                  AV.int IntKind.i64 0]))
                        else
                          some
                            (Res.ret (AV.tup [AV.agg [AV.int IntKind.i64 0, AV.int IntKind.i64 0], AV.int IntKind.i64 14]))
                      else
                        some (Res.ret (AV.tup [AV.agg [AV.int IntKind.i64 0, AV.int IntKind.i64 0], AV.int IntKind.i64 14]))
                    else none
                  else none
                else none
              else
                bif !decide (gcdI (absI a) (absI b) = 0) then
                  bif !decide (gcdI (absI a) (absI b) = 0) then
                    bif
                        inU (IntKind.u64.wrap ((absI a).tdiv (gcdI (absI a) (absI b)))) &&
                          inU (IntKind.u64.wrap ((absI b).tdiv (gcdI (absI a) (absI b)))) then
                      bif fitB 0 (IntKind.u64.wrap ((absI a).tdiv (gcdI (absI a) (absI b)))) then
                        bif fitB 0 (IntKind.u64.wrap ((absI b).tdiv (gcdI (absI a) (absI b)))) then
                          some
                            (Res.ret
                              (AV.tup
                                [AV.agg
                                    [AV.int IntKind.i64
                                        (bif false then -IntKind.u64.wrap ((absI a).tdiv (gcdI (absI a) (absI b)))
                                        else IntKind.u64.wrap ((absI a).tdiv (gcdI (absI a) (absI b)))),
                                      AV.int IntKind.i64 (IntKind.u64.wrap ((absI b).tdiv (gcdI (absI a) (absI b))))],
                                  AV.int IntKind.i64 0]))
                        else
                          some
                            (Res.ret (AV.tup [AV.agg [AV.int IntKind.i64 0, AV.int IntKind.i64 0], AV.int IntKind.i64 14]))
                      else
                        some (Res.ret (AV.tup [AV.agg [AV.int IntKind.i64 0, AV.int IntKind.i64 0], AV.int IntKind.i64 14]))
                    else none
                  else none
                else none
          else none
        else none
      else none : Option Res) := by kernel_rfl
theorem inI_iff {x : Int} : inI x = true ↔ -9223372036854775808 ≤ x ∧ x < 9223372036854775808 := by simp [inI]
theorem fitB_iff {a b : Int} : fitB a b = true ↔ a = 0 ∧ b ≤ 1152921504606846976 := by simp [fitB]
theorem e63_ok : SpecHolds Try.prog InvD 66 fun a => (e63.2 a).run := by
  refine specD cx0 Try.func66 (c := codeOf Try.prog 66) (by kernel_rfl) (fun _ => .unroll 0) (fun _ _ => trivial) fun args r h => ?_
  simp only [e63] at h
  split at h
  · rename_i a b
    refine ⟨by kernel_rfl, tr_ok (by rfl) h, ?_⟩
    rw [tree63]
    rcases node_run h with ⟨hc, h⟩ | ⟨_, h⟩
    · rw [inU_iff] at hc
      rw [← h]
      simp only [Tr.run]
      cases hf : fitB a b with
      | true =>
        obtain ⟨rfl, hb⟩ := fitB_iff.1 hf
        have h1 : decide (b > 1152921504606846976) = false := by simp; omega
        have h0 : ((0 : Int) != 0) = false := rfl
        rw [h0, h1, wrapI (by omega) (by omega)]; rfl
      | false =>
        have hn : ¬ (a = 0 ∧ b ≤ 1152921504606846976) := fun hx => by rw [fitB_iff.2 hx] at hf; cases hf
        by_cases ha : a = 0
        · subst ha
          have h1 : decide (b > 1152921504606846976) = true := by simp; omega
          rw [h1]; rfl
        · have h0 : (a != 0) = true := by simp [ha]
          rw [h0]; rfl
    · simp [Tr.run] at h
  · simp [Tr.run] at h
theorem cx38 : (mkCx Try.prog (spOf [e63]) (inlOf []) extD).Ok InvD := cx_of [] (by kernel_rfl) (by
  intro p hp
  simp only [List.mem_cons, List.not_mem_nil, or_false] at hp
  subst hp
  exact e63_ok)
theorem e38_ok : SpecHolds Try.prog InvD 54 fun a => (e38.2 a).run := by
  refine specD cx38 Try.func54 (c := codeOf Try.prog 54) (by kernel_rfl) (fun _ => .unroll 0) (fun _ _ => trivial) fun args r h => ?_
  simp only [e38] at h
  split at h
  · rename_i n a b c d
    refine ⟨by kernel_rfl, tr_ok (by rfl) h, ?_⟩
    rcases node_run h with ⟨hc, h⟩ | ⟨_, h⟩
    · simp only [Bool.and_eq_true] at hc
      rw [← h]
      simp only [Tr.run]
      have hb := inU_iff.1 hc.1
      cases n with
      | true =>
        rw [tree38t, hc.1, hc.2]
        cases hf : fitB a b with
        | false => rfl
        | true =>
          obtain ⟨_, hb2⟩ := fitB_iff.1 hf
          rw [wrapI (x := 0 - b) (by omega) (by omega), Int.zero_sub]
          cases fitB c d <;> rfl
      | false =>
        rw [tree38f, hc.1, hc.2]
        cases fitB a b <;> cases fitB c d <;> rfl
    · simp [Tr.run] at h
  · simp [Tr.run] at h
theorem cx11 : (mkCx Try.prog (spOf [e36, e37, e38]) (inlOf [50, 51]) extD).Ok InvD := cx_of [50, 51] (by kernel_rfl) (by
  intro p hp
  simp only [List.mem_cons, List.not_mem_nil, or_false] at hp
  rcases hp with rfl | rfl | rfl
  · exact e36_ok
  · exact e37_ok
  · exact e38_ok)
theorem mkG_pos {a b : Int} (hb : b ≠ 0) : 1 ≤ mkG a b := by
  unfold mkG
  rw [gcdI_of (absI_pos a) (absI_pos b), absI_natAbs, absI_natAbs]
  have : 0 < Nat.gcd a.natAbs b.natAbs := Nat.gcd_pos_of_pos_right _ (by omega)
  omega
theorem mkA_range {a b : Int} (hb : b ≠ 0) : 0 ≤ mkA a b ∧ mkA a b ≤ absI a := by
  have hg := mkG_pos (a := a) hb
  exact ⟨Int.ediv_nonneg (absI_pos a) (by omega), Int.ediv_le_self _ (absI_pos a)⟩
theorem mkD_range {a b : Int} (hb : b ≠ 0) : 0 ≤ mkD a b ∧ mkD a b ≤ absI b := by
  have hg := mkG_pos (a := a) hb
  exact ⟨Int.ediv_nonneg (absI_pos b) (by omega), Int.ediv_le_self _ (absI_pos b)⟩
theorem make11 (a b : Int) (ha : -9223372036854775808 ≤ a ∧ a < 9223372036854775808) (hb : -9223372036854775808 ≤ b ∧ b < 9223372036854775808) :
    evFn Try.prog (spOf [e36, e37, e38]) (inlOf [50, 51]) extD (cKD [e36, e37, e38] [50, 51]) (fun _ => .unroll 0) Try.f32 [.int .i64 a, .int .i64 b] [] (fun r _ => some r) =
    bif decide (b = 0) then some (.ret (.tup [.agg [.int .i64 0, .int .i64 0], .int .i64 26]))
    else bif mkFits a b then some (.ret (.tup [.agg [.int .i64 (mkN a b), .int .i64 (mkD a b)], .int .i64 0])) else some (.ret (.tup [.agg [.int .i64 0, .int .i64 0], .int .i64 14])) := by
  rw [tree11]
  by_cases h0 : b = 0
  · subst h0; rfl
  have hb0 : (b == 0) = false := beq_false_of_ne h0
  have e1 : (decide (-9223372036854775808 ≤ a) && decide (a < 9223372036854775808)) = true := by simp; omega
  have e2 : (decide (-9223372036854775808 ≤ b) && decide (b < 9223372036854775808)) = true := by simp; omega
  have e3 : (decide (0 ≤ absI a) && decide (0 ≤ absI b)) = true := by simp [absI_pos]
  have hg := mkG_pos (a := a) h0
  obtain ⟨a0, a1⟩ := mkA_range (a := a) h0
  obtain ⟨d0, d1⟩ := mkD_range (a := a) h0
  have hA : absI a ≤ 9223372036854775808 := by rw [absI_eq]; omega
  have hB : absI b ≤ 9223372036854775808 := by rw [absI_eq]; omega
  have e4 : (!decide (gcdI (absI a) (absI b) = 0)) = true := by
    have : gcdI (absI a) (absI b) = mkG a b := rfl
    rw [this]; simp; omega
  have t1 : IntKind.u64.wrap ((absI a).tdiv (gcdI (absI a) (absI b))) = mkA a b := by
    rw [Int.tdiv_eq_ediv_of_nonneg (absI_pos a)]
    show IntKind.u64.wrap (mkA a b) = _
    exact wrapU a0 (by omega)
  have t2 : IntKind.u64.wrap ((absI b).tdiv (gcdI (absI a) (absI b))) = mkD a b := by
    rw [Int.tdiv_eq_ediv_of_nonneg (absI_pos b)]
    show IntKind.u64.wrap (mkD a b) = _
    exact wrapU d0 (by omega)
  rw [t1, t2]
  have e5 : (inU (mkA a b) && inU (mkD a b)) = true := by
    rw [Bool.and_eq_true, inU_iff, inU_iff]; omega
  have f1 : fitB 0 (mkA a b) = decide (mkA a b ≤ 1152921504606846976) := by simp [fitB]
  have f2 : fitB 0 (mkD a b) = decide (mkD a b ≤ 1152921504606846976) := by simp [fitB]
  simp only [hb0, h0, e1, e2, e3, e4, e5, f1, f2, cond_true, cond_false, decide_false]
  unfold mkFits mkN
  cases decide (a < 0) <;> cases decide (b < 0) <;> cases decide (mkA a b ≤ 1152921504606846976) <;> cases decide (mkD a b ≤ 1152921504606846976) <;> rfl
theorem e11_ok : SpecHolds Try.prog InvD 32 fun a => (e11.2 a).run := by
  refine specD cx11 Try.func32 (c := codeOf Try.prog 32) (by kernel_rfl) (fun _ => .unroll 0) (fun _ _ => trivial) fun args r h => ?_
  simp only [e11] at h
  split at h
  · rename_i a b
    refine ⟨by kernel_rfl, tr_ok (by rfl) h, ?_⟩
    rcases node_run h with ⟨hc, h⟩ | ⟨_, h⟩
    · simp only [Bool.and_eq_true, inI_iff] at hc
      rw [make11 a b hc.1 hc.2]
      exact h
    · simp [Tr.run] at h
  · simp [Tr.run] at h
end Go.Proofs.Ytebiafgcnmnacaa

/- Contracts of sum and multiple. Conditions: none beyond the context's. -/
namespace Go.Proofs.Ytebiafgcnmnacaa
open Go.Evl Go.RowKit

def e46 : Ent := ⟨59, fun
  | [.agg [.int .i64 a, .int .i64 b], .agg [.int .i64 c, .int .i64 d]] => .chk (okB a b && okB c d) (.node (mkFits (a * d + c * b) (b * d)) (.leaf (.ret (.agg [.int .i64 (mkN (a * d + c * b) (b * d)), .int .i64 (mkD (a * d + c * b) (b * d))]))) (.leaf .pan))
  | _ => .non⟩
def e48 : Ent := ⟨61, fun
  | [.agg [.int .i64 a, .int .i64 b], .agg [.int .i64 c, .int .i64 d]] => .chk (okB a b && okB c d) (.node (mkFits (a * c) (b * d)) (.leaf (.ret (.agg [.int .i64 (mkN (a * c) (b * d)), .int .i64 (mkD (a * c) (b * d))]))) (.leaf .pan))
  | _ => .non⟩
theorem chk_run {α : Type} {b : Bool} {x : Tr α} {r : α} (h : (Tr.chk b x).run = some r) : b = true ∧ x.run = some r := by
  cases b with
  | true => exact ⟨rfl, h⟩
  | false => simp [Tr.run] at h
theorem mkN_neg {n m : Int} (hm : 0 < m) (hn : n ≤ 0) : mkN n m = -mkA n m := by
  unfold mkN
  have h2 : decide (m < 0) = false := by simp; omega
  rw [h2]
  by_cases h : n < 0
  · rw [decide_eq_true h]; rfl
  · have : n = 0 := by omega
    subst this
    have : mkA 0 m = 0 := by unfold mkA; rw [absI_eq]; simp
    rw [this]; rfl
theorem mkN_pos {n m : Int} (hm : 0 < m) (hn : 0 ≤ n) : mkN n m = mkA n m := by
  unfold mkN
  have h2 : decide (m < 0) = false := by simp; omega
  have h1 : decide (n < 0) = false := by simp; omega
  rw [h1, h2]; rfl
theorem fit_of {p : Int} (h : 0 ≤ p) : fitB (p / 18446744073709551616) (p % 18446744073709551616) = decide (p ≤ 1152921504606846976) := by
  rw [Bool.eq_iff_iff, fitB_iff, decide_eq_true_eq]; omega
theorem inU_mod (p : Int) : inU (p % 18446744073709551616) = true := by rw [inU_iff]; omega
theorem quo_pos {x p q : Int} (h : q * p = x) (hx : 0 < x) (hp : 0 < p) : 0 < q := by
  rcases Int.lt_or_le 0 q with h' | h'
  · exact h'
  · have := Int.mul_nonpos_of_nonpos_of_nonneg h' (show 0 ≤ p by omega); omega
theorem quo_le {x p q : Int} (h : q * p = x) (hx : 0 ≤ x) (hp : 0 < p) : 0 ≤ q ∧ q ≤ x := by
  have hq : 0 ≤ q := by
    rcases Int.lt_or_le q 0 with h' | h'
    · have := Int.mul_neg_of_neg_of_pos h' hp; omega
    · exact h'
  refine ⟨hq, ?_⟩
  have : q * 1 ≤ q * p := Int.mul_le_mul_of_nonneg_left (by omega) hq
  omega
theorem cx48 : (mkCx Try.prog (spOf [e36, e37, e38, e53]) (inlOf []) extD).Ok InvD := cx_of [] (by kernel_rfl) (by
  intro p hp
  simp only [List.mem_cons, List.not_mem_nil, or_false] at hp
  rcases hp with rfl | rfl | rfl | rfl
  · exact e36_ok
  · exact e37_ok
  · exact e38_ok
  · exact e53_ok)
theorem mul48 {a b c d : Int} (hok : okB a b = true) (hok2 : okB c d = true) : (evFnT Try.prog (spOf [e36, e37, e38, e53]) (inlOf []) extD (cKD [e36, e37, e38, e53] []) (fun _ => .unroll 0) Try.f61 [.agg [.int .i64 a, .int .i64 b], .agg [.int .i64 c, .int .i64 d]] [] (fun r _ => .ofOpt (some r))).run =
    (bif mkFits (a * c) (b * d) then some (.ret (.agg [.int .i64 (mkN (a * c) (b * d)), .int .i64 (mkD (a * c) (b * d))])) else some .pan) := by
  obtain ⟨h1, h2, h3, h4, h5⟩ := okB_iff.1 hok
  obtain ⟨k1, k2, k3, k4, k5⟩ := okB_iff.1 hok2
  obtain ⟨l1, l2, l3, l4, l5, l6, l7, l8⟩ := mul_law h1 k1 h5 k5
  have hm : 0 < b * d := Int.mul_pos (by omega) (by omega)
  have wb : IntKind.u64.wrap b = b := wrapU (by omega) (by omega)
  have wd : IntKind.u64.wrap d = d := wrapU (by omega) (by omega)
  have hA0 := absI_nonneg a
  have hC0 := absI_nonneg c
  have hA1 : absI a ≤ 1152921504606846976 := by rw [absI_eq]; omega
  have hC1 : absI c ≤ 1152921504606846976 := by rw [absI_eq]; omega
  have hf : mkFits (a * c) (b * d) = (decide (mkA (a * c) (b * d) ≤ 1152921504606846976) && decide (mkD (a * c) (b * d) ≤ 1152921504606846976)) := rfl
  have sgn : ∀ (x y : Bool), decide (a < 0) = x → decide (c < 0) = y → mkN (a * c) (b * d) = bif (x != y) then -mkA (a * c) (b * d) else mkA (a * c) (b * d) := by
    intro x y hx hy
    by_cases ha : a < 0 <;> by_cases hc : c < 0 <;> simp only [ha, hc, decide_true, decide_false] at hx hy <;> subst hx hy
    · exact mkN_pos hm (by have := Int.mul_pos_of_neg_of_neg ha hc; omega)
    · exact mkN_neg hm (Int.mul_nonpos_of_nonpos_of_nonneg (by omega) (by omega))
    · exact mkN_neg hm (Int.mul_nonpos_of_nonneg_of_nonpos (by omega) (by omega))
    · exact mkN_pos hm (Int.mul_nonneg (by omega) (by omega))
  rw [hf]
  generalize hmN : mkN (a * c) (b * d) = N at *
  rw [l7, l8] at *
  generalize hP : gcdI (absI a) d = P at *
  generalize hQ : gcdI (absI c) b = Q at *
  have tA : (absI a).tdiv P = absI a / P := Int.tdiv_eq_ediv_of_nonneg hA0
  have tC : (absI c).tdiv Q = absI c / Q := Int.tdiv_eq_ediv_of_nonneg hC0
  have tB : b.tdiv Q = b / Q := Int.tdiv_eq_ediv_of_nonneg (by omega)
  have tD : d.tdiv P = d / P := Int.tdiv_eq_ediv_of_nonneg (by omega)
  generalize hA' : absI a / P = A' at *
  generalize hC' : absI c / Q = C' at *
  generalize hB' : b / Q = B' at *
  generalize hD' : d / P = D' at *
  obtain ⟨a0, a1⟩ := quo_le l3 hA0 l1
  obtain ⟨c0, c1⟩ := quo_le l5 hC0 l2
  obtain ⟨b0, b1⟩ := quo_le l6 (by omega) l2
  obtain ⟨d0, d1⟩ := quo_le l4 (by omega) l1
  have wA : IntKind.u64.wrap A' = A' := wrapU a0 (by omega)
  have wC : IntKind.u64.wrap C' = C' := wrapU c0 (by omega)
  have wB : IntKind.u64.wrap B' = B' := wrapU b0 (by omega)
  have wD : IntKind.u64.wrap D' = D' := wrapU d0 (by omega)
  have f1 : (decide (-9223372036854775808 ≤ a) && decide (a < 9223372036854775808)) = true := by simp; omega
  have f2 : (decide (-9223372036854775808 ≤ c) && decide (c < 9223372036854775808)) = true := by simp; omega
  have f3 : (decide (0 ≤ absI a) && decide (0 ≤ d)) = true := by simp; omega
  have f4 : (decide (0 ≤ absI c) && decide (0 ≤ b)) = true := by simp; omega
  have f5 : (!decide (P = 0)) = true := by simp; omega
  have f6 : (!decide (Q = 0)) = true := by simp; omega
  have f7 : (inU A' && inU C') = true := by simp only [Bool.and_eq_true, inU_iff]; omega
  have f8 : (inU B' && inU D') = true := by simp only [Bool.and_eq_true, inU_iff]; omega
  have p0 : 0 ≤ A' * C' := Int.mul_nonneg a0 c0
  have q0 : 0 ≤ B' * D' := Int.mul_nonneg b0 d0
  have fn := fit_of p0
  have fd := fit_of q0
  generalize hp : A' * C' = p at *
  generalize hq : B' * D' = q at *
  by_cases hn : p ≤ 1152921504606846976
  · by_cases hdn : q ≤ 1152921504606846976
    · have ep : p % 18446744073709551616 = p := by omega
      have eq : q % 18446744073709551616 = q := by omega
      rw [decide_eq_true hn] at fn ⊢
      rw [decide_eq_true hdn] at fd ⊢
      by_cases ha : a < 0 <;> by_cases hc : c < 0
      · have ea := decide_eq_true ha
        have ec := decide_eq_true hc
        rw [w48_0_ok a b c d (by simp only [w48_0, allB, wb, wd, hP, hQ, tA, tB, tC, tD, wA, wB, wC, wD, f1, f2, f3, f4, f5, f6, f7, f8, hp, hq, inU_mod, fn, fd, ea, ec, Bool.and_self])]
        have es := sgn _ _ ea ec
        simp only [wb, wd, hP, hQ, tA, tB, tC, tD, wA, wB, wC, wD, hp, hq, ep, eq, es]
        rfl
      · have ea := decide_eq_true ha
        have ec := decide_eq_false hc
        rw [w48_3_ok a b c d (by simp only [w48_3, allB, wb, wd, hP, hQ, tA, tB, tC, tD, wA, wB, wC, wD, f1, f2, f3, f4, f5, f6, f7, f8, hp, hq, inU_mod, fn, fd, ea, ec, Bool.and_self, Bool.not_false])]
        have es := sgn _ _ ea ec
        simp only [wb, wd, hP, hQ, tA, tB, tC, tD, wA, wB, wC, wD, hp, hq, ep, eq, es]
        rfl
      · have ea := decide_eq_false ha
        have ec := decide_eq_true hc
        rw [w48_6_ok a b c d (by simp only [w48_6, allB, wb, wd, hP, hQ, tA, tB, tC, tD, wA, wB, wC, wD, f1, f2, f3, f4, f5, f6, f7, f8, hp, hq, inU_mod, fn, fd, ea, ec, Bool.and_self, Bool.not_false])]
        have es := sgn _ _ ea ec
        simp only [wb, wd, hP, hQ, tA, tB, tC, tD, wA, wB, wC, wD, hp, hq, ep, eq, es]
        rfl
      · have ea := decide_eq_false ha
        have ec := decide_eq_false hc
        rw [w48_9_ok a b c d (by simp only [w48_9, allB, wb, wd, hP, hQ, tA, tB, tC, tD, wA, wB, wC, wD, f1, f2, f3, f4, f5, f6, f7, f8, hp, hq, inU_mod, fn, fd, ea, ec, Bool.and_self, Bool.not_false])]
        have es := sgn _ _ ea ec
        simp only [wb, wd, hP, hQ, tA, tB, tC, tD, wA, wB, wC, wD, hp, hq, ep, eq, es]
        rfl
    · rw [decide_eq_true hn] at fn ⊢
      rw [decide_eq_false hdn] at fd ⊢
      by_cases ha : a < 0 <;> by_cases hc : c < 0
      · have ea := decide_eq_true ha
        have ec := decide_eq_true hc
        rw [w48_1_ok a b c d (by simp only [w48_1, allB, wb, wd, hP, hQ, tA, tB, tC, tD, wA, wB, wC, wD, f1, f2, f3, f4, f5, f6, f7, f8, hp, hq, inU_mod, fn, fd, ea, ec, Bool.and_self, Bool.not_false])]
        first | rfl | (cases decide (q ≤ 1152921504606846976) <;> rfl)
      · have ea := decide_eq_true ha
        have ec := decide_eq_false hc
        rw [w48_4_ok a b c d (by simp only [w48_4, allB, wb, wd, hP, hQ, tA, tB, tC, tD, wA, wB, wC, wD, f1, f2, f3, f4, f5, f6, f7, f8, hp, hq, inU_mod, fn, fd, ea, ec, Bool.and_self, Bool.not_false])]
        first | rfl | (cases decide (q ≤ 1152921504606846976) <;> rfl)
      · have ea := decide_eq_false ha
        have ec := decide_eq_true hc
        rw [w48_7_ok a b c d (by simp only [w48_7, allB, wb, wd, hP, hQ, tA, tB, tC, tD, wA, wB, wC, wD, f1, f2, f3, f4, f5, f6, f7, f8, hp, hq, inU_mod, fn, fd, ea, ec, Bool.and_self, Bool.not_false])]
        first | rfl | (cases decide (q ≤ 1152921504606846976) <;> rfl)
      · have ea := decide_eq_false ha
        have ec := decide_eq_false hc
        rw [w48_10_ok a b c d (by simp only [w48_10, allB, wb, wd, hP, hQ, tA, tB, tC, tD, wA, wB, wC, wD, f1, f2, f3, f4, f5, f6, f7, f8, hp, hq, inU_mod, fn, fd, ea, ec, Bool.and_self, Bool.not_false])]
        first | rfl | (cases decide (q ≤ 1152921504606846976) <;> rfl)
  · rw [decide_eq_false hn] at fn ⊢
    by_cases ha : a < 0 <;> by_cases hc : c < 0
    · have ea := decide_eq_true ha
      have ec := decide_eq_true hc
      rw [w48_2_ok a b c d (by simp only [w48_2, allB, wb, wd, hP, hQ, tA, tB, tC, tD, wA, wB, wC, wD, f1, f2, f3, f4, f5, f6, f7, f8, hp, hq, inU_mod, fn, ea, ec, Bool.and_self, Bool.not_false])]
      first | rfl | (cases decide (q ≤ 1152921504606846976) <;> rfl)
    · have ea := decide_eq_true ha
      have ec := decide_eq_false hc
      rw [w48_5_ok a b c d (by simp only [w48_5, allB, wb, wd, hP, hQ, tA, tB, tC, tD, wA, wB, wC, wD, f1, f2, f3, f4, f5, f6, f7, f8, hp, hq, inU_mod, fn, ea, ec, Bool.and_self, Bool.not_false])]
      first | rfl | (cases decide (q ≤ 1152921504606846976) <;> rfl)
    · have ea := decide_eq_false ha
      have ec := decide_eq_true hc
      rw [w48_8_ok a b c d (by simp only [w48_8, allB, wb, wd, hP, hQ, tA, tB, tC, tD, wA, wB, wC, wD, f1, f2, f3, f4, f5, f6, f7, f8, hp, hq, inU_mod, fn, ea, ec, Bool.and_self, Bool.not_false])]
      first | rfl | (cases decide (q ≤ 1152921504606846976) <;> rfl)
    · have ea := decide_eq_false ha
      have ec := decide_eq_false hc
      rw [w48_11_ok a b c d (by simp only [w48_11, allB, wb, wd, hP, hQ, tA, tB, tC, tD, wA, wB, wC, wD, f1, f2, f3, f4, f5, f6, f7, f8, hp, hq, inU_mod, fn, ea, ec, Bool.and_self, Bool.not_false])]
      first | rfl | (cases decide (q ≤ 1152921504606846976) <;> rfl)
theorem e48_ok : SpecHolds Try.prog InvD 61 fun a => (e48.2 a).run := by
  refine specD cx48 Try.func61 (c := codeOf Try.prog 61) (by kernel_rfl) (fun _ => .unroll 0) (fun _ _ => trivial) fun args r h => ?_
  simp only [e48] at h
  split at h
  · rename_i a b c d
    obtain ⟨hc, h⟩ := chk_run h
    simp only [Bool.and_eq_true] at hc
    refine ⟨by kernel_rfl, tr_ok (by rfl) h, ?_⟩
    show (evFnT Try.prog (spOf [e36, e37, e38, e53]) (inlOf []) extD (cKD [e36, e37, e38, e53] []) (fun _ => .unroll 0) Try.f61 [.agg [.int .i64 a, .int .i64 b], .agg [.int .i64 c, .int .i64 d]] [] (fun r _ => .ofOpt (some r))).run = some r
    rw [mul48 hc.1 hc.2]
    exact h
  · simp [Tr.run] at h
end Go.Proofs.Ytebiafgcnmnacaa

/- The contract of sum. Conditions: none beyond the context's. -/
namespace Go.Proofs.Ytebiafgcnmnacaa
open Go.Evl Go.RowKit

theorem wV_split (p : Int) : wV (p / 18446744073709551616) (p % 18446744073709551616) = p := by unfold wV; omega
theorem head46 {a b c d : Int} (hok : okB a b = true) (hok2 : okB c d = true) : ∃ (ng : Bool) (p1 p0 q1 q0 n : Int),
    (evPart Try.prog (spOf [e36, e37, e38, e53, e54, e65, e66, e67, e68]) (inlOf []) extD (cKD [e36, e37, e38, e53, e54, e65, e66, e67, e68] []) lp46 7 (codeOf Try.prog 59) keep46 ⟨frame0 Try.f59 [.agg [.int .i64 a, .int .i64 b], .agg [.int .i64 c, .int .i64 d]], []⟩).run =
      some (.normal, [.ptr 0 0, .ptr 1 0, .ptr 2 0, .int .u64 (gcdI b d), .bool ng, .ptr 23 0], heap46 a b c d p1 p0 q1 q0 (n / 18446744073709551616) (n % 18446744073709551616)) ∧
    n = absI (a * (d / gcdI b d) + c * (b / gcdI b d)) ∧ n ≤ 2658455991569831745807614120560689152 ∧ (ng = true → a * (d / gcdI b d) + c * (b / gcdI b d) ≤ 0) ∧ (ng = false → 0 ≤ a * (d / gcdI b d) + c * (b / gcdI b d)) := by
  obtain ⟨h1, h2, h3, h4, h5⟩ := okB_iff.1 hok
  obtain ⟨k1, k2, k3, k4, k5⟩ := okB_iff.1 hok2
  obtain ⟨l1, l2, l3, _, _, _, _, _⟩ := sum_law h1 k1 h5 k5 _ rfl
  have wb : IntKind.u64.wrap b = b := wrapU (by omega) (by omega)
  have wd : IntKind.u64.wrap d = d := wrapU (by omega) (by omega)
  have hA0 := absI_nonneg a
  have hC0 := absI_nonneg c
  have hA1 : absI a ≤ 1152921504606846976 := by rw [absI_eq]; omega
  have hC1 : absI c ≤ 1152921504606846976 := by rw [absI_eq]; omega
  generalize hG : gcdI b d = G at *
  have tB : b.tdiv G = b / G := Int.tdiv_eq_ediv_of_nonneg (by omega)
  have tD : d.tdiv G = d / G := Int.tdiv_eq_ediv_of_nonneg (by omega)
  generalize hB' : b / G = B' at *
  generalize hD' : d / G = D' at *
  obtain ⟨b0, b1⟩ := quo_le l2 (by omega) l1
  obtain ⟨d0, d1⟩ := quo_le l3 (by omega) l1
  have wB : IntKind.u64.wrap B' = B' := wrapU b0 (by omega)
  have wD : IntKind.u64.wrap D' = D' := wrapU d0 (by omega)
  have f1 : (decide (-9223372036854775808 ≤ a) && decide (a < 9223372036854775808)) = true := by simp; omega
  have f2 : (decide (-9223372036854775808 ≤ c) && decide (c < 9223372036854775808)) = true := by simp; omega
  have f3 : (decide (0 ≤ b) && decide (0 ≤ d)) = true := by simp; omega
  have f5 : (!decide (G = 0)) = true := by simp; omega
  have f7 : (inU (absI a) && inU D') = true := by simp only [Bool.and_eq_true, inU_iff]; omega
  have f8 : (inU (absI c) && inU B') = true := by simp only [Bool.and_eq_true, inU_iff]; omega
  have p0 : 0 ≤ absI a * D' := Int.mul_nonneg hA0 d0
  have q0 : 0 ≤ absI c * B' := Int.mul_nonneg hC0 b0
  have p1 : absI a * D' ≤ 1152921504606846976 * 1152921504606846976 := Int.le_trans (Int.mul_le_mul_of_nonneg_right hA1 d0) (Int.mul_le_mul_of_nonneg_left (by omega) (by omega))
  have q1 : absI c * B' ≤ 1152921504606846976 * 1152921504606846976 := Int.le_trans (Int.mul_le_mul_of_nonneg_right hC1 b0) (Int.mul_le_mul_of_nonneg_left (by omega) (by omega))
  have ap : a < 0 → a * D' = -(absI a * D') := fun h => by rw [absI_eq, show ((a.natAbs : Nat) : Int) = -a by omega, Int.neg_mul]; omega
  have an : ¬ a < 0 → a * D' = absI a * D' := fun h => by rw [absI_eq, show ((a.natAbs : Nat) : Int) = a by omega]
  have cp : c < 0 → c * B' = -(absI c * B') := fun h => by rw [absI_eq, show ((c.natAbs : Nat) : Int) = -c by omega, Int.neg_mul]; omega
  have cn : ¬ c < 0 → c * B' = absI c * B' := fun h => by rw [absI_eq, show ((c.natAbs : Nat) : Int) = c by omega]
  generalize hp : absI a * D' = p at *
  generalize hq : absI c * B' = q at *
  generalize a * D' = x at *
  generalize c * B' = y at *
  have up : ∀ {z : Int}, 0 ≤ z → z ≤ 1152921504606846976 * 1152921504606846976 → inU (z / 18446744073709551616) = true := fun h h' => inU_iff.2 (by omega)
  have u1 := up p0 p1
  have u2 := up q0 q1
  have u3 : decide (p / 18446744073709551616 + q / 18446744073709551616 < 18446744073709551615) = true := by simp; omega
  by_cases ha : a < 0 <;> by_cases hc : c < 0
  · have ea := decide_eq_true ha
    have ec := decide_eq_true hc
    have ex := ap ha
    have ey := cp hc
    refine ⟨true, p / 18446744073709551616, p % 18446744073709551616, q / 18446744073709551616, q % 18446744073709551616, p + q, ?_, ?_, ?_, ?_, ?_⟩
    · rw [h46_tt_0_ok a b c d (by simp only [h46_tt_0, allB, wb, wd, hG, tB, tD, wB, wD, f1, f2, f3, f5, f7, f8, hp, hq, u1, u2, u3, inU_mod, ea, ec, Bool.and_self])]
      simp only [wb, wd, hG, tB, tD, wB, wD, hp, hq, wV_split]
      rfl
    · rw [absI_eq]; omega
    · omega
    · intro h; first | omega | cases h
    · intro h; first | omega | cases h
  · have ea := decide_eq_true ha
    have ec := decide_eq_false hc
    have ex := ap ha
    have ey := cn hc
    by_cases g1 : p / 18446744073709551616 < q / 18446744073709551616
    · have e1 := decide_eq_true g1
      have g4 : decide (p ≤ q) = true := by simp; omega
      refine ⟨false, p / 18446744073709551616, p % 18446744073709551616, q / 18446744073709551616, q % 18446744073709551616, q - p, ?_, ?_, ?_, ?_, ?_⟩
      · rw [h46_tf_0_ok a b c d (by simp only [h46_tf_0, allB, wb, wd, hG, tB, tD, wB, wD, f1, f2, f3, f5, f7, f8, hp, hq, u1, u2, inU_mod, wV_split, ea, ec, e1, g4, Bool.and_self, Bool.not_false])]
        simp only [wb, wd, hG, tB, tD, wB, wD, hp, hq, wV_split]
        rfl
      · rw [absI_eq]; omega
      · omega
      · intro h; first | omega | cases h
      · intro h; first | omega | cases h
    · have e1 := decide_eq_false g1
      by_cases g2 : p / 18446744073709551616 = q / 18446744073709551616
      · have e2 : (p / 18446744073709551616 == q / 18446744073709551616) = true := beq_iff_eq.2 g2
        by_cases g3 : p % 18446744073709551616 < q % 18446744073709551616
        · have e3 := decide_eq_true g3
          have g4 : decide (p ≤ q) = true := by simp; omega
          refine ⟨false, p / 18446744073709551616, p % 18446744073709551616, q / 18446744073709551616, q % 18446744073709551616, q - p, ?_, ?_, ?_, ?_, ?_⟩
          · rw [h46_tf_1_ok a b c d (by simp only [h46_tf_1, allB, wb, wd, hG, tB, tD, wB, wD, f1, f2, f3, f5, f7, f8, hp, hq, u1, u2, inU_mod, wV_split, ea, ec, e1, e2, e3, g4, Bool.and_self, Bool.not_false])]
            simp only [wb, wd, hG, tB, tD, wB, wD, hp, hq, wV_split]
            rfl
          · rw [absI_eq]; omega
          · omega
          · intro h; first | omega | cases h
          · intro h; first | omega | cases h
        · have e3 := decide_eq_false g3
          have g4 : decide (q ≤ p) = true := by simp; omega
          refine ⟨true, p / 18446744073709551616, p % 18446744073709551616, q / 18446744073709551616, q % 18446744073709551616, p - q, ?_, ?_, ?_, ?_, ?_⟩
          · rw [h46_tf_2_ok a b c d (by simp only [h46_tf_2, allB, wb, wd, hG, tB, tD, wB, wD, f1, f2, f3, f5, f7, f8, hp, hq, u1, u2, inU_mod, wV_split, ea, ec, e1, e2, e3, g4, Bool.and_self, Bool.not_false])]
            simp only [wb, wd, hG, tB, tD, wB, wD, hp, hq, wV_split]
            rfl
          · rw [absI_eq]; omega
          · omega
          · intro h; first | omega | cases h
          · intro h; first | omega | cases h
      · have e2 : (p / 18446744073709551616 == q / 18446744073709551616) = false := beq_false_of_ne g2
        have g4 : decide (q ≤ p) = true := by simp; omega
        refine ⟨true, p / 18446744073709551616, p % 18446744073709551616, q / 18446744073709551616, q % 18446744073709551616, p - q, ?_, ?_, ?_, ?_, ?_⟩
        · rw [h46_tf_3_ok a b c d (by simp only [h46_tf_3, allB, wb, wd, hG, tB, tD, wB, wD, f1, f2, f3, f5, f7, f8, hp, hq, u1, u2, inU_mod, wV_split, ea, ec, e1, e2, g4, Bool.and_self, Bool.not_false])]
          simp only [wb, wd, hG, tB, tD, wB, wD, hp, hq, wV_split]
          rfl
        · rw [absI_eq]; omega
        · omega
        · intro h; first | omega | cases h
        · intro h; first | omega | cases h
  · have ea := decide_eq_false ha
    have ec := decide_eq_true hc
    have ex := an ha
    have ey := cp hc
    by_cases g1 : p / 18446744073709551616 < q / 18446744073709551616
    · have e1 := decide_eq_true g1
      have g4 : decide (p ≤ q) = true := by simp; omega
      refine ⟨true, p / 18446744073709551616, p % 18446744073709551616, q / 18446744073709551616, q % 18446744073709551616, q - p, ?_, ?_, ?_, ?_, ?_⟩
      · rw [h46_ft_0_ok a b c d (by simp only [h46_ft_0, allB, wb, wd, hG, tB, tD, wB, wD, f1, f2, f3, f5, f7, f8, hp, hq, u1, u2, inU_mod, wV_split, ea, ec, e1, g4, Bool.and_self, Bool.not_false])]
        simp only [wb, wd, hG, tB, tD, wB, wD, hp, hq, wV_split]
        rfl
      · rw [absI_eq]; omega
      · omega
      · intro h; first | omega | cases h
      · intro h; first | omega | cases h
    · have e1 := decide_eq_false g1
      by_cases g2 : p / 18446744073709551616 = q / 18446744073709551616
      · have e2 : (p / 18446744073709551616 == q / 18446744073709551616) = true := beq_iff_eq.2 g2
        by_cases g3 : p % 18446744073709551616 < q % 18446744073709551616
        · have e3 := decide_eq_true g3
          have g4 : decide (p ≤ q) = true := by simp; omega
          refine ⟨true, p / 18446744073709551616, p % 18446744073709551616, q / 18446744073709551616, q % 18446744073709551616, q - p, ?_, ?_, ?_, ?_, ?_⟩
          · rw [h46_ft_1_ok a b c d (by simp only [h46_ft_1, allB, wb, wd, hG, tB, tD, wB, wD, f1, f2, f3, f5, f7, f8, hp, hq, u1, u2, inU_mod, wV_split, ea, ec, e1, e2, e3, g4, Bool.and_self, Bool.not_false])]
            simp only [wb, wd, hG, tB, tD, wB, wD, hp, hq, wV_split]
            rfl
          · rw [absI_eq]; omega
          · omega
          · intro h; first | omega | cases h
          · intro h; first | omega | cases h
        · have e3 := decide_eq_false g3
          have g4 : decide (q ≤ p) = true := by simp; omega
          refine ⟨false, p / 18446744073709551616, p % 18446744073709551616, q / 18446744073709551616, q % 18446744073709551616, p - q, ?_, ?_, ?_, ?_, ?_⟩
          · rw [h46_ft_2_ok a b c d (by simp only [h46_ft_2, allB, wb, wd, hG, tB, tD, wB, wD, f1, f2, f3, f5, f7, f8, hp, hq, u1, u2, inU_mod, wV_split, ea, ec, e1, e2, e3, g4, Bool.and_self, Bool.not_false])]
            simp only [wb, wd, hG, tB, tD, wB, wD, hp, hq, wV_split]
            rfl
          · rw [absI_eq]; omega
          · omega
          · intro h; first | omega | cases h
          · intro h; first | omega | cases h
      · have e2 : (p / 18446744073709551616 == q / 18446744073709551616) = false := beq_false_of_ne g2
        have g4 : decide (q ≤ p) = true := by simp; omega
        refine ⟨false, p / 18446744073709551616, p % 18446744073709551616, q / 18446744073709551616, q % 18446744073709551616, p - q, ?_, ?_, ?_, ?_, ?_⟩
        · rw [h46_ft_3_ok a b c d (by simp only [h46_ft_3, allB, wb, wd, hG, tB, tD, wB, wD, f1, f2, f3, f5, f7, f8, hp, hq, u1, u2, inU_mod, wV_split, ea, ec, e1, e2, g4, Bool.and_self, Bool.not_false])]
          simp only [wb, wd, hG, tB, tD, wB, wD, hp, hq, wV_split]
          rfl
        · rw [absI_eq]; omega
        · omega
        · intro h; first | omega | cases h
        · intro h; first | omega | cases h
  · have ea := decide_eq_false ha
    have ec := decide_eq_false hc
    have ex := an ha
    have ey := cn hc
    refine ⟨false, p / 18446744073709551616, p % 18446744073709551616, q / 18446744073709551616, q % 18446744073709551616, p + q, ?_, ?_, ?_, ?_, ?_⟩
    · rw [h46_ff_0_ok a b c d (by simp only [h46_ff_0, allB, wb, wd, hG, tB, tD, wB, wD, f1, f2, f3, f5, f7, f8, hp, hq, u1, u2, u3, inU_mod, ea, ec, Bool.and_self, Bool.not_false])]
      simp only [wb, wd, hG, tB, tD, wB, wD, hp, hq, wV_split]
      rfl
    · rw [absI_eq]; omega
    · omega
    · intro h; first | omega | cases h
    · intro h; first | omega | cases h

theorem tail46 {a b c d p1 p0 q1 q0 n : Int} {ng : Bool} (hok : okB a b = true) (hok2 : okB c d = true) (hn : n = absI (a * (d / gcdI b d) + c * (b / gcdI b d))) (hn1 : n ≤ 2658455991569831745807614120560689152)
    (hng : ng = true → a * (d / gcdI b d) + c * (b / gcdI b d) ≤ 0) (hpo : ng = false → 0 ≤ a * (d / gcdI b d) + c * (b / gcdI b d)) :
    (evRest Try.prog (spOf [e36, e37, e38, e53, e54, e65, e66, e67, e68]) (inlOf []) extD (cKD [e36, e37, e38, e53, e54, e65, e66, e67, e68] []) lp46 (dropSeq 7 (codeOf Try.prog 59)) 88 keep46 [.ptr 0 0, .ptr 1 0, .ptr 2 0, .int .u64 (gcdI b d), .bool ng, .ptr 23 0] (heap46 a b c d p1 p0 q1 q0 (n / 18446744073709551616) (n % 18446744073709551616)) (endKT Try.prog Try.f59 0 fun r _ => .ofOpt (some r))).run =
    (bif mkFits (a * d + c * b) (b * d) then some (.ret (.agg [.int .i64 (mkN (a * d + c * b) (b * d)), .int .i64 (mkD (a * d + c * b) (b * d))])) else some .pan) := by
  obtain ⟨h1, h2, h3, h4, h5⟩ := okB_iff.1 hok
  obtain ⟨k1, k2, k3, k4, k5⟩ := okB_iff.1 hok2
  obtain ⟨l1, l2, l3, l4, l5, l6, l7, l8⟩ := sum_law h1 k1 h5 k5 _ rfl
  have hm : 0 < b * d := Int.mul_pos (by omega) (by omega)
  have wb : IntKind.u64.wrap b = b := wrapU (by omega) (by omega)
  have wd : IntKind.u64.wrap d = d := wrapU (by omega) (by omega)
  have hf : mkFits (a * d + c * b) (b * d) = (decide (mkA (a * d + c * b) (b * d) ≤ 1152921504606846976) && decide (mkD (a * d + c * b) (b * d) ≤ 1152921504606846976)) := rfl
  rw [hf]
  rw [← hn] at l4 l5 l7 l8
  have hgm : gcdI (n % gcdI b d) (gcdI b d) = gcdI n (gcdI b d) := by
    have hn0 : 0 ≤ n := by rw [hn]; exact absI_nonneg _
    obtain ⟨N, rfl⟩ := Int.eq_ofNat_of_zero_le hn0
    obtain ⟨g, hg⟩ := Int.eq_ofNat_of_zero_le (show 0 ≤ gcdI b d by omega)
    rw [hg]
    have e1 : ((N : Int) % (g : Int)) = ((N % g : Nat) : Int) := rfl
    rw [e1, gcdI_eq, gcdI_eq]
    congr 1
    rw [Nat.gcd_comm N g, Nat.gcd_rec g N]
  have hn0 : 0 ≤ n := by rw [hn]; exact absI_nonneg _
  generalize hT : a * (d / gcdI b d) + c * (b / gcdI b d) = T at *
  generalize hG : gcdI b d = G at *
  have hG1 : G ≤ b := (quo_le (x := b) (p := b / G) (q := G) (by rw [Int.mul_comm]; exact l2) (by omega) (quo_pos l2 (by omega) l1)).2
  have sgn : n ≠ 0 → mkN (a * d + c * b) (b * d) = bif ng then -mkA (a * d + c * b) (b * d) else mkA (a * d + c * b) (b * d) := by
    intro _
    rw [l6]
    cases ng with
    | true => exact mkN_neg hm (Int.mul_nonpos_of_nonpos_of_nonneg (hng rfl) (by omega))
    | false => exact mkN_pos hm (Int.mul_nonneg (hpo rfl) (by omega))
  have zer : n = 0 → mkN (a * d + c * b) (b * d) = 0 ∧ mkA (a * d + c * b) (b * d) = 0 ∧ mkD (a * d + c * b) (b * d) = 1 := by
    intro hz
    have hT0 : T = 0 := by rw [absI_eq] at hn; omega
    rw [l6, hT0, Int.zero_mul]
    refine ⟨?_, ?_, ?_⟩
    · rw [mkN_pos hm (by omega)]; unfold mkA; rw [absI_eq]; simp
    · unfold mkA; rw [absI_eq]; simp
    · unfold mkD mkG
      have e0 : absI 0 = 0 := by rw [absI_eq]; rfl
      obtain ⟨M, hM⟩ := Int.eq_ofNat_of_zero_le (show 0 ≤ b * d by omega)
      have e1 : absI (b * d) = (M : Int) := by rw [absI_eq]; omega
      rw [e0, e1]
      have := gcdI_eq 0 M
      rw [Nat.gcd_zero_left] at this
      have e2 : gcdI 0 (M : Int) = (M : Int) := this
      rw [e2]
      exact Int.ediv_self (by omega)
  generalize hmN : mkN (a * d + c * b) (b * d) = N at *
  generalize hmA : mkA (a * d + c * b) (b * d) = A at *
  generalize hmD : mkD (a * d + c * b) (b * d) = D at *
  generalize hR : gcdI n G = R at *
  have tB : b.tdiv G = b / G := Int.tdiv_eq_ediv_of_nonneg (by omega)
  have tD : d.tdiv R = d / R := Int.tdiv_eq_ediv_of_nonneg (by omega)
  generalize hB' : b / G = B' at *
  generalize hD' : d / R = D' at *
  obtain ⟨b0, b1⟩ := quo_le l2 (by omega) l1
  obtain ⟨d0, d1⟩ := quo_le l5 (by omega) l4
  have hR1 : R ≤ d := (quo_le (x := d) (p := D') (q := R) (by rw [Int.mul_comm]; exact l5) (by omega) (quo_pos l5 (by omega) l4)).2
  have wB : IntKind.u64.wrap B' = B' := wrapU b0 (by omega)
  have wD : IntKind.u64.wrap D' = D' := wrapU d0 (by omega)
  have i1 : inU (n / 18446744073709551616) = true := inU_iff.2 (by omega)
  have i2 : inU G = true := inU_iff.2 (by omega)
  have i3 : inU R = true := inU_iff.2 (by omega)
  have f1 : decide (0 < G) = true := decide_eq_true l1
  have f2 : decide (0 < R) = true := decide_eq_true l4
  have f3 : (!decide (G = 0)) = true := by simp; omega
  have f4 : (!decide (R = 0)) = true := by simp; omega
  have f5 : (decide (0 ≤ n % G) && decide (0 ≤ G)) = true := by
    have := Int.emod_nonneg n (show G ≠ 0 by omega)
    simp; omega
  have f6 : (inU B' && inU D') = true := by simp only [Bool.and_eq_true, inU_iff]; omega
  have z0 : 0 ≤ n / R := Int.ediv_nonneg hn0 (by omega)
  have q0 : 0 ≤ B' * D' := Int.mul_nonneg b0 d0
  have fn := fit_of z0
  have fd := fit_of q0
  rw [← l7] at fn
  rw [← l8] at fd
  have l7' : n / R = A := l7.symm
  have l8' : B' * D' = D := l8.symm
  by_cases hz : n = 0
  · obtain ⟨z1, z2, z3⟩ := zer hz
    have c1 : (n / 18446744073709551616 == 0 && (n % 18446744073709551616 == 0 && true)) = true := by subst hz; rfl
    rw [z1, z2, z3]
    cases ng with
    | true => rw [t46_t_0_ok a b c d _ _ _ _ _ _ _ (by simp only [t46_t_0, allB, c1, Bool.and_self])]; rfl
    | false => rw [t46_f_0_ok a b c d _ _ _ _ _ _ _ (by simp only [t46_f_0, allB, c1, Bool.and_self])]; rfl
  · have c1 : (n / 18446744073709551616 == 0 && (n % 18446744073709551616 == 0 && true)) = false := by
      rw [Bool.and_true, Bool.and_eq_false_iff]; simp only [beq_eq_false_iff_ne, ne_eq]; omega
    have es := sgn hz
    have hA0 : 0 ≤ A := by rw [l7]; exact z0
    have hD0 : 0 ≤ D := by rw [l8]; exact q0
    by_cases hna : A ≤ 1152921504606846976
    · by_cases hdn : D ≤ 1152921504606846976
      · have ep : A % 18446744073709551616 = A := by omega
        have eq : D % 18446744073709551616 = D := by omega
        rw [decide_eq_true hna] at fn ⊢
        rw [decide_eq_true hdn] at fd ⊢
        cases ng with
        | true =>
          rw [t46_t_1_ok a b c d _ _ _ _ _ _ _ (by simp only [t46_t_1, allB, wb, wd, wV_split, hgm, tB, tD, wB, wD, c1, i1, i2, i3, f1, f2, f3, f4, f5, f6, l7', l8', inU_mod, fn, fd, Bool.and_self, Bool.not_false])]
          simp only [wb, wd, wV_split, hgm, tB, tD, wB, wD, l7', l8', ep, eq, es]
          rfl
        | false =>
          rw [t46_f_1_ok a b c d _ _ _ _ _ _ _ (by simp only [t46_f_1, allB, wb, wd, wV_split, hgm, tB, tD, wB, wD, c1, i1, i2, i3, f1, f2, f3, f4, f5, f6, l7', l8', inU_mod, fn, fd, Bool.and_self, Bool.not_false])]
          simp only [wb, wd, wV_split, hgm, tB, tD, wB, wD, l7', l8', ep, eq, es]
          rfl
      · rw [decide_eq_true hna] at fn ⊢
        rw [decide_eq_false hdn] at fd ⊢
        cases ng with
        | true =>
          rw [t46_t_2_ok a b c d _ _ _ _ _ _ _ (by simp only [t46_t_2, allB, wb, wd, wV_split, hgm, tB, tD, wB, wD, c1, i1, i2, i3, f1, f2, f3, f4, f5, f6, l7', l8', inU_mod, fn, fd, Bool.and_self, Bool.not_false])]
          first | rfl | (cases decide (D ≤ 1152921504606846976) <;> rfl)
        | false =>
          rw [t46_f_2_ok a b c d _ _ _ _ _ _ _ (by simp only [t46_f_2, allB, wb, wd, wV_split, hgm, tB, tD, wB, wD, c1, i1, i2, i3, f1, f2, f3, f4, f5, f6, l7', l8', inU_mod, fn, fd, Bool.and_self, Bool.not_false])]
          first | rfl | (cases decide (D ≤ 1152921504606846976) <;> rfl)
    · rw [decide_eq_false hna] at fn ⊢
      cases ng with
      | true =>
        rw [t46_t_3_ok a b c d _ _ _ _ _ _ _ (by simp only [t46_t_3, allB, wb, wd, wV_split, hgm, tB, tD, wB, wD, c1, i1, i2, i3, f1, f2, f3, f4, f5, f6, l7', l8', inU_mod, fn, Bool.and_self, Bool.not_false])]
        first | rfl | (cases decide (D ≤ 1152921504606846976) <;> rfl)
      | false =>
        rw [t46_f_3_ok a b c d _ _ _ _ _ _ _ (by simp only [t46_f_3, allB, wb, wd, wV_split, hgm, tB, tD, wB, wD, c1, i1, i2, i3, f1, f2, f3, f4, f5, f6, l7', l8', inU_mod, fn, Bool.and_self, Bool.not_false])]
        first | rfl | (cases decide (D ≤ 1152921504606846976) <;> rfl)

theorem cx46 : (mkCx Try.prog (spOf [e36, e37, e38, e53, e54, e65, e66, e67, e68]) (inlOf []) extD).Ok InvD := cx_of [] (by kernel_rfl) (by
  intro p hp
  simp only [List.mem_cons, List.not_mem_nil, or_false] at hp
  rcases hp with rfl | rfl | rfl | rfl | rfl | rfl | rfl | rfl | rfl
  · exact e36_ok
  · exact e37_ok
  · exact e38_ok
  · exact e53_ok
  · exact e54_ok
  · exact e65_ok
  · exact e66_ok
  · exact e67_ok
  · exact e68_ok)
set_option maxRecDepth 20000 in
theorem e46_ok : SpecHolds Try.prog InvD 59 fun a => (e46.2 a).run := by
  refine specD cx46 Try.func59 (c := codeOf Try.prog 59) (by kernel_rfl) lp46 (fun p hp => ?_) fun args r h => ?_
  · have hl : loops (codeOf Try.prog 59) = [] := by kernel_rfl
    rw [hl] at hp; cases hp
  · simp only [e46] at h
    split at h
    · rename_i a b c d
      obtain ⟨hc, h⟩ := chk_run h
      simp only [Bool.and_eq_true] at hc
      refine ⟨by kernel_rfl, tr_ok (by rfl) h, ?_⟩
      obtain ⟨ng, p1, p0, q1, q0, n, hh, hn, hn1, hng, hpo⟩ := head46 hc.1 hc.2
      have hlen : (St.mk (frame0 Try.f59 [.agg [.int .i64 a, .int .i64 b], .agg [.int .i64 c, .int .i64 d]]) []).tm.length = 88 := by kernel_rfl
      have hk : ∀ k ∈ keep46, k < (St.mk (frame0 Try.f59 [.agg [.int .i64 a, .int .i64 b], .agg [.int .i64 c, .int .i64 d]]) []).tm.length := by rw [hlen]; decide
      have hcut := ev_cut (β := Res) Try.prog (spOf [e36, e37, e38, e53, e54, e65, e66, e67, e68]) (inlOf []) extD (cKD [e36, e37, e38, e53, e54, e65, e66, e67, e68] []) (fun {β} => callK_eq (β := β) Try.prog (spOf [e36, e37, e38, e53, e54, e65, e66, e67, e68]) (inlOf []) extD attD uD 20) (lp := lp46) (n := 7) (c := codeOf Try.prog 59) (id := 12) (keep := keep46)
        (by kernel_rfl) (by kernel_rfl) rfl (by decide) (st := ⟨frame0 Try.f59 [.agg [.int .i64 a, .int .i64 b], .agg [.int .i64 c, .int .i64 d]], []⟩) hk hh (endKT Try.prog Try.f59 0 fun r _ => .ofOpt (some r))
      have ht := tail46 (p1 := p1) (p0 := p0) (q1 := q1) (q0 := q0) hc.1 hc.2 hn hn1 hng hpo
      rw [evFn_body _ _ _ _ _ (c := codeOf Try.prog 59) (by kernel_rfl)]
      rw [hlen] at hcut
      have hall := hcut.trans ht
      refine Eq.trans ?_ h
      exact hall
    · simp [Tr.run] at h
end Go.Proofs.Ytebiafgcnmnacaa

/- Contracts of Add, Sub, Mul and Div. Conditions: none beyond the context's. -/
namespace Go.Proofs.Ytebiafgcnmnacaa
open Go.Evl Go.RowKit

/-- a fraction that is not reduced, reduced if this fits -/
def opR (n m : Int) : Tr Res := .node (mkFits n m) (.leaf (.ret (.tup [.agg [.int .i64 (mkN n m), .int .i64 (mkD n m)], .int .i64 0]))) (.leaf (.ret (.tup [.agg [.int .i64 0, .int .i64 0], .int .i64 14])))
def erR (e : Int) : Tr Res := .leaf (.ret (.tup [.agg [.int .i64 0, .int .i64 0], .int .i64 e]))
def e20 : Ent := ⟨42, fun
  | [.agg [.int .i64 a, .int .i64 b], .agg [.int .i64 c, .int .i64 d]] => .node (okB a b) (.node (okB c d) (opR (a * d + c * b) (b * d)) (erR 1)) (erR 1)
  | _ => .non⟩
def e21 : Ent := ⟨44, fun
  | [.agg [.int .i64 a, .int .i64 b], .agg [.int .i64 c, .int .i64 d]] => .node (okB a b) (.node (okB c d) (opR (a * c) (b * d)) (erR 1)) (erR 1)
  | _ => .non⟩
theorem tree20 (a b c d : Int) : evFn Try.prog (spOf [e44, e46]) (inlOf [50, 58]) extD (cKD [e44, e46] [50, 58]) (fun _ => .unroll 0) Try.f42 [.agg [.int .i64 a, .int .i64 b], .agg [.int .i64 c, .int .i64 d]] [] (fun r _ => some r) =
    (bif okB a b then
      bif okB c d then
        bif okB a b && okB c d then
          bif mkFits (a * d + c * b) (b * d) then
            some
              (Res.ret
                (AV.tup
                  [AV.agg
                      [AV.int IntKind.i64 (mkN (a * d + c * b) (b * d)), AV.int IntKind.i64 (mkD (a * d + c * b) (b * d))],
                    AV.int IntKind.i64 0]))
          else some (Res.ret (AV.tup [AV.agg [AV.int IntKind.i64 0, AV.int IntKind.i64 0], AV.int IntKind.i64 14]))
        else none
      else some (Res.ret (AV.tup [AV.agg [AV.int IntKind.i64 0, AV.int IntKind.i64 0], AV.int IntKind.i64 1]))
    else some (Res.ret (AV.tup [AV.agg [AV.int IntKind.i64 0, AV.int IntKind.i64 0], AV.int IntKind.i64 1])) : Option Res) := by kernel_rfl
theorem tree21 (a b c d : Int) : evFn Try.prog (spOf [e44, e48]) (inlOf [50, 60]) extD (cKD [e44, e48] [50, 60]) (fun _ => .unroll 0) Try.f44 [.agg [.int .i64 a, .int .i64 b], .agg [.int .i64 c, .int .i64 d]] [] (fun r _ => some r) =
    (bif okB a b then
      bif okB c d then
        bif okB a b && okB c d then
          bif mkFits (a * c) (b * d) then
            some
              (Res.ret
                (AV.tup
                  [AV.agg [AV.int IntKind.i64 (mkN (a * c) (b * d)), AV.int IntKind.i64 (mkD (a * c) (b * d))],
                    AV.int IntKind.i64 0]))
          else some (Res.ret (AV.tup [AV.agg [AV.int IntKind.i64 0, AV.int IntKind.i64 0], AV.int IntKind.i64 14]))
        else none
      else some (Res.ret (AV.tup [AV.agg [AV.int IntKind.i64 0, AV.int IntKind.i64 0], AV.int IntKind.i64 1]))
    else some (Res.ret (AV.tup [AV.agg [AV.int IntKind.i64 0, AV.int IntKind.i64 0], AV.int IntKind.i64 1])) : Option Res) := by kernel_rfl
theorem cxS : ∀ p ∈ [e44, e46], EntHolds Try.prog InvD p := by
  intro p hp
  simp only [List.mem_cons, List.not_mem_nil, or_false] at hp
  rcases hp with rfl | rfl
  · exact e44_ok
  · exact e46_ok
theorem cxM : ∀ p ∈ [e44, e48], EntHolds Try.prog InvD p := by
  intro p hp
  simp only [List.mem_cons, List.not_mem_nil, or_false] at hp
  rcases hp with rfl | rfl
  · exact e44_ok
  · exact e48_ok
theorem cx20 : (mkCx Try.prog (spOf [e44, e46]) (inlOf [50, 58]) extD).Ok InvD := cx_of [50, 58] (by kernel_rfl) cxS
theorem cx21 : (mkCx Try.prog (spOf [e44, e48]) (inlOf [50, 60]) extD).Ok InvD := cx_of [50, 60] (by kernel_rfl) cxM
theorem okB_neg {c d : Int} (h : okB c d = true) : okB (-c) d = true := by
  rw [okB_iff] at h ⊢
  rw [Int.natAbs_neg]
  omega
theorem okB_inv {c d : Int} (h : okB c d = true) (hc : 0 < c) : okB d c = true := by
  rw [okB_iff] at h ⊢
  rw [Nat.gcd_comm]
  omega
theorem okB_inv_neg {c d : Int} (h : okB c d = true) (hc : c < 0) : okB (-d) (-c) = true := by
  rw [okB_iff] at h ⊢
  rw [Int.natAbs_neg, Int.natAbs_neg, Nat.gcd_comm]
  omega
theorem e20_ok : SpecHolds Try.prog InvD 42 fun a => (e20.2 a).run := by
  refine specD cx20 Try.func42 (c := codeOf Try.prog 42) (by kernel_rfl) (fun _ => .unroll 0) (fun _ _ => trivial) fun args r h => ?_
  simp only [e20] at h
  split at h
  · rename_i a b c d
    refine ⟨by kernel_rfl, tr_ok (by rfl) h, ?_⟩
    rw [tree20]
    revert h
    cases h1 : okB a b <;> cases h2 : okB c d <;> intro h <;> exact h
  · simp [Tr.run] at h
theorem e21_ok : SpecHolds Try.prog InvD 44 fun a => (e21.2 a).run := by
  refine specD cx21 Try.func44 (c := codeOf Try.prog 44) (by kernel_rfl) (fun _ => .unroll 0) (fun _ _ => trivial) fun args r h => ?_
  simp only [e21] at h
  split at h
  · rename_i a b c d
    refine ⟨by kernel_rfl, tr_ok (by rfl) h, ?_⟩
    rw [tree21]
    revert h
    cases h1 : okB a b <;> cases h2 : okB c d <;> intro h <;> exact h
  · simp [Tr.run] at h
end Go.Proofs.Ytebiafgcnmnacaa

/- The contracts of ratio's functions, each with one symbolic result. Conditions: none beyond the context's. -/
namespace Go.Proofs.Ytebiafgcnmnacaa
open Go.Evl Go.RowKit
/-- the order of two fractions -/
def cmpI (a b c d : Int) : Int := if a * d < c * b then -1 else if a * d = c * b then 0 else 1
def cmpR (a b c d : Int) : Int := if okB a b && okB c d then cmpI a b c d else 0
def ckI (a b : Int) : Int := if okB a b then 0 else 1
def okV (b : Bool) : Bool := if b then true else false
/-- what an operation yields: whether its arguments are valid, and the fraction that is not reduced -/
def opE (k : Bool) (n m : Int) : Int := if k then (if mkFits n m then 0 else 14) else 1
def opN (k : Bool) (n m : Int) : Int := if k && mkFits n m then mkN n m else 0
def opD (k : Bool) (n m : Int) : Int := if k && mkFits n m then mkD n m else 0
def opV (k : Bool) (n m : Int) : Tr Res := .leaf (.ret (.tup [.agg [.int .i64 (opN k n m), .int .i64 (opD k n m)], .int .i64 (opE k n m)]))
def e13m : Ent := ⟨43, fun
  | [.agg [.int .i64 a, .int .i64 b]] => .leaf (.ret (.int .i64 (ckI a b)))
  | _ => .non⟩
def e14m : Ent := ⟨35, fun
  | [.agg [.int .i64 a, .int .i64 b]] => .leaf (.ret (.int .i64 (ckI a b)))
  | _ => .non⟩
def e26m : Ent := ⟨62, fun
  | [.agg [.int .i64 a, .int .i64 b], .agg [.int .i64 c, .int .i64 d]] => .leaf (.ret (.int .i64 (cmpR a b c d)))
  | _ => .non⟩
def e20m : Ent := ⟨42, fun
  | [.agg [.int .i64 a, .int .i64 b], .agg [.int .i64 c, .int .i64 d]] => opV (okB a b && okB c d) (a * d + c * b) (b * d)
  | _ => .non⟩
def e21m : Ent := ⟨44, fun
  | [.agg [.int .i64 a, .int .i64 b], .agg [.int .i64 c, .int .i64 d]] => opV (okB a b && okB c d) (a * c) (b * d)
  | _ => .non⟩
/-- a quotient's numerator and denominator -/
def dvN (a c d : Int) : Int := if c < 0 then a * -d else a * d
def dvM (b c : Int) : Int := if c < 0 then b * -c else b * c
def dvE (k : Bool) (a b c d : Int) : Int := if k && (c == 0) then 26 else opE k (dvN a c d) (dvM b c)
def dvA (k : Bool) (a b c d : Int) : Int := if k && (c == 0) then 0 else opN k (dvN a c d) (dvM b c)
def dvB (k : Bool) (a b c d : Int) : Int := if k && (c == 0) then 0 else opD k (dvN a c d) (dvM b c)
theorem spec_weak {P : Program} {Inv : World → Prop} {f : FuncId} {s t : List AV → Tr Res} (h : SpecHolds P Inv f fun a => (s a).run) (ht : ∀ args r, (t args).run = some r → (s args).run = some r) : SpecHolds P Inv f fun a => (t a).run :=
  fun args r hr => h args r (ht args r hr)
theorem e13m_ok : SpecHolds Try.prog InvD 43 fun a => (e13m.2 a).run := by
  refine spec_weak e13_ok fun args r h => ?_
  simp only [e13m] at h
  split at h
  · rename_i a b
    rw [← h]
    simp only [e13, Tr.run, ckI]
    cases okB a b <;> rfl
  · simp [Tr.run] at h
theorem e14m_ok : SpecHolds Try.prog InvD 35 fun a => (e14m.2 a).run := by
  refine spec_weak e14_ok fun args r h => ?_
  simp only [e14m] at h
  split at h
  · rename_i a b
    rw [← h]
    simp only [e14, Tr.run, ckI]
    cases okB a b <;> rfl
  · simp [Tr.run] at h
theorem e26m_ok : SpecHolds Try.prog InvD 62 fun a => (e26m.2 a).run := by
  refine spec_weak e26_ok fun args r h => ?_
  simp only [e26m] at h
  split at h
  · rename_i a b c d
    rw [← h]
    simp only [e26, cmpR, cmpI, Tr.run]
    cases (okB a b && okB c d) with
    | false => rfl
    | true =>
      by_cases h1 : a * d < c * b
      · simp [h1]
      · by_cases h2 : a * d = c * b
        · simp [h2]
        · simp [h1, h2]
  · simp [Tr.run] at h
theorem opV_run {x y : Bool} {n m : Int} : (opV (x && y) n m).run = (Tr.node x (.node y (opR n m) (erR 1)) (erR 1)).run := by
  cases x
  · rfl
  · cases y
    · rfl
    · simp only [opV, opR, Tr.run, opN, opD, opE, Bool.and_self, cond_true, if_true, Bool.true_and]
      cases mkFits n m <;> rfl
theorem e20m_ok : SpecHolds Try.prog InvD 42 fun a => (e20m.2 a).run := by
  refine spec_weak e20_ok fun args r h => ?_
  simp only [e20m] at h
  split at h
  · rw [opV_run] at h; exact h
  · simp [Tr.run] at h
theorem e21m_ok : SpecHolds Try.prog InvD 44 fun a => (e21m.2 a).run := by
  refine spec_weak e21_ok fun args r h => ?_
  simp only [e21m] at h
  split at h
  · rw [opV_run] at h; exact h
  · simp [Tr.run] at h
end Go.Proofs.Ytebiafgcnmnacaa

/- Reduced fractions: the plain laws. No model. Conditions: in each statement. -/
namespace Go.Proofs.Ytebiafgcnmnacaa
open Go.Evl Go.RowKit

theorem mkG_pos2 {n m : Int} (hm : 0 < m) : 0 < mkG n m := by
  unfold mkG
  rw [gcdI_abs (absI_nonneg m)]
  have : 0 < Int.gcd n (absI m) := Int.gcd_pos_of_ne_zero_right _ (by rw [absI_eq]; omega)
  omega
theorem mkG_eq {n m : Int} (hm : 0 < m) : mkG n m = (Int.gcd n m : Int) := by
  unfold mkG
  rw [gcdI_abs (absI_nonneg m), show absI m = m by rw [absI_eq]; omega]
theorem mkD_mul {n m : Int} (hm : 0 < m) : mkD n m * mkG n m = m := by
  unfold mkD
  rw [mkG_eq hm, show absI m = m by rw [absI_eq]; omega]
  exact Int.ediv_mul_cancel (Int.gcd_dvd_right ..)
theorem mkA_mul {n m : Int} (hm : 0 < m) : mkA n m * mkG n m = absI n := by
  unfold mkA
  rw [mkG_eq hm]
  refine Int.ediv_mul_cancel ?_
  rw [absI_eq]
  have := Int.gcd_dvd_left (a := n) (b := m)
  exact Int.dvd_natAbs.2 this
theorem mkN_mul {n m : Int} (hm : 0 < m) : mkN n m * mkG n m = n := by
  have h := mkA_mul (n := n) hm
  rcases Int.le_total n 0 with h0 | h0
  · rw [mkN_neg hm h0, Int.neg_mul, h, absI_eq]; omega
  · rw [mkN_pos hm h0, h, absI_eq]; omega
theorem mkD_pos {n m : Int} (hm : 0 < m) : 0 < mkD n m := quo_pos (mkD_mul hm) hm (mkG_pos2 hm)
/-- the value of a fraction stays -/
theorem mk_val {n m : Int} (hm : 0 < m) : mkN n m * m = n * mkD n m := by
  have h1 := mkN_mul (n := n) hm
  have h2 := mkD_mul (n := n) hm
  calc mkN n m * m = mkN n m * (mkD n m * mkG n m) := by rw [h2]
    _ = mkN n m * mkG n m * mkD n m := by rw [Int.mul_assoc, Int.mul_comm (mkG n m)]
    _ = n * mkD n m := by rw [h1]
theorem mk_gcd {n m : Int} (hm : 0 < m) : Nat.gcd (mkN n m).natAbs (mkD n m).natAbs = 1 := by
  have h1 := mkN_mul (n := n) hm
  have h2 := mkD_mul (n := n) hm
  have h3 := mkG_eq (n := n) hm
  have hg := mkG_pos2 (n := n) hm
  have : Int.gcd n m = Int.gcd (mkN n m) (mkD n m) * (mkG n m).natAbs := by
    have e : Int.gcd (mkN n m * mkG n m) (mkD n m * mkG n m) = Int.gcd (mkN n m) (mkD n m) * (mkG n m).natAbs := Int.gcd_mul_right ..
    rw [h1, h2] at e
    exact e
  rw [h3] at this hg
  simp only [Int.natAbs_natCast] at this
  have h4 : 1 * Int.gcd n m = Int.gcd (mkN n m) (mkD n m) * Int.gcd n m := by rw [Nat.one_mul]; exact this
  exact (Nat.eq_of_mul_eq_mul_right (by omega) h4).symm
theorem mk_ok {n m : Int} (hm : 0 < m) (hf : mkFits n m = true) : okB (mkN n m) (mkD n m) = true := by
  have hd := mkD_pos (n := n) hm
  have hg := mk_gcd (n := n) hm
  simp only [mkFits, Bool.and_eq_true, decide_eq_true_eq] at hf
  have hA : 0 ≤ mkA n m := (quo_le (mkA_mul hm) (absI_nonneg n) (mkG_pos2 hm)).1
  rw [okB_iff]
  refine ⟨by omega, hf.2, ?_, ?_, hg⟩
  · rcases Int.le_total n 0 with h0 | h0
    · rw [mkN_neg hm h0]; omega
    · rw [mkN_pos hm h0]; omega
  · rcases Int.le_total n 0 with h0 | h0
    · rw [mkN_neg hm h0]; omega
    · rw [mkN_pos hm h0]; omega
/-- reduced fractions with the same value are the same -/
theorem red_eq {a b c d : Int} (hb : 0 < b) (hd : 0 < d) (hab : Nat.gcd a.natAbs b.natAbs = 1) (hcd : Nat.gcd c.natAbs d.natAbs = 1) (h : a * d = c * b) : a = c ∧ b = d := by
  have h1 : b.natAbs ∣ d.natAbs := by
    have : b.natAbs ∣ a.natAbs * d.natAbs := by rw [← Int.natAbs_mul, h, Int.natAbs_mul]; exact Nat.dvd_mul_left ..
    exact Nat.Coprime.dvd_of_dvd_mul_left (Nat.Coprime.symm hab) this
  have h2 : d.natAbs ∣ b.natAbs := by
    have : d.natAbs ∣ c.natAbs * b.natAbs := by rw [← Int.natAbs_mul, ← h, Int.natAbs_mul]; exact Nat.dvd_mul_left ..
    exact Nat.Coprime.dvd_of_dvd_mul_left (Nat.Coprime.symm hcd) this
  have h3 : b = d := by have := Nat.dvd_antisymm h1 h2; omega
  subst h3
  exact ⟨Int.eq_of_mul_eq_mul_right (by omega) h, rfl⟩
/-- a fraction reduced is the reduced fraction of that value -/
theorem mk_unique {n m a b : Int} (hm : 0 < m) (hb : 0 < b) (hab : Nat.gcd a.natAbs b.natAbs = 1) (h : a * m = n * b) : mkN n m = a ∧ mkD n m = b := by
  refine red_eq (mkD_pos hm) hb (mk_gcd hm) hab ?_
  have hv := mk_val (n := n) hm
  refine Int.eq_of_mul_eq_mul_right (show m ≠ 0 by omega) ?_
  calc mkN n m * b * m = mkN n m * m * b := by rw [Int.mul_assoc, Int.mul_comm b, ← Int.mul_assoc]
    _ = n * mkD n m * b := by rw [hv]
    _ = n * b * mkD n m := by rw [Int.mul_assoc, Int.mul_comm (mkD n m), ← Int.mul_assoc]
    _ = a * m * mkD n m := by rw [h]
    _ = a * mkD n m * m := by rw [Int.mul_assoc, Int.mul_comm m, ← Int.mul_assoc]
/-- it depends on the value alone -/
theorem mk_congr {n m p q : Int} (hm : 0 < m) (hq : 0 < q) (h : n * q = p * m) : mkN n m = mkN p q ∧ mkD n m = mkD p q := by
  have hv := mk_val (n := p) hq
  refine mk_unique hm (mkD_pos hq) (mk_gcd hq) ?_
  refine Int.eq_of_mul_eq_mul_right (show q ≠ 0 by omega) ?_
  calc mkN p q * m * q = mkN p q * q * m := by rw [Int.mul_assoc, Int.mul_comm m, ← Int.mul_assoc]
    _ = p * mkD p q * m := by rw [hv]
    _ = p * m * mkD p q := by rw [Int.mul_assoc, Int.mul_comm (mkD p q), ← Int.mul_assoc]
    _ = n * q * mkD p q := by rw [h]
    _ = n * mkD p q * q := by rw [Int.mul_assoc, Int.mul_comm q, ← Int.mul_assoc]
theorem mkA_of {n m : Int} (hm : 0 < m) : mkA n m = absI (mkN n m) := by
  have hA : 0 ≤ mkA n m := (quo_le (mkA_mul hm) (absI_nonneg n) (mkG_pos2 hm)).1
  rcases Int.le_total n 0 with h0 | h0
  · rw [mkN_neg hm h0, absI_eq]; omega
  · rw [mkN_pos hm h0, absI_eq]; omega
theorem mkFits_congr {n m p q : Int} (hm : 0 < m) (hq : 0 < q) (h : n * q = p * m) : mkFits n m = mkFits p q := by
  obtain ⟨h1, h2⟩ := mk_congr hm hq h
  unfold mkFits
  rw [mkA_of hm, mkA_of hq, h1, h2]

theorem mul_lt_r {x y k : Int} (hk : 0 < k) : x * k < y * k ↔ x < y := ⟨fun h => Int.lt_of_mul_lt_mul_right h (by omega), fun h => Int.mul_lt_mul_of_pos_right h hk⟩
theorem mul_eq_r {x y k : Int} (hk : 0 < k) : x * k = y * k ↔ x = y := ⟨fun h => Int.eq_of_mul_eq_mul_right (by omega) h, fun h => by rw [h]⟩
theorem cmpI_scale {a b c d p q : Int} {k K : Int} (hk : 0 < k) (hK : 0 < K) (h1 : a * d * k = p * K) (h2 : c * b * k = q * K) : cmpI a b c d = if p < q then -1 else if p = q then 0 else 1 := by
  unfold cmpI
  have e1 : a * d < c * b ↔ p < q := by rw [← mul_lt_r hk, h1, h2, mul_lt_r hK]
  have e2 : a * d = c * b ↔ p = q := by rw [← mul_eq_r hk, h1, h2, mul_eq_r hK]
  simp only [e1, e2]
theorem cmpI_congr {a b c d p q s t : Int} (hb : 0 < b) (hd : 0 < d) (hq : 0 < q) (ht : 0 < t) (h1 : a * q = p * b) (h2 : c * t = s * d) : cmpI a b c d = cmpI p q s t := by
  refine cmpI_scale (k := q * t) (K := b * d) (Int.mul_pos hq ht) (Int.mul_pos hb hd) ?_ ?_
  · calc a * d * (q * t) = (a * q) * (d * t) := by grind
      _ = p * t * (b * d) := by rw [h1]; grind
  · calc c * b * (q * t) = (c * t) * (b * q) := by grind
      _ = s * q * (b * d) := by rw [h2]; grind
theorem cmpI_range (a b c d : Int) : -1 ≤ cmpI a b c d ∧ cmpI a b c d ≤ 1 := by
  unfold cmpI; split <;> (try split) <;> omega
theorem cmpI_symm (a b c d : Int) : cmpI c d a b = -cmpI a b c d := by
  unfold cmpI; split <;> (try split) <;> (try split) <;> (try split) <;> omega
theorem cmpI_zero {a b c d : Int} : cmpI a b c d = 0 ↔ a * d = c * b := by
  unfold cmpI; split <;> (try split) <;> omega
theorem cmpI_le {a b c d : Int} : cmpI a b c d ≤ 0 ↔ a * d ≤ c * b := by
  unfold cmpI; split <;> (try split) <;> omega
theorem cmpI_lt {a b c d : Int} : cmpI a b c d < 0 ↔ a * d < c * b := by
  unfold cmpI; split <;> (try split) <;> omega
theorem le_trans_frac {a b c d e f : Int} (hb : 0 < b) (hd : 0 < d) (hf : 0 < f) (h1 : a * d ≤ c * b) (h2 : c * f ≤ e * d) : a * f ≤ e * b := by
  have k1 : a * d * f ≤ c * b * f := Int.mul_le_mul_of_nonneg_right h1 (by omega)
  have k2 : c * f * b ≤ e * d * b := Int.mul_le_mul_of_nonneg_right h2 (by omega)
  have k3 : a * f * d ≤ e * b * d := by
    have e1 : a * f * d = a * d * f := by grind
    have e2 : c * b * f = c * f * b := by grind
    have e3 : e * b * d = e * d * b := by grind
    omega
  exact Int.le_of_mul_le_mul_right k3 hd
end Go.Proofs.Ytebiafgcnmnacaa

/- Statements of the contracts of the reference's wide numbers. No condition. -/
namespace Go.Proofs.Ytebiafgcnmnacaa
open Go.Evl Go.RowKit

def sgnI (z : Int) : Int := if z < 0 then -1 else if z = 0 then 0 else 1
def hiI (z : Int) : Int := absI z / 1152921504606846976
def loI (z : Int) : Int := absI z % 1152921504606846976
/-- the value of a wide number -/
def wvI (s h l : Int) : Int := s * (h * 1152921504606846976 + l)
def isW (s h l : Int) : Bool := decide (0 ≤ h ∧ h ≤ 2305843009213693952 ∧ 0 ≤ l ∧ l < 1152921504606846976 ∧ ((s = 0 ∧ h = 0 ∧ l = 0) ∨ ((s = 1 ∨ s = -1) ∧ 0 < h * 1152921504606846976 + l)))
def inM (x : Int) : Bool := decide (-1152921504606846976 ≤ x ∧ x ≤ 1152921504606846976)
def e56 : Ent := ⟨38, fun
  | [.int .i64 x, .int .i64 y] => .chk (inM x && inM y) (.leaf (.ret (.agg [.int .i64 (sgnI (x * y)), .int .i64 (hiI (x * y)), .int .i64 (loI (x * y))])))
  | _ => .non⟩
def e71 : Ent := ⟨55, fun
  | [.agg [.int .i64 s, .int .i64 h, .int .i64 l], .agg [.int .i64 t, .int .i64 g, .int .i64 k]] => .chk (isW s h l && isW t g k) (.leaf (.ret (.bool (decide (h * 1152921504606846976 + l < g * 1152921504606846976 + k)))))
  | _ => .non⟩
def e55 : Ent := ⟨37, fun
  | [.agg [.int .i64 s, .int .i64 h, .int .i64 l], .agg [.int .i64 t, .int .i64 g, .int .i64 k]] => .chk (isW s h l && isW t g k)
      (.leaf (.ret (.agg [.int .i64 (sgnI (wvI s h l + wvI t g k)), .int .i64 (hiI (wvI s h l + wvI t g k)), .int .i64 (loI (wvI s h l + wvI t g k))])))
  | _ => .non⟩
def e72 : Ent := ⟨56, fun
  | [.agg [.int .i64 s, .int .i64 h, .int .i64 l]] => .chk (isW s h l) (.node (decide (h * 1152921504606846976 + l ≤ 1152921504606846976)) (.leaf (.ret (.tup [.int .i64 (wvI s h l), .bool true]))) (.leaf (.ret (.tup [.int .i64 0, .bool false]))))
  | _ => .non⟩
def e58 : Ent := ⟨40, fun
  | [.agg [.int .i64 s, .int .i64 h, .int .i64 l], .agg [.int .i64 t, .int .i64 g, .int .i64 k]] => .chk (isW s h l && isW t g k)
      (.node (decide (h * 1152921504606846976 + l ≤ 1152921504606846976) && decide (g * 1152921504606846976 + k ≤ 1152921504606846976)) (.leaf (.ret (.tup [.agg [.int .i64 (wvI s h l), .int .i64 (wvI t g k)], .int .i64 0]))) (erR 14))
  | _ => .non⟩
end Go.Proofs.Ytebiafgcnmnacaa

/- Laws of merged results. No condition. -/
namespace Go.Proofs.Ytebiafgcnmnacaa
open Go.Evl Go.RowKit

theorem ckI_ne {a b : Int} : (ckI a b != 0) = !okB a b := by unfold ckI; cases okB a b <;> rfl
theorem cmpR_ok {a b c d : Int} (h1 : okB a b = true) (h2 : okB c d = true) : cmpR a b c d = cmpI a b c d := by simp [cmpR, h1, h2]
theorem opE_zero {k : Bool} {n m : Int} : (opE k n m == 0) = (k && mkFits n m) := by unfold opE; cases k <;> cases mkFits n m <;> rfl
theorem opE_ne {k : Bool} {n m : Int} : (opE k n m != 0) = !(k && mkFits n m) := by unfold opE; cases k <;> cases mkFits n m <;> rfl
theorem opN_ok {k : Bool} {n m : Int} (h : (k && mkFits n m) = true) : opN k n m = mkN n m := by simp only [opN, h, if_true]
theorem opD_ok {k : Bool} {n m : Int} (h : (k && mkFits n m) = true) : opD k n m = mkD n m := by simp only [opD, h, if_true]
theorem okB_pos {a b : Int} (h : okB a b = true) : 0 < b := by have := okB_iff.1 h; omega
/-- comparing results is comparing the fractions that are not reduced -/
theorem cmp_results {n m p q : Int} {k k' : Bool} (hm : 0 < m) (hq : 0 < q) (h1 : (k && mkFits n m) = true) (h2 : (k' && mkFits p q) = true) : cmpR (opN k n m) (opD k n m) (opN k' p q) (opD k' p q) = cmpI n m p q := by
  rw [opN_ok h1, opD_ok h1, opN_ok h2, opD_ok h2]
  simp only [Bool.and_eq_true] at h1 h2
  rw [cmpR_ok (mk_ok hm h1.2) (mk_ok hq h2.2)]
  exact cmpI_congr (mkD_pos hm) (mkD_pos hq) hm hq (mk_val hm) (mk_val hq)
theorem cmp_add {a b c d e f : Int} (hf : 0 < f) : cmpI (a * f + e * b) (b * f) (c * f + e * d) (d * f) = cmpI a b c d := by
  unfold cmpI
  have hff : 0 < f * f := Int.mul_pos hf hf
  have e1 : (a * f + e * b) * (d * f) = a * d * (f * f) + e * b * d * f := by grind
  have e2 : (c * f + e * d) * (b * f) = c * b * (f * f) + e * b * d * f := by grind
  have k1 : (a * f + e * b) * (d * f) < (c * f + e * d) * (b * f) ↔ a * d < c * b := by
    rw [e1, e2, ← mul_lt_r (x := a * d) (y := c * b) hff]; omega
  have k2 : (a * f + e * b) * (d * f) = (c * f + e * d) * (b * f) ↔ a * d = c * b := by
    rw [e1, e2, ← mul_eq_r (x := a * d) (y := c * b) hff]; omega
  simp only [k1, k2]
theorem cmp_mul {a b c d e f : Int} (he : 0 < e) (hf : 0 < f) : cmpI (a * e) (b * f) (c * e) (d * f) = cmpI a b c d := by
  unfold cmpI
  have hff : 0 < e * f := Int.mul_pos he hf
  have e1 : a * e * (d * f) = a * d * (e * f) := by grind
  have e2 : c * e * (b * f) = c * b * (e * f) := by grind
  rw [e1, e2]
  simp only [mul_lt_r hff, mul_eq_r hff]
end Go.Proofs.Ytebiafgcnmnacaa
