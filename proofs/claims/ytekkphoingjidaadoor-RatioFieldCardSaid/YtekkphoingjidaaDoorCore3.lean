/- The contracts of ratio's functions, each with one symbolic result. Conditions: none beyond the context's. -/
import Derived.Test.YtekkphoingjidaaDoorCore2
import Derived.Shelf.Small.Bits
import Derived.Test.YtekkphoingjidaaDoorProg
/- The plain law of a long division by a number of two digits (base 2^32): one digit's correction. No model. Conditions: in each statement. -/
namespace Go.Proofs.YtekkphoingjidaaDoor
open Go.Evl Go.RowKit

/-- what holds in the correcting loop: q is the digit tried, r its partial rest; u the three digits divided (without the last), d the next digit; y1, y0 the divisor's digits -/
structure DigInv (q r y1 y0 d u : Int) : Prop where
  y1lo : 2147483648 ≤ y1
  y1hi : y1 < 4294967296
  y0lo : 0 ≤ y0
  y0hi : y0 < 4294967296
  dlo : 0 ≤ d
  dhi : d < 4294967296
  ulo : 0 ≤ u
  uhi : u < y1 * 4294967296 + y0
  part : q * y1 + r = u
  rlo : 0 ≤ r
  rhi : r < 4294967296
  qhi : q ≤ 4294967297
  least : (u * 4294967296 + d) / (y1 * 4294967296 + y0) ≤ q

theorem dig_pos {y1 y0 : Int} (h : 2147483648 ≤ y1) (h0 : 0 ≤ y0) : 0 < y1 * 4294967296 + y0 := by omega
/-- the test is the test whether the digit is too great -/
theorem dig_test {q r y1 y0 d u : Int} (hp : q * y1 + r = u) (h1 : 2147483648 ≤ y1) (h0 : 0 ≤ y0) :
    q * y0 > 4294967296 * r + d ↔ (u * 4294967296 + d) / (y1 * 4294967296 + y0) < q := by
  rw [Int.ediv_lt_iff_lt_mul (dig_pos h1 h0)]
  have e : q * (y1 * 4294967296 + y0) = q * y1 * 4294967296 + q * y0 := by rw [Int.mul_add, Int.mul_assoc]
  rw [e, ← hp]
  generalize q * y1 = p
  generalize q * y0 = s
  omega
theorem dig_big {q y1 y0 d u : Int} (h1 : 2147483648 ≤ y1) (h0 : 0 ≤ y0) (hd : d < 4294967296) (hu : u < y1 * 4294967296 + y0) (hq : 4294967296 ≤ q) : (u * 4294967296 + d) / (y1 * 4294967296 + y0) < q := by
  have h : (u * 4294967296 + d) / (y1 * 4294967296 + y0) < 4294967296 := by
    rw [Int.ediv_lt_iff_lt_mul (dig_pos h1 h0)]
    generalize y1 * 4294967296 + y0 = y at *
    omega
  omega
/-- the first digit tried -/
theorem dig_init {y1 y0 d u : Int} (h1 : 2147483648 ≤ y1) (h2 : y1 < 4294967296) (h0 : 0 ≤ y0) (h3 : y0 < 4294967296) (hd : 0 ≤ d) (hd2 : d < 4294967296) (hu : 0 ≤ u) (hu2 : u < y1 * 4294967296 + y0) :
    DigInv (u / y1) (u % y1) y1 y0 d u where
  y1lo := h1
  y1hi := h2
  y0lo := h0
  y0hi := h3
  dlo := hd
  dhi := hd2
  ulo := hu
  uhi := hu2
  part := by rw [Int.mul_comm]; exact Int.mul_ediv_add_emod u y1
  rlo := Int.emod_nonneg _ (by omega)
  rhi := by have := Int.emod_lt_of_pos u (show 0 < y1 by omega); omega
  qhi := by
    have : u / y1 < 4294967298 := by
      rw [Int.ediv_lt_iff_lt_mul (by omega)]
      omega
    omega
  least := by
    have hm := Int.lt_ediv_add_one_mul_self u (show 0 < y1 by omega)
    have hq0 : 0 ≤ u / y1 := Int.ediv_nonneg hu (by omega)
    have : (u * 4294967296 + d) / (y1 * 4294967296 + y0) < u / y1 + 1 := by
      rw [Int.ediv_lt_iff_lt_mul (dig_pos h1 h0)]
      rw [Int.mul_add, ← Int.mul_assoc]
      have hs : 0 ≤ (u / y1 + 1) * y0 := Int.mul_nonneg (by omega) h0
      generalize (u / y1 + 1) * y1 = p at *
      generalize (u / y1 + 1) * y0 = s at *
      omega
    omega
/-- one correction -/
theorem dig_step {q r y1 y0 d u : Int} (h : DigInv q r y1 y0 d u) (hlt : (u * 4294967296 + d) / (y1 * 4294967296 + y0) < q) (hr : r + y1 < 4294967296) : DigInv (q - 1) (r + y1) y1 y0 d u where
  y1lo := h.y1lo
  y1hi := h.y1hi
  y0lo := h.y0lo
  y0hi := h.y0hi
  dlo := h.dlo
  dhi := h.dhi
  ulo := h.ulo
  uhi := h.uhi
  part := by rw [Int.sub_mul, ← h.part]; omega
  rlo := by have := h.rlo; have := h.y1lo; omega
  rhi := hr
  qhi := by have := h.qhi; omega
  least := by omega
/-- the loop leaves because the partial rest has grown: the digit is right -/
theorem dig_break {q r y1 y0 d u : Int} (h : DigInv q r y1 y0 d u) (hlt : (u * 4294967296 + d) / (y1 * 4294967296 + y0) < q) (hr : 4294967296 ≤ r + y1) : (u * 4294967296 + d) / (y1 * 4294967296 + y0) = q - 1 := by
  have hp : (q - 1) * y1 + (r + y1) = u := by rw [Int.sub_mul, ← h.part]; omega
  have ht := dig_test (d := d) hp h.y1lo h.y0lo
  have hq0 : 0 ≤ (u * 4294967296 + d) / (y1 * 4294967296 + y0) := Int.ediv_nonneg (by have := h.ulo; have := h.dlo; omega) (by have := dig_pos h.y1lo h.y0lo; omega)
  have hn : ¬ (q - 1) * y0 > 4294967296 * (r + y1) + d := by
    have h1 : (q - 1) * y0 ≤ 4294967296 * y0 := Int.mul_le_mul_of_nonneg_right (by have := h.qhi; omega) h.y0lo
    have := h.y0hi; have := h.dlo
    omega
  rw [ht] at hn
  omega
/-- the loop leaves because the test fails: the digit is right -/
theorem dig_done {q r y1 y0 d u : Int} (h : DigInv q r y1 y0 d u) (hn : ¬ q * y0 > 4294967296 * r + d) : (u * 4294967296 + d) / (y1 * 4294967296 + y0) = q := by
  have := h.least
  rw [dig_test (d := d) h.part h.y1lo h.y0lo] at hn
  omega
end Go.Proofs.YtekkphoingjidaaDoor

/- A contract of Go's library at this dump, by the shelf's own tool: LeadingZeros64. No condition. -/
namespace Go.Proofs
open Go.Shelf
def Tryd.lays134_ren : Go.Shelf.Ren := ⟨fun | 134 => 91 | 129 => 100 | n => n, fun | 53 => 44 | 3 => 3 | 4 => 4 | 46 => 89 | 5 => 5 | 9 => 9 | n => n, fun | n => n⟩
theorem Tryd.lays134 : Go.Proofs.Lays.n134 Tryd.prog Tryd.lays134_ren := {
  mixed := by kernel_rfl
  f129 := Tryd.func100.trans (congrArg some (by kernel_rfl))
  f134 := Tryd.func91.trans (congrArg some (by kernel_rfl))
  t3 := Tryd.underlying3
  a3 := Tryd.isAgg3
  z3 := Tryd.sizeOf3
  v3 := Tryd.zeroValue3
  t4 := Tryd.underlying4
  a4 := Tryd.isAgg4
  z4 := Tryd.sizeOf4
  v4 := Tryd.zeroValue4
  t5 := Tryd.underlying5
  a5 := Tryd.isAgg5
  z5 := Tryd.sizeOf5
  v5 := Tryd.zeroValue5
  t9 := Tryd.underlying9
  a9 := Tryd.isAgg9
  z9 := Tryd.sizeOf9
  v9 := Tryd.zeroValue9
  t46 := Tryd.underlying89
  a46 := Tryd.isAgg89
  z46 := Tryd.sizeOf89
  v46 := Tryd.zeroValue89
  t53 := Tryd.underlying44
  a53 := Tryd.isAgg44
  z53 := Tryd.sizeOf44
  v53 := Tryd.zeroValue44 }
theorem Tryd.bits_LeadingZeros64 (x : Int) (w : World) (h0 : 0 ≤ x) (h1 : x ≤ 18446744073709551615) :
    Calls Tryd.prog 91 #[.int .u64 x] w fun e w' => e = .returned (.int .i64 (64 - (Lib.bitLen x.toNat : Int))) ∧ w' = w := Any.bits_LeadingZeros64 Tryd.lays134 x w h0 h1
end Go.Proofs

/- Div64's correcting loops, by their summaries. Conditions: none beyond the context's. -/
namespace Go.Proofs.YtekkphoingjidaaDoor
open Go.Evl Go.RowKit

def digQ (u d y1 y0 : Int) : Int := (u * 4294967296 + d) / (y1 * 4294967296 + y0)
def digB (q r y1 y0 d u : Int) : Bool := decide (2147483648 ≤ y1 ∧ y1 < 4294967296 ∧ 0 ≤ y0 ∧ y0 < 4294967296 ∧ 0 ≤ d ∧ d < 4294967296 ∧ 0 ≤ u ∧ u < y1 * 4294967296 + y0 ∧ q * y1 + r = u ∧ 0 ≤ r ∧ r < 4294967296 ∧ q ≤ 4294967297 ∧ digQ u d y1 y0 ≤ q)
theorem digB_iff {q r y1 y0 d u : Int} : digB q r y1 y0 d u = true ↔ DigInv q r y1 y0 d u := by
  unfold digB
  rw [decide_eq_true_eq]
  constructor
  · rintro ⟨a1, a2, a3, a4, a5, a6, a7, a8, a9, a10, a11, a12, a13⟩
    exact ⟨a1, a2, a3, a4, a5, a6, a7, a8, a9, a10, a11, a12, a13⟩
  · rintro ⟨a1, a2, a3, a4, a5, a6, a7, a8, a9, a10, a11, a12, a13⟩
    exact ⟨a1, a2, a3, a4, a5, a6, a7, a8, a9, a10, a11, a12, a13⟩

abbrev roundK (id : Nat) (b1 b2 b3 : Bool) (x1 x2 _x3 : List AV) : Option (Ex × List AV × List Ob) :=
  bif b1 then (bif b2 then some (.exit id, x2, []) else some (.normal, x2, [])) else bif b3 then (bif b2 then some (.exit id, x2, []) else some (.normal, x2, [])) else some (.exit id, x1, [])

/-- one round, whatever the loop -/
theorem dig_round {q r y1 y0 d u : Int} (h : DigInv q r y1 y0 d u) :
    ((digQ u d y1 y0 < q) ∧ IntKind.u64.wrap (q - 1) = q - 1 ∧ IntKind.u64.wrap (r + y1) = r + y1 ∧
      (decide (q ≥ 4294967296) = true ∨ (decide (q ≥ 4294967296) = false ∧ decide (IntKind.u64.wrap (q * y0) > IntKind.u64.wrap (IntKind.u64.wrap (4294967296 * r) + d)) = true)) ∧
      ((decide (r + y1 ≥ 4294967296) = true ∧ digQ u d y1 y0 = q - 1 ∧ r + y1 = u - (q - 1) * y1) ∨ (decide (r + y1 ≥ 4294967296) = false ∧ DigInv (q - 1) (r + y1) y1 y0 d u))) ∨
    (digQ u d y1 y0 = q ∧ r = u - q * y1 ∧ decide (q ≥ 4294967296) = false ∧ decide (IntKind.u64.wrap (q * y0) > IntKind.u64.wrap (IntKind.u64.wrap (4294967296 * r) + d)) = false) := by
  have hQ0 : 0 ≤ digQ u d y1 y0 := Int.ediv_nonneg (by have := h.ulo; have := h.dlo; omega) (by have := dig_pos h.y1lo h.y0lo; omega)
  have hl : digQ u d y1 y0 ≤ q := h.least
  have hw : ∀ (hq : q < 4294967296), decide (IntKind.u64.wrap (q * y0) > IntKind.u64.wrap (IntKind.u64.wrap (4294967296 * r) + d)) = decide (q * y0 > 4294967296 * r + d) := by
    intro hq
    have h1 : 0 ≤ q * y0 := Int.mul_nonneg (by omega) h.y0lo
    have h2 : q * y0 ≤ 4294967295 * y0 := Int.mul_le_mul_of_nonneg_right (by omega) h.y0lo
    have := h.y0hi; have := h.rlo; have := h.rhi; have := h.dlo; have := h.dhi
    rw [wrapU h1 (by omega), wrapU (x := 4294967296 * r) (by omega) (by omega), wrapU (by omega) (by omega)]
  by_cases hlt : digQ u d y1 y0 < q
  · left
    have := h.rlo; have := h.rhi; have := h.y1lo; have := h.y1hi; have := h.qhi
    refine ⟨hlt, wrapU (by omega) (by omega), wrapU (by omega) (by omega), ?_, ?_⟩
    · by_cases hq : q ≥ 4294967296
      · exact .inl (decide_eq_true hq)
      · exact .inr ⟨decide_eq_false hq, by rw [hw (by omega)]; exact decide_eq_true ((dig_test (d := d) h.part h.y1lo h.y0lo).2 hlt)⟩
    · by_cases hr : r + y1 ≥ 4294967296
      · exact .inl ⟨decide_eq_true hr, dig_break h hlt hr, by rw [Int.sub_mul, ← h.part]; omega⟩
      · exact .inr ⟨decide_eq_false hr, dig_step h hlt (by omega)⟩
  · right
    have hq : ¬ q ≥ 4294967296 := fun hq => hlt (dig_big h.y1lo h.y0lo h.dhi h.uhi hq)
    refine ⟨by omega, by rw [← h.part]; omega, decide_eq_false hq, ?_⟩
    rw [hw (by omega)]
    exact decide_eq_false fun ht => hlt ((dig_test (d := d) h.part h.y1lo h.y0lo).1 ht)

/-- leading zeros -/
def lzI (x : Int) : Int := if x < 0 then 0 else 64 - (Lib.bitLen x.toNat : Int)
def e91 : Ent := ⟨91, fun
  | [.int .u64 x] => .node (inU x) (.leaf (.ret (.int .i64 (lzI x)))) .non
  | _ => .non⟩
theorem e91_ok : SpecHolds Tryd.prog InvD 91 fun a => (e91.2 a).run := by
  intro args r h ρ A w vs hA hi hv
  simp only [e91] at h
  split at h
  · rename_i x
    rcases node_run h with ⟨hc, h⟩ | ⟨_, h⟩
    · simp only [Tr.run, Option.some.injEq] at h
      subst h
      rw [inU_iff] at hc
      rw [rvs_int1 hv]
      refine (Tryd.bits_LeadingZeros64 x w hc.1 (by omega)).mono ?_
      rintro e w' ⟨rfl, rfl⟩
      have hx : ¬ x < 0 := by omega
      refine ⟨Below.refl _ _, _, rfl, ?_⟩
      simp only [lzI, hx, if_false]
      exact .int
    · simp [Tr.run] at h
  · simp [Tr.run] at h
def keepA : List Nat := [15, 16, 9, 10, 13, 11, 2, 8, 14]
def f80a : List AV → List Ob → Tr (Ex × List AV × List Ob)
  | [.int .u64 q, .int .u64 r, .int .u64 y1, .int .u64 y0, .int .u64 d, .int .u64 u, .int .u64 y, .int .u64 s, .int .u64 e], [] =>
    .node (digB q r y1 y0 d u) (.leaf (.exit 0, [.int .u64 (digQ u d y1 y0), .int .u64 (u - digQ u d y1 y0 * y1), .int .u64 y1, .int .u64 y0, .int .u64 d, .int .u64 u, .int .u64 y, .int .u64 s, .int .u64 e], [])) .non
  | _, _ => .non
def keepB : List Nat := [18, 16, 9, 10, 14, 17, 2, 8, 15]
def f80b : List AV → List Ob → Tr (Ex × List AV × List Ob)
  | [.int .u64 q, .int .u64 r, .int .u64 y1, .int .u64 y0, .int .u64 d, .int .u64 u, .int .u64 y, .int .u64 s, .int .u64 e], [] =>
    .node (digB q r y1 y0 d u) (.leaf (.exit 2, [.int .u64 (digQ u d y1 y0), .int .u64 (u - digQ u d y1 y0 * y1), .int .u64 y1, .int .u64 y0, .int .u64 d, .int .u64 u, .int .u64 y, .int .u64 s, .int .u64 e], [])) .non
  | _, _ => .non
def lp80 (i : Nat) : LT := bif Nat.beq i 0 then .sum keepA f80a else bif Nat.beq i 2 then .sum keepB f80b else bif Nat.beq i 1000015 then .forget [2, 8, 9, 10, 11, 13, 14] else .unroll 0
theorem loop80a (q r y1 y0 d u y s e : Int) : evC (β := Ex × List AV × List Ob) Tryd.prog (spOf [e91]) (inlOf []) extD (cKD [e91] []) lp80 (bodyOf Tryd.prog 80 0)
      ⟨mkF Tryd.f80.ntmps keepA [.int .u64 q, .int .u64 r, .int .u64 y1, .int .u64 y0, .int .u64 d, .int .u64 u, .int .u64 y, .int .u64 s, .int .u64 e], []⟩ (fun e st => (cutBack keepA ([] : List Ob).length st).map fun q => (e, q.1, q.2)) =
    roundK 0 (decide (q ≥ 4294967296)) (decide (IntKind.u64.wrap (r + y1) ≥ 4294967296)) (decide (IntKind.u64.wrap (q * y0) > IntKind.u64.wrap (IntKind.u64.wrap (4294967296 * r) + d)))
      [.int .u64 q, .int .u64 r, .int .u64 y1, .int .u64 y0, .int .u64 d, .int .u64 u, .int .u64 y, .int .u64 s, .int .u64 e]
      [.int .u64 (IntKind.u64.wrap (q - 1)), .int .u64 (IntKind.u64.wrap (r + y1)), .int .u64 y1, .int .u64 y0, .int .u64 d, .int .u64 u, .int .u64 y, .int .u64 s, .int .u64 e] [] := by kernel_rfl
theorem sum80a : SumOkT Tryd.prog (spOf [e91]) (inlOf []) extD (cKD [e91] []) lp80 Tryd.f80.ntmps (bodyOf Tryd.prog 80 0) keepA f80a := by
  refine ⟨fun vs _ => match vs with | .int _ q :: _ => q.toNat | _ => 0, fun vs H R hv hR => ?_⟩
  unfold f80a at hR
  split at hR
  · rename_i q r y1 y0 d u y s e
    rcases node_run hR with ⟨hc, hR⟩ | ⟨_, hR⟩
    · simp only [Tr.run, Option.some.injEq] at hR
      subst hR
      have hi := digB_iff.1 hc
      have ht := loop80a q r y1 y0 d u y s e
      rcases dig_round hi with ⟨hlt, w1, w2, hb, hr⟩ | ⟨hQ, hrr, hb1, hb3⟩
      · rw [w1, w2] at ht
        have ht2 : roundK 0 (decide (q ≥ 4294967296)) (decide (r + y1 ≥ 4294967296)) (decide (IntKind.u64.wrap (q * y0) > IntKind.u64.wrap (IntKind.u64.wrap (4294967296 * r) + d)))
            [.int .u64 q, .int .u64 r, .int .u64 y1, .int .u64 y0, .int .u64 d, .int .u64 u, .int .u64 y, .int .u64 s, .int .u64 e]
            [.int .u64 (q - 1), .int .u64 (r + y1), .int .u64 y1, .int .u64 y0, .int .u64 d, .int .u64 u, .int .u64 y, .int .u64 s, .int .u64 e] [] =
            bif decide (r + y1 ≥ 4294967296) then some (.exit 0, [.int .u64 (q - 1), .int .u64 (r + y1), .int .u64 y1, .int .u64 y0, .int .u64 d, .int .u64 u, .int .u64 y, .int .u64 s, .int .u64 e], [])
            else some (.normal, [.int .u64 (q - 1), .int .u64 (r + y1), .int .u64 y1, .int .u64 y0, .int .u64 d, .int .u64 u, .int .u64 y, .int .u64 s, .int .u64 e], []) := by
          rcases hb with hb | ⟨hb, hb3⟩
          · rw [hb]; rfl
          · rw [hb, hb3]; rfl
        rw [ht2] at ht
        rcases hr with ⟨hr, hQ, hrr⟩ | ⟨hr, hi'⟩
        · rw [hr] at ht
          refine ⟨_, _, _, ht, ?_⟩
          dsimp only
          rw [hQ, hrr]
        · rw [hr] at ht
          refine ⟨_, _, _, ht, ?_, ?_⟩
          · simp only [f80a, Tr.run, digB_iff.2 hi', cond_true]
          · have hQ0 : 0 ≤ digQ u d y1 y0 := Int.ediv_nonneg (by have := hi.ulo; have := hi.dlo; omega) (by have := dig_pos hi.y1lo hi.y0lo; omega)
            dsimp only
            omega
      · rw [hb1, hb3] at ht
        refine ⟨_, _, _, ht, ?_⟩
        dsimp only
        rw [hQ, ← hrr]
    · simp [Tr.run] at hR
  · simp [Tr.run] at hR
end Go.Proofs.YtekkphoingjidaaDoor

/- Div64's second correcting loop; LeadingZeros64. Conditions: none beyond the context's. -/
namespace Go.Proofs.YtekkphoingjidaaDoor
open Go.Evl Go.RowKit

theorem loop80b (q r y1 y0 d u y s e : Int) : evC (β := Ex × List AV × List Ob) Tryd.prog (spOf [e91]) (inlOf []) extD (cKD [e91] []) lp80 (bodyOf Tryd.prog 80 2)
      ⟨mkF Tryd.f80.ntmps keepB [.int .u64 q, .int .u64 r, .int .u64 y1, .int .u64 y0, .int .u64 d, .int .u64 u, .int .u64 y, .int .u64 s, .int .u64 e], []⟩ (fun e st => (cutBack keepB ([] : List Ob).length st).map fun q => (e, q.1, q.2)) =
    roundK 2 (decide (q ≥ 4294967296)) (decide (IntKind.u64.wrap (r + y1) ≥ 4294967296)) (decide (IntKind.u64.wrap (q * y0) > IntKind.u64.wrap (IntKind.u64.wrap (4294967296 * r) + d)))
      [.int .u64 q, .int .u64 r, .int .u64 y1, .int .u64 y0, .int .u64 d, .int .u64 u, .int .u64 y, .int .u64 s, .int .u64 e]
      [.int .u64 (IntKind.u64.wrap (q - 1)), .int .u64 (IntKind.u64.wrap (r + y1)), .int .u64 y1, .int .u64 y0, .int .u64 d, .int .u64 u, .int .u64 y, .int .u64 s, .int .u64 e] [] := by kernel_rfl
theorem sum80b : SumOkT Tryd.prog (spOf [e91]) (inlOf []) extD (cKD [e91] []) lp80 Tryd.f80.ntmps (bodyOf Tryd.prog 80 2) keepB f80b := by
  refine ⟨fun vs _ => match vs with | .int _ q :: _ => q.toNat | _ => 0, fun vs H R hv hR => ?_⟩
  unfold f80b at hR
  split at hR
  · rename_i q r y1 y0 d u y s e
    rcases node_run hR with ⟨hc, hR⟩ | ⟨_, hR⟩
    · simp only [Tr.run, Option.some.injEq] at hR
      subst hR
      have hi := digB_iff.1 hc
      have ht := loop80b q r y1 y0 d u y s e
      rcases dig_round hi with ⟨hlt, w1, w2, hb, hr⟩ | ⟨hQ, hrr, hb1, hb3⟩
      · rw [w1, w2] at ht
        have ht2 : roundK 2 (decide (q ≥ 4294967296)) (decide (r + y1 ≥ 4294967296)) (decide (IntKind.u64.wrap (q * y0) > IntKind.u64.wrap (IntKind.u64.wrap (4294967296 * r) + d)))
            [.int .u64 q, .int .u64 r, .int .u64 y1, .int .u64 y0, .int .u64 d, .int .u64 u, .int .u64 y, .int .u64 s, .int .u64 e]
            [.int .u64 (q - 1), .int .u64 (r + y1), .int .u64 y1, .int .u64 y0, .int .u64 d, .int .u64 u, .int .u64 y, .int .u64 s, .int .u64 e] [] =
            bif decide (r + y1 ≥ 4294967296) then some (.exit 2, [.int .u64 (q - 1), .int .u64 (r + y1), .int .u64 y1, .int .u64 y0, .int .u64 d, .int .u64 u, .int .u64 y, .int .u64 s, .int .u64 e], [])
            else some (.normal, [.int .u64 (q - 1), .int .u64 (r + y1), .int .u64 y1, .int .u64 y0, .int .u64 d, .int .u64 u, .int .u64 y, .int .u64 s, .int .u64 e], []) := by
          rcases hb with hb | ⟨hb, hb3⟩
          · rw [hb]; rfl
          · rw [hb, hb3]; rfl
        rw [ht2] at ht
        rcases hr with ⟨hr, hQ, hrr⟩ | ⟨hr, hi'⟩
        · rw [hr] at ht
          refine ⟨_, _, _, ht, ?_⟩
          dsimp only
          rw [hQ, hrr]
        · rw [hr] at ht
          refine ⟨_, _, _, ht, ?_, ?_⟩
          · simp only [f80b, Tr.run, digB_iff.2 hi', cond_true]
          · have hQ0 : 0 ≤ digQ u d y1 y0 := Int.ediv_nonneg (by have := hi.ulo; have := hi.dlo; omega) (by have := dig_pos hi.y1lo hi.y0lo; omega)
            dsimp only
            omega
      · rw [hb1, hb3] at ht
        refine ⟨_, _, _, ht, ?_⟩
        dsimp only
        rw [hQ, ← hrr]
    · simp [Tr.run] at hR
  · simp [Tr.run] at hR

theorem cx80 : (mkCx Tryd.prog (spOf [e91]) (inlOf []) extD).Ok InvD := cx_of [] (by kernel_rfl) (by
  intro p hp
  simp only [List.mem_cons, List.not_mem_nil, or_false] at hp
  subst hp
  exact e91_ok)
end Go.Proofs.YtekkphoingjidaaDoor

/- Div64 behind its normalising: two digits. Conditions: in the statement. -/
namespace Go.Proofs.YtekkphoingjidaaDoor
open Go.Evl Go.RowKit

def dropSeq : Nat → Code → Code
  | n + 1, .seq _ b => dropSeq n b
  | _, c => c
noncomputable def tail80 (y s y1 y0 u d e : Int) : Option Res := evC (β := Res) Tryd.prog (spOf [e91]) (inlOf []) extD (cKD [e91] []) lp80 (dropSeq 12 (codeOf Tryd.prog 80)) ⟨mkF Tryd.f80.ntmps [2, 8, 9, 10, 11, 13, 14] [.int .u64 y, .int .u64 s, .int .u64 y1, .int .u64 y0, .int .u64 u, .int .u64 d, .int .u64 e], []⟩ (endK Tryd.prog Tryd.f80 0 fun r _ => some r)
theorem treeTail (y s y1 y0 u d e : Int) : tail80 y s y1 y0 u d e =
    (bif !decide (y1 = 0) then
      bif
          digB (IntKind.u64.wrap (u.tdiv y1)) (IntKind.u64.wrap (u - IntKind.u64.wrap (IntKind.u64.wrap (u.tdiv y1) * y1)))
            y1 y0 d u then
        bif !decide (y1 = 0) then
          bif
              digB
                (IntKind.u64.wrap
                  ((IntKind.u64.wrap
                        (IntKind.u64.wrap (IntKind.u64.wrap (u * 4294967296) + d) -
                          IntKind.u64.wrap (digQ u d y1 y0 * y))).tdiv
                    y1))
                (IntKind.u64.wrap
                  (IntKind.u64.wrap
                      (IntKind.u64.wrap (IntKind.u64.wrap (u * 4294967296) + d) - IntKind.u64.wrap (digQ u d y1 y0 * y)) -
                    IntKind.u64.wrap
                      (IntKind.u64.wrap
                          ((IntKind.u64.wrap
                                (IntKind.u64.wrap (IntKind.u64.wrap (u * 4294967296) + d) -
                                  IntKind.u64.wrap (digQ u d y1 y0 * y))).tdiv
                            y1) *
                        y1)))
                y1 y0 e
                (IntKind.u64.wrap
                  (IntKind.u64.wrap (IntKind.u64.wrap (u * 4294967296) + d) - IntKind.u64.wrap (digQ u d y1 y0 * y))) then
            bif !decide (s < 0) then
              some
                (Res.ret
                  (AV.tup
                    [AV.int IntKind.u64
                        (IntKind.u64.wrap
                          (IntKind.u64.wrap (digQ u d y1 y0 * 4294967296) +
                            digQ
                              (IntKind.u64.wrap
                                (IntKind.u64.wrap (IntKind.u64.wrap (u * 4294967296) + d) -
                                  IntKind.u64.wrap (digQ u d y1 y0 * y)))
                              e y1 y0)),
                      AV.int IntKind.u64
                        ((IntKind.u64.wrap
                              (IntKind.u64.wrap
                                  (IntKind.u64.wrap
                                      (IntKind.u64.wrap
                                          (IntKind.u64.wrap (IntKind.u64.wrap (u * 4294967296) + d) -
                                            IntKind.u64.wrap (digQ u d y1 y0 * y)) *
                                        4294967296) +
                                    e) -
                                IntKind.u64.wrap
                                  (digQ
                                      (IntKind.u64.wrap
                                        (IntKind.u64.wrap (IntKind.u64.wrap (u * 4294967296) + d) -
                                          IntKind.u64.wrap (digQ u d y1 y0 * y)))
                                      e y1 y0 *
                                    y))).fdiv
                          (2 ^ min s.toNat 64))]))
            else none
          else none
        else none
      else none
    else none : Option Res) := by kernel_rfl
theorem digQ_range {u d y1 y0 : Int} (h1 : 2147483648 ≤ y1) (h0 : 0 ≤ y0) (hd : 0 ≤ d) (hd2 : d < 4294967296) (hu : 0 ≤ u) (hu2 : u < y1 * 4294967296 + y0) : 0 ≤ digQ u d y1 y0 ∧ digQ u d y1 y0 < 4294967296 := by
  have hy := dig_pos h1 h0
  refine ⟨Int.ediv_nonneg (by omega) (by omega), ?_⟩
  unfold digQ
  rw [Int.ediv_lt_iff_lt_mul hy]
  generalize y1 * 4294967296 + y0 = y at *
  omega
/-- the rest of a digit, reckoned in words of 64 bits -/
theorem dig_rest {u d y1 y0 y : Int} (hy : y = y1 * 4294967296 + y0) (h1 : 2147483648 ≤ y1) (h2 : y1 < 4294967296) (h0 : 0 ≤ y0) (h3 : y0 < 4294967296) (_hd : 0 ≤ d) (_hd2 : d < 4294967296) (_hu : 0 ≤ u) (_hu2 : u < y) :
    IntKind.u64.wrap (IntKind.u64.wrap (IntKind.u64.wrap (u * 4294967296) + d) - IntKind.u64.wrap (digQ u d y1 y0 * y)) = (u * 4294967296 + d) % y := by
  have hQ : digQ u d y1 y0 = (u * 4294967296 + d) / y := by rw [hy]; rfl
  have hyp : 0 < y := by rw [hy]; exact dig_pos h1 h0
  have hm := Int.emod_add_mul_ediv (u * 4294967296 + d) y
  have hm0 := Int.emod_nonneg (u * 4294967296 + d) (show y ≠ 0 by omega)
  have hm1 := Int.emod_lt_of_pos (u * 4294967296 + d) hyp
  rw [hQ, Int.mul_comm ((u * 4294967296 + d) / y) y]
  simp only [IntKind.wrap_u64]
  generalize (u * 4294967296 + d) % y = r at *
  generalize y * ((u * 4294967296 + d) / y) = p at *
  omega
theorem tail80_eq {y s y1 y0 u d e : Int} (hy : y = y1 * 4294967296 + y0) (h1 : 2147483648 ≤ y1) (h2 : y1 < 4294967296) (h0 : 0 ≤ y0) (h3 : y0 < 4294967296) (hd : 0 ≤ d) (hd2 : d < 4294967296) (he : 0 ≤ e) (he2 : e < 4294967296)
    (hu : 0 ≤ u) (hu2 : u < y) (hs : 0 ≤ s) : tail80 y s y1 y0 u d e =
    some (.ret (.tup [.int .u64 ((u * 4294967296 + d) / y * 4294967296 + ((u * 4294967296 + d) % y * 4294967296 + e) / y), .int .u64 ((((u * 4294967296 + d) % y * 4294967296 + e) % y).fdiv (2 ^ min s.toNat 64))])) := by
  have hyp : 0 < y := by rw [hy]; exact dig_pos h1 h0
  have hy64 : y < 18446744073709551616 := by omega
  have hr0 := Int.emod_nonneg (u * 4294967296 + d) (show y ≠ 0 by omega)
  have hr1 := Int.emod_lt_of_pos (u * 4294967296 + d) hyp
  have init : ∀ {v f : Int}, 0 ≤ v → v < y → 0 ≤ f → f < 4294967296 → digB (IntKind.u64.wrap (v.tdiv y1)) (IntKind.u64.wrap (v - IntKind.u64.wrap (IntKind.u64.wrap (v.tdiv y1) * y1))) y1 y0 f v = true := by
    intro v f hv hv2 hf hf2
    have hi := dig_init (d := f) h1 h2 h0 h3 hf hf2 hv (by rw [← hy]; exact hv2)
    have hq0 : 0 ≤ v / y1 := Int.ediv_nonneg hv (by omega)
    have hqhi := hi.qhi
    have hpart := hi.part
    have hrlo := hi.rlo
    have hrhi := hi.rhi
    rw [Int.tdiv_eq_ediv_of_nonneg hv, wrapU (x := v / y1) hq0 (by omega)]
    have hp0 : 0 ≤ v / y1 * y1 := Int.mul_nonneg hq0 (by omega)
    rw [wrapU (x := v / y1 * y1) hp0 (by omega)]
    have e1 : v - v / y1 * y1 = v % y1 := by omega
    rw [e1, wrapU hrlo (by omega)]
    exact digB_iff.2 hi
  rw [treeTail, dig_rest hy h1 h2 h0 h3 hd hd2 hu hu2]
  rw [dig_rest (u := (u * 4294967296 + d) % y) hy h1 h2 h0 h3 he he2 hr0 hr1]
  rw [init hu hu2 hd hd2, init hr0 hr1 he he2]
  have c1 : (!decide (y1 = 0)) = true := by simp; omega
  have c2 : (!decide (s < 0)) = true := by simp; omega
  rw [c1, c2]
  obtain ⟨q0, q1⟩ := digQ_range h1 h0 hd hd2 hu (by rw [← hy]; exact hu2)
  obtain ⟨p0, p1⟩ := digQ_range (u := (u * 4294967296 + d) % y) h1 h0 he he2 hr0 (by rw [← hy]; exact hr1)
  rw [wrapU (x := digQ u d y1 y0 * 4294967296) (by omega) (by omega), wrapU (by omega) (by omega)]
  unfold digQ
  rw [← hy]
  rfl
end Go.Proofs.YtekkphoingjidaaDoor

/- Normalising a divisor: the plain law. No model. Conditions: in each statement. -/
namespace Go.Proofs.YtekkphoingjidaaDoor
open Go.Evl Go.RowKit

theorem bitLenAux_bounds : ∀ (f x : Nat), x < 2 ^ f → x < 2 ^ Lib.bitLenAux f x ∧ (x ≠ 0 → 1 ≤ Lib.bitLenAux f x ∧ 2 ^ (Lib.bitLenAux f x - 1) ≤ x) ∧ Lib.bitLenAux f x ≤ f := by
  intro f
  induction f with
  | zero => intro x h; simp at h; subst h; simp [Lib.bitLenAux]
  | succ f ih =>
    intro x h
    simp only [Lib.bitLenAux]
    by_cases h0 : x = 0
    · subst h0; simp
    · simp only [h0, if_false]
      obtain ⟨i1, i2, i3⟩ := ih (x / 2) (by rw [Nat.pow_succ] at h; omega)
      refine ⟨?_, fun _ => ⟨by omega, ?_⟩, by omega⟩
      · rw [Nat.pow_add]; omega
      · rw [Nat.add_sub_cancel_left]
        by_cases h1 : x / 2 = 0
        · rw [h1]
          have : Lib.bitLenAux f 0 = 0 := by cases f <;> simp [Lib.bitLenAux]
          rw [this]; simp; omega
        · obtain ⟨j1, j2⟩ := i2 h1
          have : 2 ^ Lib.bitLenAux f (x / 2) = 2 * 2 ^ (Lib.bitLenAux f (x / 2) - 1) := by
            rw [← Nat.pow_succ']; congr 1; omega
          omega
/-- the divisor moved to the left has its highest bit set -/
theorem lz_bounds {c : Int} (h0 : 0 < c) (h1 : c < 18446744073709551616) : 0 ≤ lzI c ∧ lzI c ≤ 63 ∧ 9223372036854775808 ≤ c * 2 ^ (lzI c).toNat ∧ c * 2 ^ (lzI c).toNat < 18446744073709551616 := by
  obtain ⟨x, rfl⟩ := Int.eq_ofNat_of_zero_le (show 0 ≤ c by omega)
  have hx : ¬ ((x : Int) < 0) := by omega
  obtain ⟨b1, b2, b3⟩ := bitLenAux_bounds 64 x (by omega)
  obtain ⟨b4, b5⟩ := b2 (by omega)
  simp only [lzI, hx, if_false, Int.toNat_natCast]
  have hb : Lib.bitLen x = Lib.bitLenAux 64 x := rfl
  rw [hb]
  generalize Lib.bitLenAux 64 x = n at *
  have e : ((64 : Int) - (n : Int)).toNat = 64 - n := by omega
  rw [e]
  refine ⟨by omega, by omega, ?_, ?_⟩
  · have h2 : 2 ^ (n - 1) * 2 ^ (64 - n) = 2 ^ 63 := by rw [← Nat.pow_add]; congr 1; omega
    have h3 : 2 ^ (n - 1) * 2 ^ (64 - n) ≤ x * 2 ^ (64 - n) := Nat.mul_le_mul_right _ b5
    have h4 : ((x * 2 ^ (64 - n) : Nat) : Int) = (x : Int) * 2 ^ (64 - n) := by rw [Int.natCast_mul, Int.natCast_pow]; rfl
    rw [← h4]
    rw [h2] at h3
    omega
  · have h2 : 2 ^ n * 2 ^ (64 - n) = 2 ^ 64 := by rw [← Nat.pow_add]; congr 1; omega
    have h3 : x * 2 ^ (64 - n) < 2 ^ n * 2 ^ (64 - n) := Nat.mul_lt_mul_of_pos_right b1 (Nat.pow_pos (by omega))
    have h4 : ((x * 2 ^ (64 - n) : Nat) : Int) = (x : Int) * 2 ^ (64 - n) := by rw [Int.natCast_mul, Int.natCast_pow]; rfl
    rw [← h4]
    rw [h2] at h3
    omega
/-- a long number by a divisor: its last digit apart -/
theorem two_digits {T d y B : Int} (hy : 0 < y) : (T * B + d) / y = T / y * B + (T % y * B + d) / y ∧ (T * B + d) % y = (T % y * B + d) % y := by
  have h := Int.emod_add_mul_ediv T y
  have e : T * B + d = T % y * B + d + y * (T / y * B) := by
    conv => lhs; rw [← h]
    rw [Int.add_mul, Int.mul_assoc]; omega
  constructor
  · rw [e, Int.add_mul_ediv_left _ _ (by omega)]; omega
  · rw [e, Int.add_mul_emod_self_left]
end Go.Proofs.YtekkphoingjidaaDoor

/- Div64: what stands before its two digits. Conditions: none beyond the context. -/
namespace Go.Proofs.YtekkphoingjidaaDoor
open Go.Evl Go.RowKit
theorem head80 (a b c : Int) : evFn Tryd.prog (spOf [e91]) (inlOf []) extD (cKD [e91] []) lp80 Tryd.f80 [.int .u64 a, .int .u64 b, .int .u64 c] [] (fun r _ => some r) =
  bif c == 0 then none else bif decide (c ≤ a) then none else bif a == 0 then (bif !decide (c = 0) then bif !decide (c = 0) then some (.ret (.tup [.int .u64 (IntKind.u64.wrap (b.tdiv c)), .int .u64 (b.tmod c)])) else none else none)
  else bif inU c then bif !decide (IntKind.u64.wrap (lzI c) < 0) then bif !decide (IntKind.u64.wrap (lzI c) < 0) then bif !decide (IntKind.u64.wrap (64 - IntKind.u64.wrap (lzI c)) < 0) then bif !decide (IntKind.u64.wrap (lzI c) < 0) then
    tail80 (IntKind.u64.wrap (c * 2 ^ min (IntKind.u64.wrap (lzI c)).toNat 64)) (IntKind.u64.wrap (lzI c)) ((IntKind.u64.wrap (c * 2 ^ min (IntKind.u64.wrap (lzI c)).toNat 64)).fdiv (2 ^ min (Int.toNat 32) 64))
      (IntKind.u64.wrap (BitVec.ofInt 64 (IntKind.u64.wrap (c * 2 ^ min (IntKind.u64.wrap (lzI c)).toNat 64)) &&& BitVec.ofInt 64 4294967295).toNat)
      (IntKind.u64.wrap (BitVec.ofInt 64 (IntKind.u64.wrap (a * 2 ^ min (IntKind.u64.wrap (lzI c)).toNat 64)) ||| BitVec.ofInt 64 (b.fdiv (2 ^ min (IntKind.u64.wrap (64 - IntKind.u64.wrap (lzI c))).toNat 64))).toNat)
      ((IntKind.u64.wrap (b * 2 ^ min (IntKind.u64.wrap (lzI c)).toNat 64)).fdiv (2 ^ min (Int.toNat 32) 64))
      (IntKind.u64.wrap (BitVec.ofInt 64 (IntKind.u64.wrap (b * 2 ^ min (IntKind.u64.wrap (lzI c)).toNat 64)) &&& BitVec.ofInt 64 4294967295).toNat)
    else none else none else none else none else none := by kernel_rfl
end Go.Proofs.YtekkphoingjidaaDoor

/- Div64's contract. Conditions: none beyond the context's. -/
namespace Go.Proofs.YtekkphoingjidaaDoor
open Go.Evl Go.RowKit

theorem toNat_ofInt64 {x : Int} (h0 : 0 ≤ x) (h1 : x < 18446744073709551616) : (BitVec.ofInt 64 x).toNat = x.toNat := by
  rw [BitVec.toNat_ofInt]
  have : x % ((2 ^ 64 : Nat) : Int) = x := Int.emod_eq_of_lt h0 (by omega)
  rw [this]
theorem and_low {y : Int} (h0 : 0 ≤ y) (h1 : y < 18446744073709551616) : IntKind.u64.wrap ((BitVec.ofInt 64 y &&& BitVec.ofInt 64 4294967295).toNat : Int) = y % 4294967296 := by
  rw [BitVec.toNat_and, toNat_ofInt64 h0 h1, toNat_ofInt64 (x := 4294967295) (by omega) (by omega)]
  have : y.toNat &&& (4294967295 : Int).toNat = y.toNat % 2 ^ 32 := Nat.and_two_pow_sub_one_eq_mod y.toNat 32
  rw [this]
  obtain ⟨n, rfl⟩ := Int.eq_ofNat_of_zero_le h0
  simp only [Int.toNat_natCast, IntKind.wrap_u64]
  omega
theorem or_join {p t : Int} {s : Nat} (hp : 0 ≤ p) (ht : 0 ≤ t) (ht2 : t < 2 ^ s) (hb : p * 2 ^ s + t < 18446744073709551616) :
    IntKind.u64.wrap ((BitVec.ofInt 64 (p * 2 ^ s) ||| BitVec.ofInt 64 t).toNat : Int) = p * 2 ^ s + t := by
  obtain ⟨P, rfl⟩ := Int.eq_ofNat_of_zero_le hp
  obtain ⟨T, rfl⟩ := Int.eq_ofNat_of_zero_le ht
  have e : (P : Int) * 2 ^ s = ((P * 2 ^ s : Nat) : Int) := by rw [Int.natCast_mul, Int.natCast_pow]; rfl
  have hT : T < 2 ^ s := by
    have e2 : (2 : Int) ^ s = ((2 ^ s : Nat) : Int) := by rw [Int.natCast_pow]; rfl
    rw [e2] at ht2; exact Int.ofNat_lt.1 ht2
  rw [e] at hb ⊢
  have h0 : 0 ≤ ((P * 2 ^ s : Nat) : Int) := Int.natCast_nonneg _
  rw [BitVec.toNat_or, toNat_ofInt64 h0 (by omega), toNat_ofInt64 (x := (T : Int)) (by omega) (by omega)]
  simp only [Int.toNat_natCast]
  have : P * 2 ^ s ||| T = P * 2 ^ s + T := by
    rw [← Nat.shiftLeft_eq]
    exact (Nat.shiftLeft_add_eq_or_of_lt hT P).symm
  rw [this, IntKind.wrap_u64]
  omega
theorem pow_split {s : Nat} (hs : s ≤ 64) : (2 : Int) ^ s * 2 ^ (64 - s) = 18446744073709551616 := by
  rw [← Int.pow_add, show s + (64 - s) = 64 by omega]; rfl
theorem two_pow_pos (s : Nat) : (0 : Int) < 2 ^ s := Int.pow_pos (by omega)
/-- a word moved to the left: what leaves it -/
theorem shl_parts {b : Int} {s : Nat} (hs : s ≤ 64) : b * 2 ^ s / 18446744073709551616 = b / 2 ^ (64 - s) := by
  rw [← pow_split hs, Int.mul_comm b, Int.mul_ediv_mul_of_pos _ _ (two_pow_pos s)]

def e80 : Ent := ⟨80, fun
  | [.int .u64 a, .int .u64 b, .int .u64 c] => .node (inU a && inU b && inU c && decide (a < c)) (.leaf (.ret (.tup [.int .u64 ((a * 18446744073709551616 + b) / c), .int .u64 ((a * 18446744073709551616 + b) % c)]))) .non
  | _ => .non⟩

theorem div80 {a b c : Int} (ha0 : 0 ≤ a) (hac : a < c) (hc1 : c < 18446744073709551616) (hb0 : 0 ≤ b) (hb1 : b < 18446744073709551616) :
    evFn Tryd.prog (spOf [e91]) (inlOf []) extD (cKD [e91] []) lp80 Tryd.f80 [.int .u64 a, .int .u64 b, .int .u64 c] [] (fun r _ => some r) =
    some (.ret (.tup [.int .u64 ((a * 18446744073709551616 + b) / c), .int .u64 ((a * 18446744073709551616 + b) % c)])) := by
  rw [head80]
  have c1 : (c == 0) = false := by simp; omega
  have c2 : decide (c ≤ a) = false := by simp; omega
  have c3 : (!decide (c = 0)) = true := by simp; omega
  rw [c1, c2, c3]
  by_cases h0 : a = 0
  · subst h0
    have : ((0 : Int) == 0) = true := rfl
    rw [this]
    simp only [cond_true, cond_false, Option.some.injEq, Res.ret.injEq, AV.tup.injEq, List.cons.injEq, AV.int.injEq, true_and, and_true]
    rw [Int.tdiv_eq_ediv_of_nonneg hb0, Int.tmod_eq_emod_of_nonneg hb0]
    have hd0 : 0 ≤ b / c := Int.ediv_nonneg hb0 (by omega)
    have hd1 : b / c ≤ b := Int.ediv_le_self _ hb0
    rw [wrapU hd0 (by omega)]
    simp
  · have c4 : (a == 0) = false := by simp; exact h0
    have c5 : inU c = true := inU_iff.2 ⟨by omega, hc1⟩
    obtain ⟨l0, l1, l2, l3⟩ := lz_bounds (c := c) (by omega) hc1
    rw [c4, c5]
    generalize hz : lzI c = z at *
    rw [wrapU (x := z) (by omega) (by omega)]
    rw [wrapU (x := 64 - z) (by omega) (by omega)]
    have c6 : (!decide (z < 0)) = true := by simp; omega
    have c7 : (!decide (64 - z < 0)) = true := by simp; omega
    rw [c6, c7]
    obtain ⟨s, rfl⟩ := Int.eq_ofNat_of_zero_le l0
    simp only [Int.toNat_natCast] at l2 l3 ⊢
    have m1 : min s 64 = s := by omega
    have m2 : (64 - (s : Int)).toNat = 64 - s := by omega
    have m3 : min (64 - s) 64 = 64 - s := by omega
    have m4 : min (Int.toNat 32) 64 = 32 := rfl
    rw [m2, m1, m3, m4]
    have hs : s ≤ 64 := by omega
    have hpow := two_pow_pos s
    have hyp : 0 < c * 2 ^ s := Int.mul_pos (by omega) hpow
    have hau : a * 2 ^ s < c * 2 ^ s := Int.mul_lt_mul_of_pos_right hac hpow
    have ha2 : 0 ≤ a * 2 ^ s := Int.mul_nonneg ha0 (by omega)
    have hb2 : 0 ≤ b * 2 ^ s := Int.mul_nonneg hb0 (by omega)
    rw [wrapU (x := c * 2 ^ s) (by omega) l3, wrapU (x := a * 2 ^ s) ha2 (by omega)]
    rw [Int.fdiv_eq_ediv_of_nonneg _ (show (0 : Int) ≤ 2 ^ 32 by omega), Int.fdiv_eq_ediv_of_nonneg _ (show (0 : Int) ≤ 2 ^ 32 by omega), Int.fdiv_eq_ediv_of_nonneg b (show (0 : Int) ≤ 2 ^ (64 - s) by have := two_pow_pos (64 - s); omega)]
    rw [and_low (y := c * 2 ^ s) (by omega) l3]
    have hw0 : 0 ≤ IntKind.u64.wrap (b * 2 ^ s) := by simp only [IntKind.wrap_u64]; omega
    have hw1 : IntKind.u64.wrap (b * 2 ^ s) < 18446744073709551616 := by simp only [IntKind.wrap_u64]; omega
    rw [and_low hw0 hw1]
    have hwb : IntKind.u64.wrap (b * 2 ^ s) = b * 2 ^ s % 18446744073709551616 := by simp only [IntKind.wrap_u64]
    have hq := shl_parts (b := b) hs
    have ht0 : 0 ≤ b / 2 ^ (64 - s) := Int.ediv_nonneg hb0 (by have := two_pow_pos (64 - s); omega)
    have ht1 : b / 2 ^ (64 - s) < 2 ^ s := by
      rw [Int.ediv_lt_iff_lt_mul (two_pow_pos _), pow_split hs]; exact hb1
    have hle : a * 2 ^ s + 2 ^ s ≤ c * 2 ^ s := by
      have : (a + 1) * 2 ^ s ≤ c * 2 ^ s := Int.mul_le_mul_of_nonneg_right (by omega) (by omega)
      rw [Int.add_mul, Int.one_mul] at this; exact this
    rw [or_join ha0 ht0 ht1 (by omega)]
    have e32 : (2 : Int) ^ 32 = 4294967296 := rfl
    rw [e32]
    generalize hY : c * 2 ^ s = Y at *
    generalize hW : IntKind.u64.wrap (b * 2 ^ s) = W at *
    have hu0 : 0 ≤ a * 2 ^ s + b / 2 ^ (64 - s) := by omega
    have hu1 : a * 2 ^ s + b / 2 ^ (64 - s) < Y := by omega
    simp only [cond_true, cond_false]
    rw [tail80_eq (y := Y) (by omega) (by omega) (by omega) (by omega) (by omega) (by omega) (by omega) (by omega) (by omega) hu0 hu1 (by omega)]
    have hN : ((a * 2 ^ s + b / 2 ^ (64 - s)) * 4294967296 + W / 4294967296) * 4294967296 + W % 4294967296 = (a * 18446744073709551616 + b) * 2 ^ s := by
      have e1 : (a * 18446744073709551616 + b) * 2 ^ s = a * 2 ^ s * 18446744073709551616 + b * 2 ^ s := by rw [Int.add_mul, Int.mul_assoc, Int.mul_comm 18446744073709551616, ← Int.mul_assoc]
      rw [e1, hwb, ← hq]
      generalize a * 2 ^ s = p
      generalize b * 2 ^ s = q
      omega
    obtain ⟨t1, t2⟩ := two_digits (T := (a * 2 ^ s + b / 2 ^ (64 - s)) * 4294967296 + W / 4294967296) (d := W % 4294967296) (y := Y) (B := 4294967296) hyp
    rw [← t1, ← t2, hN, ← hY]
    simp only [Int.toNat_natCast, m1]
    rw [Int.mul_ediv_mul_of_pos_left _ _ hpow, Int.mul_comm _ ((2 : Int) ^ s), Int.mul_comm c, Int.mul_emod_mul_of_pos _ _ hpow, Int.fdiv_eq_ediv_of_nonneg _ (by omega), Int.mul_ediv_cancel_left _ (by omega)]
theorem e80_ok : SpecHolds Tryd.prog InvD 80 fun a => (e80.2 a).run := by
  refine specD cx80 Tryd.func80 (c := codeOf Tryd.prog 80) (by kernel_rfl) lp80 (fun p hp => ?_) fun args r h => ?_
  · have hl : loops (codeOf Tryd.prog 80) = [(0, bodyOf Tryd.prog 80 0), (2, bodyOf Tryd.prog 80 2)] := by kernel_rfl
    rw [hl] at hp
    simp only [List.mem_cons, List.not_mem_nil, or_false] at hp
    rcases hp with rfl | rfl
    · dsimp only [LoopOkT, lp80]
      exact ⟨by decide, by decide, sum80a⟩
    · dsimp only [LoopOkT, lp80]
      exact ⟨by decide, by decide, sum80b⟩
  · simp only [e80] at h
    split at h
    · rename_i a b c
      rcases node_run h with ⟨hc, h⟩ | ⟨_, h⟩
      · simp only [Tr.run, Option.some.injEq] at h
        subst h
        simp only [Bool.and_eq_true, inU_iff, decide_eq_true_eq] at hc
        obtain ⟨⟨⟨⟨a0, a1⟩, b0, b1⟩, c0, c1⟩, hac⟩ := hc
        exact ⟨by kernel_rfl, rfl, div80 a0 hac c1 b0 b1⟩
      · simp [Tr.run] at h
    · simp [Tr.run] at h
end Go.Proofs.YtekkphoingjidaaDoor

/- Contracts of wide numbers. Conditions: none beyond the context's. -/
namespace Go.Proofs.YtekkphoingjidaaDoor
open Go.Evl Go.RowKit

/-- the number of two words -/
def wV (hi lo : Int) : Int := hi * 18446744073709551616 + lo
def e79 : Ent := ⟨79, fun
  | [.int .u64 a, .int .u64 b, .int .u64 c] => .node (inU a && inU b && inU c && decide (0 < c)) (.leaf (.ret (.int .u64 (wV a b % c)))) .non
  | _ => .non⟩
def e65 : Ent := ⟨65, fun
  | [.agg [.int .u64 a, .int .u64 b], .agg [.int .u64 c, .int .u64 d]] => .node (inU a && inU b && inU c && inU d && decide (a + c < 18446744073709551615)) (.leaf (.ret (.agg [.int .u64 ((wV a b + wV c d) / 18446744073709551616), .int .u64 ((wV a b + wV c d) % 18446744073709551616)]))) .non
  | _ => .non⟩
def e66 : Ent := ⟨66, fun
  | [.agg [.int .u64 a, .int .u64 b], .agg [.int .u64 c, .int .u64 d]] => .node (inU a && inU b && inU c && inU d && decide (wV c d ≤ wV a b)) (.leaf (.ret (.agg [.int .u64 ((wV a b - wV c d) / 18446744073709551616), .int .u64 ((wV a b - wV c d) % 18446744073709551616)]))) .non
  | _ => .non⟩
def e67 : Ent := ⟨67, fun
  | [.agg [.int .u64 a, .int .u64 b], .int .u64 c] => .node (inU a && inU b && inU c && decide (0 < c)) (.leaf (.ret (.int .u64 (wV a b % c)))) .non
  | _ => .non⟩
def e68 : Ent := ⟨68, fun
  | [.agg [.int .u64 a, .int .u64 b], .int .u64 c] => .node (inU a && inU b && inU c && decide (0 < c)) (.leaf (.ret (.agg [.int .u64 (wV a b / c / 18446744073709551616), .int .u64 (wV a b / c % 18446744073709551616)]))) .non
  | _ => .non⟩
end Go.Proofs.YtekkphoingjidaaDoor

/- Contracts of wide numbers: proofs. Conditions: none beyond the context's. -/
namespace Go.Proofs.YtekkphoingjidaaDoor
open Go.Evl Go.RowKit

theorem tree79 (a b c : Int) : evFn Tryd.prog (spOf [e80]) (inlOf []) extD (cKD [e80] []) (fun _ => .unroll 0) Tryd.f79 [.int .u64 a, .int .u64 b, .int .u64 c] [] (fun r _ => some r) =
    (bif !decide (c = 0) then
      bif inU (a.tmod c) && inU b && inU c && decide (a.tmod c < c) then
        some (Res.ret (AV.int IntKind.u64 ((a.tmod c * 18446744073709551616 + b) % c)))
      else none
    else none : Option Res) := by kernel_rfl
theorem tree65 (a b c d : Int) : evFn Tryd.prog (spOf []) (inlOf []) extD (cKD [] []) (fun _ => .unroll 0) Tryd.f65 [.agg [.int .u64 a, .int .u64 b], .agg [.int .u64 c, .int .u64 d]] [] (fun r _ => some r) =
    (bif decide (0 ≤ b) && decide (0 ≤ d) && true && true then
      bif
          decide (0 ≤ a) && decide (0 ≤ c) && decide (0 ≤ (b + d + 0) / 18446744073709551616) &&
            decide ((b + d + 0) / 18446744073709551616 ≤ 1) then
        some
          (Res.ret
            (AV.agg
              [AV.int IntKind.u64 ((a + c + (b + d + 0) / 18446744073709551616) % 18446744073709551616),
                AV.int IntKind.u64 ((b + d + 0) % 18446744073709551616)]))
      else none
    else none : Option Res) := by kernel_rfl
theorem tree66 (a b c d : Int) : evFn Tryd.prog (spOf []) (inlOf []) extD (cKD [] []) (fun _ => .unroll 0) Tryd.f66 [.agg [.int .u64 a, .int .u64 b], .agg [.int .u64 c, .int .u64 d]] [] (fun r _ => some r) =
    (bif decide (0 ≤ b) && decide (0 ≤ d) && decide (d < 18446744073709551616) && true && true then
      bif
          decide (0 ≤ a) && decide (0 ≤ c) && decide (c < 18446744073709551616) &&
              decide (0 ≤ bif decide (b < d + 0) then (1 : Int) else 0) &&
            decide ((bif decide (b < d + 0) then (1 : Int) else 0) ≤ 1) then
        some
          (Res.ret
            (AV.agg
              [AV.int IntKind.u64 ((a - c - bif decide (b < d + 0) then (1 : Int) else 0) % 18446744073709551616),
                AV.int IntKind.u64 ((b - d - 0) % 18446744073709551616)]))
      else none
    else none : Option Res) := by kernel_rfl
theorem tree67 (a b c : Int) : evFn Tryd.prog (spOf [e79]) (inlOf []) extD (cKD [e79] []) (fun _ => .unroll 0) Tryd.f67 [.agg [.int .u64 a, .int .u64 b], .int .u64 c] [] (fun r _ => some r) =
    (bif inU a && inU b && inU c && decide (0 < c) then some (Res.ret (AV.int IntKind.u64 (wV a b % c))) else none : Option Res) := by kernel_rfl
theorem tree68 (a b c : Int) : evFn Tryd.prog (spOf [e80]) (inlOf []) extD (cKD [e80] []) (fun _ => .unroll 0) Tryd.f68 [.agg [.int .u64 a, .int .u64 b], .int .u64 c] [] (fun r _ => some r) =
    (bif !decide (c = 0) then
      bif inU (a.tmod c) && inU b && inU c && decide (a.tmod c < c) then
        bif !decide (c = 0) then
          some
            (Res.ret
              (AV.agg
                [AV.int IntKind.u64 (IntKind.u64.wrap (a.tdiv c)),
                  AV.int IntKind.u64 ((a.tmod c * 18446744073709551616 + b) / c)]))
        else none
      else none
    else none : Option Res) := by kernel_rfl
theorem wide_mod {a b c : Int} (hc : 0 < c) : wV (a % c) b % c = wV a b % c := (two_digits (T := a) (d := b) (B := 18446744073709551616) hc).2.symm
theorem wide_q {a b c : Int} (hb : 0 ≤ b) (hb1 : b < 18446744073709551616) (hc : 0 < c) : 0 ≤ wV (a % c) b / c ∧ wV (a % c) b / c < 18446744073709551616 := by
  have h1 := Int.emod_nonneg a (show c ≠ 0 by omega)
  have h2 := Int.emod_lt_of_pos a hc
  unfold wV
  refine ⟨Int.ediv_nonneg (by omega) (by omega), ?_⟩
  rw [Int.ediv_lt_iff_lt_mul hc]
  omega
theorem wide_div {a b c : Int} (hb : 0 ≤ b) (hb1 : b < 18446744073709551616) (hc : 0 < c) : wV a b / c / 18446744073709551616 = a / c ∧ wV a b / c % 18446744073709551616 = wV (a % c) b / c := by
  have h := (two_digits (T := a) (d := b) (B := 18446744073709551616) hc).1
  obtain ⟨h1, h2⟩ := wide_q (a := a) hb hb1 hc
  unfold wV at *
  rw [h]
  omega
theorem div_le_self' {a c : Int} (ha : 0 ≤ a) (hc : 0 < c) : 0 ≤ a / c ∧ a / c ≤ a := ⟨Int.ediv_nonneg ha (by omega), Int.ediv_le_self _ ha⟩
theorem cx79 : (mkCx Tryd.prog (spOf [e80]) (inlOf []) extD).Ok InvD := cx_of [] (by kernel_rfl) (by
  intro p hp
  simp only [List.mem_cons, List.not_mem_nil, or_false] at hp
  subst hp
  exact e80_ok)
theorem e79_ok : SpecHolds Tryd.prog InvD 79 fun a => (e79.2 a).run := by
  refine specD cx79 Tryd.func79 (c := codeOf Tryd.prog 79) (by kernel_rfl) (fun _ => .unroll 0) (fun _ _ => trivial) fun args r h => ?_
  simp only [e79] at h
  split at h
  · rename_i a b c
    rcases node_run h with ⟨hc, h⟩ | ⟨_, h⟩
    · simp only [Tr.run, Option.some.injEq] at h
      subst h
      simp only [Bool.and_eq_true, inU_iff, decide_eq_true_eq] at hc
      obtain ⟨⟨⟨⟨a0, a1⟩, b0, b1⟩, c0, c1⟩, hac⟩ := hc
      refine ⟨by kernel_rfl, rfl, ?_⟩
      have h1 := Int.emod_nonneg a (show c ≠ 0 by omega)
      have h2 := Int.emod_lt_of_pos a hac
      rw [tree79, Int.tmod_eq_emod_of_nonneg a0]
      have k1 : (!decide (c = 0)) = true := by simp; omega
      have k2 : (inU (a % c) && inU b && inU c && decide (a % c < c)) = true := by simp only [Bool.and_eq_true, inU_iff, decide_eq_true_eq]; omega
      rw [k1, k2, ← wide_mod hac]
      rfl
    · simp [Tr.run] at h
  · simp [Tr.run] at h
theorem cx67 : (mkCx Tryd.prog (spOf [e79]) (inlOf []) extD).Ok InvD := cx_of [] (by kernel_rfl) (by
  intro p hp
  simp only [List.mem_cons, List.not_mem_nil, or_false] at hp
  subst hp
  exact e79_ok)
theorem e67_ok : SpecHolds Tryd.prog InvD 67 fun a => (e67.2 a).run := by
  refine specD cx67 Tryd.func67 (c := codeOf Tryd.prog 67) (by kernel_rfl) (fun _ => .unroll 0) (fun _ _ => trivial) fun args r h => ?_
  simp only [e67] at h
  split at h
  · rename_i a b c
    exact ⟨by kernel_rfl, tr_ok (by rfl) h, by rw [tree67]; exact h⟩
  · simp [Tr.run] at h
theorem e68_ok : SpecHolds Tryd.prog InvD 68 fun a => (e68.2 a).run := by
  refine specD cx79 Tryd.func68 (c := codeOf Tryd.prog 68) (by kernel_rfl) (fun _ => .unroll 0) (fun _ _ => trivial) fun args r h => ?_
  simp only [e68] at h
  split at h
  · rename_i a b c
    rcases node_run h with ⟨hc, h⟩ | ⟨_, h⟩
    · simp only [Tr.run, Option.some.injEq] at h
      subst h
      simp only [Bool.and_eq_true, inU_iff, decide_eq_true_eq] at hc
      obtain ⟨⟨⟨⟨a0, a1⟩, b0, b1⟩, c0, c1⟩, hac⟩ := hc
      refine ⟨by kernel_rfl, rfl, ?_⟩
      have h1 := Int.emod_nonneg a (show c ≠ 0 by omega)
      have h2 := Int.emod_lt_of_pos a hac
      obtain ⟨d1, d2⟩ := div_le_self' a0 hac
      rw [tree68, Int.tmod_eq_emod_of_nonneg a0, Int.tdiv_eq_ediv_of_nonneg a0, wrapU d1 (by omega)]
      have k1 : (!decide (c = 0)) = true := by simp; omega
      have k2 : (inU (a % c) && inU b && inU c && decide (a % c < c)) = true := by simp only [Bool.and_eq_true, inU_iff, decide_eq_true_eq]; omega
      obtain ⟨w1, w2⟩ := wide_div (a := a) b0 b1 hac
      rw [k1, k2, w1, w2]
      rfl
    · simp [Tr.run] at h
  · simp [Tr.run] at h
theorem e65_ok : SpecHolds Tryd.prog InvD 65 fun a => (e65.2 a).run := by
  refine specD cx0 Tryd.func65 (c := codeOf Tryd.prog 65) (by kernel_rfl) (fun _ => .unroll 0) (fun _ _ => trivial) fun args r h => ?_
  simp only [e65] at h
  split at h
  · rename_i a b c d
    rcases node_run h with ⟨hc, h⟩ | ⟨_, h⟩
    · simp only [Tr.run, Option.some.injEq] at h
      subst h
      simp only [Bool.and_eq_true, inU_iff, decide_eq_true_eq] at hc
      obtain ⟨⟨⟨⟨⟨a0, a1⟩, b0, b1⟩, c0, c1⟩, d0, d1⟩, hac⟩ := hc
      refine ⟨by kernel_rfl, rfl, ?_⟩
      rw [tree65]
      have k1 : (decide (0 ≤ b) && decide (0 ≤ d) && true && true) = true := by simp; omega
      have k2 : (decide (0 ≤ a) && decide (0 ≤ c) && decide (0 ≤ (b + d + 0) / 18446744073709551616) && decide ((b + d + 0) / 18446744073709551616 ≤ 1)) = true := by simp only [Bool.and_eq_true, decide_eq_true_eq]; omega
      rw [k1, k2]
      have w1 : (wV a b + wV c d) / 18446744073709551616 = (a + c + (b + d + 0) / 18446744073709551616) % 18446744073709551616 := by unfold wV; omega
      have w2 : (wV a b + wV c d) % 18446744073709551616 = (b + d + 0) % 18446744073709551616 := by unfold wV; omega
      rw [w1, w2]
      rfl
    · simp [Tr.run] at h
  · simp [Tr.run] at h
theorem e66_ok : SpecHolds Tryd.prog InvD 66 fun a => (e66.2 a).run := by
  refine specD cx0 Tryd.func66 (c := codeOf Tryd.prog 66) (by kernel_rfl) (fun _ => .unroll 0) (fun _ _ => trivial) fun args r h => ?_
  simp only [e66] at h
  split at h
  · rename_i a b c d
    rcases node_run h with ⟨hc, h⟩ | ⟨_, h⟩
    · simp only [Tr.run, Option.some.injEq] at h
      subst h
      simp only [Bool.and_eq_true, inU_iff, decide_eq_true_eq] at hc
      obtain ⟨⟨⟨⟨⟨a0, a1⟩, b0, b1⟩, c0, c1⟩, d0, d1⟩, hac⟩ := hc
      refine ⟨by kernel_rfl, rfl, ?_⟩
      rw [tree66]
      unfold wV at hac ⊢
      have k1 : (decide (0 ≤ b) && decide (0 ≤ d) && decide (d < 18446744073709551616) && true && true) = true := by simp; omega
      rw [k1]
      have w2 : (a * 18446744073709551616 + b - (c * 18446744073709551616 + d)) % 18446744073709551616 = (b - d - 0) % 18446744073709551616 := by omega
      rw [w2]
      by_cases hb : b < d + 0
      · rw [decide_eq_true hb]
        have w1 : (a * 18446744073709551616 + b - (c * 18446744073709551616 + d)) / 18446744073709551616 = (a - c - 1) % 18446744073709551616 := by omega
        rw [w1]
        simp only [cond_true]
        have k2 : (decide (0 ≤ a) && decide (0 ≤ c) && decide (c < 18446744073709551616) && decide ((0 : Int) ≤ 1) && decide ((1 : Int) ≤ 1)) = true := by simp; omega
        rw [k2]
        rfl
      · rw [decide_eq_false hb]
        have w1 : (a * 18446744073709551616 + b - (c * 18446744073709551616 + d)) / 18446744073709551616 = (a - c - 0) % 18446744073709551616 := by omega
        rw [w1]
        simp only [cond_true, cond_false]
        have k2 : (decide (0 ≤ a) && decide (0 ≤ c) && decide (c < 18446744073709551616) && decide ((0 : Int) ≤ 0) && decide ((0 : Int) ≤ 1)) = true := by simp; omega
        rw [k2]
        rfl
    · simp [Tr.run] at h
  · simp [Tr.run] at h
end Go.Proofs.YtekkphoingjidaaDoor

/- The text of sum, in pieces. No condition. -/
namespace Go.Proofs.YtekkphoingjidaaDoor
open Go.Evl Go.RowKit
def keep46 : List Nat := [2, 3, 4, 5, 8, 9]
def lp46 (i : Nat) : LT := bif Nat.beq i 1000012 then .forget keep46 else .unroll 0
/-- what lies in memory before sum's test for zero -/
def heap46 (a b c d p1 p0 q1 q0 n1 n0 : Int) : List Ob :=
  [.cells [.int .i64 a, .int .i64 b] 23, .cells [.int .i64 c, .int .i64 d] 23, .cells [.int .i64 0, .int .i64 0] 23, .free, .free, .free, .free, .free, .free, .free, .free, .free, .cells [.int .u64 p1, .int .u64 p0] 49,
   .free, .free, .free, .free, .free, .free, .free, .free, .free, .cells [.int .u64 q1, .int .u64 q0] 49, .cells [.int .u64 n1, .int .u64 n0] 49]
end Go.Proofs.YtekkphoingjidaaDoor

/- Sums and products of reduced fractions: the plain law. No model. Conditions: in each statement. -/
namespace Go.Proofs.YtekkphoingjidaaDoor
open Go.Evl Go.RowKit

theorem gcdI_int {x y : Int} (hx : 0 ≤ x) (hy : 0 ≤ y) : gcdI x y = (Int.gcd x y : Int) := by
  obtain ⟨X, rfl⟩ := Int.eq_ofNat_of_zero_le hx
  obtain ⟨Y, rfl⟩ := Int.eq_ofNat_of_zero_le hy
  rw [gcdI_eq]; rfl
theorem absI_nonneg (x : Int) : 0 ≤ absI x := by rw [absI_eq]; omega
theorem gcd_absI (x y : Int) : Int.gcd (absI x) y = Int.gcd x y := by rw [absI_eq]; simp [Int.gcd]
theorem gcdI_abs {x y : Int} (hy : 0 ≤ y) : gcdI (absI x) y = (Int.gcd x y : Int) := by rw [gcdI_int (absI_nonneg x) hy, gcd_absI]
theorem absI_mul (x y : Int) (hy : 0 ≤ y) : absI (x * y) = absI x * y := by
  rw [absI_eq, absI_eq, Int.natAbs_mul, Int.natCast_mul, show ((y.natAbs : Nat) : Int) = y by omega]
/-- numerators of a sum have no divisor with what is apart in the denominators -/
theorem cop_sum {a c b' d' G : Int} (hab : Int.gcd a (b' * G) = 1) (hcd : Int.gcd c (d' * G) = 1) (hbd : Int.gcd b' d' = 1) : Int.gcd (a * d' + c * b') (b' * d' * G) = Int.gcd (a * d' + c * b') G := by
  have h1 : Nat.Coprime a.natAbs b'.natAbs := by
    have : Nat.Coprime a.natAbs (b' * G).natAbs := hab
    rw [Int.natAbs_mul] at this
    exact Nat.Coprime.coprime_mul_right_right this
  have h2 : Nat.Coprime c.natAbs d'.natAbs := by
    have : Nat.Coprime c.natAbs (d' * G).natAbs := hcd
    rw [Int.natAbs_mul] at this
    exact Nat.Coprime.coprime_mul_right_right this
  have h3 : Nat.Coprime b'.natAbs d'.natAbs := hbd
  have k1 : Nat.Coprime b'.natAbs (a * d' + c * b').natAbs := by
    have e : Int.gcd (a * d' + c * b') b' = Int.gcd (a * d') b' := Int.gcd_add_mul_right_left b' (a * d') c
    have e2 : Nat.Coprime (a * d').natAbs b'.natAbs := by
      rw [Int.natAbs_mul]
      exact Nat.Coprime.mul_left h1 h3.symm
    have : Nat.gcd (a * d' + c * b').natAbs b'.natAbs = 1 := e.trans e2
    exact (Nat.coprime_iff_gcd_eq_one.2 this).symm
  have k2 : Nat.Coprime d'.natAbs (a * d' + c * b').natAbs := by
    have e : Int.gcd (c * b' + a * d') d' = Int.gcd (c * b') d' := Int.gcd_add_mul_right_left d' (c * b') a
    have e2 : Nat.Coprime (c * b').natAbs d'.natAbs := by
      rw [Int.natAbs_mul]
      exact Nat.Coprime.mul_left h2 h3
    have : Nat.gcd (a * d' + c * b').natAbs d'.natAbs = 1 := by rw [Int.add_comm]; exact e.trans e2
    exact (Nat.coprime_iff_gcd_eq_one.2 this).symm
  show Nat.gcd _ _ = Nat.gcd _ _
  rw [Int.natAbs_mul, Int.natAbs_mul, Nat.mul_assoc, Nat.Coprime.gcd_mul_left_cancel_right _ k1, Nat.Coprime.gcd_mul_left_cancel_right _ k2]

/-- what the sum of two reduced fractions is, reduced -/
theorem sum_law {a b c d : Int} (hb : 1 ≤ b) (hd : 1 ≤ d) (hab : Nat.gcd a.natAbs b.natAbs = 1) (hcd : Nat.gcd c.natAbs d.natAbs = 1) (t : Int) (ht : t = a * (d / gcdI b d) + c * (b / gcdI b d)) :
    0 < gcdI b d ∧ b / gcdI b d * gcdI b d = b ∧ d / gcdI b d * gcdI b d = d ∧ 0 < gcdI (absI t) (gcdI b d) ∧ d / gcdI (absI t) (gcdI b d) * gcdI (absI t) (gcdI b d) = d ∧ a * d + c * b = t * gcdI b d ∧
    mkA (a * d + c * b) (b * d) = absI t / gcdI (absI t) (gcdI b d) ∧ mkD (a * d + c * b) (b * d) = b / gcdI b d * (d / gcdI (absI t) (gcdI b d)) := by
  have hG0 : 0 < Int.gcd b d := Int.gcd_pos_of_ne_zero_left _ (by omega)
  have eG : gcdI b d = (Int.gcd b d : Int) := gcdI_int (by omega) (by omega)
  have hbG : b / (Int.gcd b d : Int) * (Int.gcd b d : Int) = b := Int.ediv_mul_cancel (Int.gcd_dvd_left ..)
  have hdG : d / (Int.gcd b d : Int) * (Int.gcd b d : Int) = d := Int.ediv_mul_cancel (Int.gcd_dvd_right ..)
  have hcop : Int.gcd (b / (Int.gcd b d : Int)) (d / (Int.gcd b d : Int)) = 1 := by
    have := Nat.coprime_div_gcd_div_gcd (m := b.natAbs) (n := d.natAbs) hG0
    have e1 : (b / (Int.gcd b d : Int)).natAbs = b.natAbs / Int.gcd b d := by
      obtain ⟨B, rfl⟩ := Int.eq_ofNat_of_zero_le (show 0 ≤ b by omega)
      rfl
    have e2 : (d / (Int.gcd b d : Int)).natAbs = d.natAbs / Int.gcd b d := by
      obtain ⟨D, rfl⟩ := Int.eq_ofNat_of_zero_le (show 0 ≤ d by omega)
      rfl
    show Nat.gcd _ _ = 1
    rw [e1, e2]; exact this
  rw [eG] at ht ⊢
  generalize Int.gcd b d = G at *
  generalize hb' : b / (G : Int) = b' at *
  generalize hd' : d / (G : Int) = d' at *
  have hGp : (0 : Int) < G := by omega
  have eR : gcdI (absI t) (G : Int) = (Int.gcd t G : Int) := gcdI_abs (by omega)
  have hR0 : 0 < Int.gcd t G := Int.gcd_pos_of_ne_zero_right _ (by omega)
  have hRd : (Int.gcd t G : Int) ∣ d := by rw [← hdG]; exact Int.dvd_trans (Int.gcd_dvd_right ..) (Int.dvd_mul_left ..)
  have hn : a * d + c * b = t * G := by
    rw [ht, Int.add_mul, Int.mul_assoc, Int.mul_assoc, hdG, hbG]
  have hm : b * d = b' * d' * G * G := by
    conv => lhs; rw [← hbG, ← hdG]
    rw [Int.mul_assoc b', ← Int.mul_assoc (G : Int) d', Int.mul_comm (G : Int) d']
    simp only [Int.mul_assoc]
  have hcs : Int.gcd t (b' * d' * G) = Int.gcd t G := by
    rw [ht]
    exact cop_sum (by rw [hbG]; exact hab) (by rw [hdG]; exact hcd) hcop
  have hb'0 : 0 ≤ b' := by
    rcases Int.lt_or_le b' 0 with h | h
    · have := Int.mul_neg_of_neg_of_pos h hGp; omega
    · exact h
  have hd'0 : 0 ≤ d' := by
    rcases Int.lt_or_le d' 0 with h | h
    · have := Int.mul_neg_of_neg_of_pos h hGp; omega
    · exact h
  have hm0 : 0 ≤ b' * d' * G * G := by rw [← hm]; exact Int.mul_nonneg (by omega) (by omega)
  have hg : mkG (a * d + c * b) (b * d) = (Int.gcd t G : Int) * G := by
    unfold mkG
    rw [hn, hm, gcdI_abs (absI_nonneg _), show absI (b' * d' * G * G) = b' * d' * G * G by rw [absI_eq]; omega, Int.gcd_mul_right, hcs, Int.natCast_mul]
    rfl
  have hRp : (0 : Int) < (Int.gcd t G : Int) := by omega
  rw [eR]
  refine ⟨hGp, hbG, hdG, hRp, Int.ediv_mul_cancel hRd, hn, ?_, ?_⟩
  · unfold mkA
    rw [hg, hn, absI_mul _ _ (by omega), Int.mul_ediv_mul_of_pos_left _ _ hGp]
  · unfold mkD
    rw [hg, hm, show absI (b' * d' * G * G) = b' * d' * G * G by rw [absI_eq]; omega, Int.mul_ediv_mul_of_pos_left _ _ hGp, Int.mul_assoc b' d', hdG, Int.mul_ediv_assoc _ hRd]

theorem mul_law {a b c d : Int} (hb : 1 ≤ b) (hd : 1 ≤ d) (hab : Nat.gcd a.natAbs b.natAbs = 1) (hcd : Nat.gcd c.natAbs d.natAbs = 1) :
    0 < gcdI (absI a) d ∧ 0 < gcdI (absI c) b ∧ absI a / gcdI (absI a) d * gcdI (absI a) d = absI a ∧ d / gcdI (absI a) d * gcdI (absI a) d = d ∧ absI c / gcdI (absI c) b * gcdI (absI c) b = absI c ∧ b / gcdI (absI c) b * gcdI (absI c) b = b ∧
    mkA (a * c) (b * d) = absI a / gcdI (absI a) d * (absI c / gcdI (absI c) b) ∧ mkD (a * c) (b * d) = b / gcdI (absI c) b * (d / gcdI (absI a) d) := by
  obtain ⟨A, hA⟩ : ∃ A : Nat, absI a = A := ⟨a.natAbs, absI_eq a⟩
  obtain ⟨C, hC⟩ : ∃ C : Nat, absI c = C := ⟨c.natAbs, absI_eq c⟩
  obtain ⟨B, rfl⟩ := Int.eq_ofNat_of_zero_le (show 0 ≤ b by omega)
  obtain ⟨D, rfl⟩ := Int.eq_ofNat_of_zero_le (show 0 ≤ d by omega)
  have hAB : Nat.Coprime A B := by
    have e : a.natAbs = A := by have := absI_eq a; omega
    rw [← e]; exact hab
  have hCD : Nat.Coprime C D := by
    have e : c.natAbs = C := by have := absI_eq c; omega
    rw [← e]; exact hcd
  have hac : absI (a * c) = ((A * C : Nat) : Int) := by
    rw [absI_eq, Int.natAbs_mul]
    have e : a.natAbs = A := by have := absI_eq a; omega
    have e2 : c.natAbs = C := by have := absI_eq c; omega
    rw [e, e2]
  have hbd : absI ((B : Int) * D) = ((B * D : Nat) : Int) := by rw [← Int.natCast_mul, absI_eq]; omega
  have hp : 0 < Nat.gcd A D := Nat.gcd_pos_of_pos_right _ (by omega)
  have hq : 0 < Nat.gcd C B := Nat.gcd_pos_of_pos_right _ (by omega)
  unfold mkA mkD mkG
  rw [hac, hbd, hA, hC, gcdI_eq, gcdI_eq, gcdI_eq]
  simp only [← Int.natCast_ediv, ← Int.natCast_mul]
  have hA1 : A / Nat.gcd A D * Nat.gcd A D = A := Nat.div_mul_cancel (Nat.gcd_dvd_left ..)
  have hD1 : D / Nat.gcd A D * Nat.gcd A D = D := Nat.div_mul_cancel (Nat.gcd_dvd_right ..)
  have hC1 : C / Nat.gcd C B * Nat.gcd C B = C := Nat.div_mul_cancel (Nat.gcd_dvd_left ..)
  have hB1 : B / Nat.gcd C B * Nat.gcd C B = B := Nat.div_mul_cancel (Nat.gcd_dvd_right ..)
  have c1 : Nat.Coprime (A / Nat.gcd A D) (D / Nat.gcd A D) := Nat.coprime_div_gcd_div_gcd hp
  have c2 : Nat.Coprime (C / Nat.gcd C B) (B / Nat.gcd C B) := Nat.coprime_div_gcd_div_gcd hq
  have c3 : Nat.Coprime (A / Nat.gcd A D) (B / Nat.gcd C B) := (hAB.coprime_dvd_left ⟨_, hA1.symm⟩).coprime_dvd_right ⟨_, hB1.symm⟩
  have c4 : Nat.Coprime (C / Nat.gcd C B) (D / Nat.gcd A D) := (hCD.coprime_dvd_left ⟨_, hC1.symm⟩).coprime_dvd_right ⟨_, hD1.symm⟩
  generalize Nat.gcd A D = p at *
  generalize Nat.gcd C B = q at *
  generalize A / p = A' at *
  generalize D / p = D' at *
  generalize C / q = C' at *
  generalize B / q = B' at *
  have hg : Nat.gcd (A * C) (B * D) = p * q := by
    have e1 : A * C = A' * C' * (p * q) := by rw [← hA1, ← hC1]; simp only [Nat.mul_assoc, Nat.mul_left_comm]
    have e2 : B * D = B' * D' * (p * q) := by
      rw [← hB1, ← hD1, Nat.mul_comm p q]; simp only [Nat.mul_assoc, Nat.mul_left_comm]
    rw [e1, e2, Nat.gcd_mul_right]
    have : Nat.gcd (A' * C') (B' * D') = 1 := Nat.Coprime.mul_left (Nat.Coprime.mul_right c3 c1) (Nat.Coprime.mul_right c2 c4)
    rw [this, Nat.one_mul]
  have hpq : 0 < p * q := Nat.mul_pos hp hq
  refine ⟨by omega, by omega, by rw [hA1], by rw [hD1], by rw [hC1], by rw [hB1], ?_, ?_⟩
  · rw [hg, show A * C = A' * C' * (p * q) by rw [← hA1, ← hC1]; simp only [Nat.mul_assoc, Nat.mul_left_comm], Nat.mul_div_cancel _ hpq]
  · rw [hg, show B * D = B' * D' * (p * q) by rw [← hB1, ← hD1, Nat.mul_comm p q]; simp only [Nat.mul_assoc, Nat.mul_left_comm], Nat.mul_div_cancel _ hpq]
end Go.Proofs.YtekkphoingjidaaDoor

/- The ways of sum up to its test for zero. No condition. -/
namespace Go.Proofs.YtekkphoingjidaaDoor
open Go.Evl Go.RowKit
def h46_tt_0 (a b c d : Int) : List (Bool × Bool) := [(decide (0 ≤ IntKind.u64.wrap b) && decide (0 ≤ IntKind.u64.wrap d), true), (decide (-9223372036854775808 ≤ a) && decide (a < 9223372036854775808), true), (!decide (gcdI (IntKind.u64.wrap b) (IntKind.u64.wrap d) = 0), true), (inU (absI a) && inU (IntKind.u64.wrap ((IntKind.u64.wrap d).tdiv (gcdI (IntKind.u64.wrap b) (IntKind.u64.wrap d)))), true), (decide (-9223372036854775808 ≤ c) && decide (c < 9223372036854775808), true), (!decide (gcdI (IntKind.u64.wrap b) (IntKind.u64.wrap d) = 0), true), (inU (absI c) && inU (IntKind.u64.wrap ((IntKind.u64.wrap b).tdiv (gcdI (IntKind.u64.wrap b) (IntKind.u64.wrap d)))), true), (decide (a < 0), true), (decide (a < 0), true), (decide (c < 0), true), (inU
          (absI a * IntKind.u64.wrap ((IntKind.u64.wrap d).tdiv (gcdI (IntKind.u64.wrap b) (IntKind.u64.wrap d))) /
            18446744073709551616) &&
        inU
          (absI a * IntKind.u64.wrap ((IntKind.u64.wrap d).tdiv (gcdI (IntKind.u64.wrap b) (IntKind.u64.wrap d))) %
            18446744073709551616) &&
      inU
        (absI c * IntKind.u64.wrap ((IntKind.u64.wrap b).tdiv (gcdI (IntKind.u64.wrap b) (IntKind.u64.wrap d))) /
          18446744073709551616) &&
    inU
      (absI c * IntKind.u64.wrap ((IntKind.u64.wrap b).tdiv (gcdI (IntKind.u64.wrap b) (IntKind.u64.wrap d))) %
        18446744073709551616) &&
  decide
    (absI a * IntKind.u64.wrap ((IntKind.u64.wrap d).tdiv (gcdI (IntKind.u64.wrap b) (IntKind.u64.wrap d))) /
          18446744073709551616 +
        absI c * IntKind.u64.wrap ((IntKind.u64.wrap b).tdiv (gcdI (IntKind.u64.wrap b) (IntKind.u64.wrap d))) /
          18446744073709551616 <
      18446744073709551615), true)]
theorem h46_tt_0_ok (a b c d : Int) (h : allB (h46_tt_0 a b c d) = true) : (evPart Tryd.prog (spOf [e36, e37, e38, e53, e54, e65, e66, e67, e68]) (inlOf []) extD (cKD [e36, e37, e38, e53, e54, e65, e66, e67, e68] []) lp46 7 (codeOf Tryd.prog 46) keep46 ⟨frame0 Tryd.f46 [.agg [.int .i64 a, .int .i64 b], .agg [.int .i64 c, .int .i64 d]], []⟩).run = some ((Ex.normal,
  [AV.ptr 0 0, AV.ptr 1 0, AV.ptr 2 0, AV.int IntKind.u64 (gcdI (IntKind.u64.wrap b) (IntKind.u64.wrap d)),
    AV.bool true, AV.ptr 23 0],
  [Ob.cells [AV.int IntKind.i64 a, AV.int IntKind.i64 b] 23, Ob.cells [AV.int IntKind.i64 c, AV.int IntKind.i64 d] 23,
    Ob.cells [AV.int IntKind.i64 0, AV.int IntKind.i64 0] 23, Ob.free, Ob.free, Ob.free, Ob.free, Ob.free, Ob.free,
    Ob.free, Ob.free, Ob.free,
    Ob.cells
      [AV.int IntKind.u64
          (absI a * IntKind.u64.wrap ((IntKind.u64.wrap d).tdiv (gcdI (IntKind.u64.wrap b) (IntKind.u64.wrap d))) /
            18446744073709551616),
        AV.int IntKind.u64
          (absI a * IntKind.u64.wrap ((IntKind.u64.wrap d).tdiv (gcdI (IntKind.u64.wrap b) (IntKind.u64.wrap d))) %
            18446744073709551616)]
      49,
    Ob.free, Ob.free, Ob.free, Ob.free, Ob.free, Ob.free, Ob.free, Ob.free, Ob.free,
    Ob.cells
      [AV.int IntKind.u64
          (absI c * IntKind.u64.wrap ((IntKind.u64.wrap b).tdiv (gcdI (IntKind.u64.wrap b) (IntKind.u64.wrap d))) /
            18446744073709551616),
        AV.int IntKind.u64
          (absI c * IntKind.u64.wrap ((IntKind.u64.wrap b).tdiv (gcdI (IntKind.u64.wrap b) (IntKind.u64.wrap d))) %
            18446744073709551616)]
      49,
    Ob.cells
      [AV.int IntKind.u64
          ((wV
                (absI a *
                    IntKind.u64.wrap ((IntKind.u64.wrap d).tdiv (gcdI (IntKind.u64.wrap b) (IntKind.u64.wrap d))) /
                  18446744073709551616)
                (absI a *
                    IntKind.u64.wrap ((IntKind.u64.wrap d).tdiv (gcdI (IntKind.u64.wrap b) (IntKind.u64.wrap d))) %
                  18446744073709551616) +
              wV
                (absI c *
                    IntKind.u64.wrap ((IntKind.u64.wrap b).tdiv (gcdI (IntKind.u64.wrap b) (IntKind.u64.wrap d))) /
                  18446744073709551616)
                (absI c *
                    IntKind.u64.wrap ((IntKind.u64.wrap b).tdiv (gcdI (IntKind.u64.wrap b) (IntKind.u64.wrap d))) %
                  18446744073709551616)) /
            18446744073709551616),
        AV.int IntKind.u64
          ((wV
                (absI a *
                    IntKind.u64.wrap ((IntKind.u64.wrap d).tdiv (gcdI (IntKind.u64.wrap b) (IntKind.u64.wrap d))) /
                  18446744073709551616)
                (absI a *
                    IntKind.u64.wrap ((IntKind.u64.wrap d).tdiv (gcdI (IntKind.u64.wrap b) (IntKind.u64.wrap d))) %
                  18446744073709551616) +
              wV
                (absI c *
                    IntKind.u64.wrap ((IntKind.u64.wrap b).tdiv (gcdI (IntKind.u64.wrap b) (IntKind.u64.wrap d))) /
                  18446744073709551616)
                (absI c *
                    IntKind.u64.wrap ((IntKind.u64.wrap b).tdiv (gcdI (IntKind.u64.wrap b) (IntKind.u64.wrap d))) %
                  18446744073709551616)) %
            18446744073709551616)]
      49]) : Ex × List AV × List Ob) := way (gs := [true, true, true, true, true, true, true, true, true, true, true, true]) (show Tr.path _ _ = nestB (h46_tt_0 a b c d) (some ((Ex.normal,
  [AV.ptr 0 0, AV.ptr 1 0, AV.ptr 2 0, AV.int IntKind.u64 (gcdI (IntKind.u64.wrap b) (IntKind.u64.wrap d)),
    AV.bool true, AV.ptr 23 0],
  [Ob.cells [AV.int IntKind.i64 a, AV.int IntKind.i64 b] 23, Ob.cells [AV.int IntKind.i64 c, AV.int IntKind.i64 d] 23,
    Ob.cells [AV.int IntKind.i64 0, AV.int IntKind.i64 0] 23, Ob.free, Ob.free, Ob.free, Ob.free, Ob.free, Ob.free,
    Ob.free, Ob.free, Ob.free,
    Ob.cells
      [AV.int IntKind.u64
          (absI a * IntKind.u64.wrap ((IntKind.u64.wrap d).tdiv (gcdI (IntKind.u64.wrap b) (IntKind.u64.wrap d))) /
            18446744073709551616),
        AV.int IntKind.u64
          (absI a * IntKind.u64.wrap ((IntKind.u64.wrap d).tdiv (gcdI (IntKind.u64.wrap b) (IntKind.u64.wrap d))) %
            18446744073709551616)]
      49,
    Ob.free, Ob.free, Ob.free, Ob.free, Ob.free, Ob.free, Ob.free, Ob.free, Ob.free,
    Ob.cells
      [AV.int IntKind.u64
          (absI c * IntKind.u64.wrap ((IntKind.u64.wrap b).tdiv (gcdI (IntKind.u64.wrap b) (IntKind.u64.wrap d))) /
            18446744073709551616),
        AV.int IntKind.u64
          (absI c * IntKind.u64.wrap ((IntKind.u64.wrap b).tdiv (gcdI (IntKind.u64.wrap b) (IntKind.u64.wrap d))) %
            18446744073709551616)]
      49,
    Ob.cells
      [AV.int IntKind.u64
          ((wV
                (absI a *
                    IntKind.u64.wrap ((IntKind.u64.wrap d).tdiv (gcdI (IntKind.u64.wrap b) (IntKind.u64.wrap d))) /
                  18446744073709551616)
                (absI a *
                    IntKind.u64.wrap ((IntKind.u64.wrap d).tdiv (gcdI (IntKind.u64.wrap b) (IntKind.u64.wrap d))) %
                  18446744073709551616) +
              wV
                (absI c *
                    IntKind.u64.wrap ((IntKind.u64.wrap b).tdiv (gcdI (IntKind.u64.wrap b) (IntKind.u64.wrap d))) /
                  18446744073709551616)
                (absI c *
                    IntKind.u64.wrap ((IntKind.u64.wrap b).tdiv (gcdI (IntKind.u64.wrap b) (IntKind.u64.wrap d))) %
                  18446744073709551616)) /
            18446744073709551616),
        AV.int IntKind.u64
          ((wV
                (absI a *
                    IntKind.u64.wrap ((IntKind.u64.wrap d).tdiv (gcdI (IntKind.u64.wrap b) (IntKind.u64.wrap d))) /
                  18446744073709551616)
                (absI a *
                    IntKind.u64.wrap ((IntKind.u64.wrap d).tdiv (gcdI (IntKind.u64.wrap b) (IntKind.u64.wrap d))) %
                  18446744073709551616) +
              wV
                (absI c *
                    IntKind.u64.wrap ((IntKind.u64.wrap b).tdiv (gcdI (IntKind.u64.wrap b) (IntKind.u64.wrap d))) /
                  18446744073709551616)
                (absI c *
                    IntKind.u64.wrap ((IntKind.u64.wrap b).tdiv (gcdI (IntKind.u64.wrap b) (IntKind.u64.wrap d))) %
                  18446744073709551616)) %
            18446744073709551616)]
      49]))) by kernel_rfl) h
def h46_tf_0 (a b c d : Int) : List (Bool × Bool) := [(decide (0 ≤ IntKind.u64.wrap b) && decide (0 ≤ IntKind.u64.wrap d), true), (decide (-9223372036854775808 ≤ a) && decide (a < 9223372036854775808), true), (!decide (gcdI (IntKind.u64.wrap b) (IntKind.u64.wrap d) = 0), true), (inU (absI a) && inU (IntKind.u64.wrap ((IntKind.u64.wrap d).tdiv (gcdI (IntKind.u64.wrap b) (IntKind.u64.wrap d)))), true), (decide (-9223372036854775808 ≤ c) && decide (c < 9223372036854775808), true), (!decide (gcdI (IntKind.u64.wrap b) (IntKind.u64.wrap d) = 0), true), (inU (absI c) && inU (IntKind.u64.wrap ((IntKind.u64.wrap b).tdiv (gcdI (IntKind.u64.wrap b) (IntKind.u64.wrap d)))), true), (decide (a < 0), true), (decide (a < 0), true), (decide (c < 0), false), (decide
  (absI a * IntKind.u64.wrap ((IntKind.u64.wrap d).tdiv (gcdI (IntKind.u64.wrap b) (IntKind.u64.wrap d))) /
      18446744073709551616 <
    absI c * IntKind.u64.wrap ((IntKind.u64.wrap b).tdiv (gcdI (IntKind.u64.wrap b) (IntKind.u64.wrap d))) /
      18446744073709551616), true), (inU
          (absI c * IntKind.u64.wrap ((IntKind.u64.wrap b).tdiv (gcdI (IntKind.u64.wrap b) (IntKind.u64.wrap d))) /
            18446744073709551616) &&
        inU
          (absI c * IntKind.u64.wrap ((IntKind.u64.wrap b).tdiv (gcdI (IntKind.u64.wrap b) (IntKind.u64.wrap d))) %
            18446744073709551616) &&
      inU
        (absI a * IntKind.u64.wrap ((IntKind.u64.wrap d).tdiv (gcdI (IntKind.u64.wrap b) (IntKind.u64.wrap d))) /
          18446744073709551616) &&
    inU
      (absI a * IntKind.u64.wrap ((IntKind.u64.wrap d).tdiv (gcdI (IntKind.u64.wrap b) (IntKind.u64.wrap d))) %
        18446744073709551616) &&
  decide
    (wV
        (absI a * IntKind.u64.wrap ((IntKind.u64.wrap d).tdiv (gcdI (IntKind.u64.wrap b) (IntKind.u64.wrap d))) /
          18446744073709551616)
        (absI a * IntKind.u64.wrap ((IntKind.u64.wrap d).tdiv (gcdI (IntKind.u64.wrap b) (IntKind.u64.wrap d))) %
          18446744073709551616) ≤
      wV
        (absI c * IntKind.u64.wrap ((IntKind.u64.wrap b).tdiv (gcdI (IntKind.u64.wrap b) (IntKind.u64.wrap d))) /
          18446744073709551616)
        (absI c * IntKind.u64.wrap ((IntKind.u64.wrap b).tdiv (gcdI (IntKind.u64.wrap b) (IntKind.u64.wrap d))) %
          18446744073709551616)), true), (decide (c < 0), false)]
theorem h46_tf_0_ok (a b c d : Int) (h : allB (h46_tf_0 a b c d) = true) : (evPart Tryd.prog (spOf [e36, e37, e38, e53, e54, e65, e66, e67, e68]) (inlOf []) extD (cKD [e36, e37, e38, e53, e54, e65, e66, e67, e68] []) lp46 7 (codeOf Tryd.prog 46) keep46 ⟨frame0 Tryd.f46 [.agg [.int .i64 a, .int .i64 b], .agg [.int .i64 c, .int .i64 d]], []⟩).run = some ((Ex.normal,
  [AV.ptr 0 0, AV.ptr 1 0, AV.ptr 2 0, AV.int IntKind.u64 (gcdI (IntKind.u64.wrap b) (IntKind.u64.wrap d)),
    AV.bool false, AV.ptr 23 0],
  [Ob.cells [AV.int IntKind.i64 a, AV.int IntKind.i64 b] 23, Ob.cells [AV.int IntKind.i64 c, AV.int IntKind.i64 d] 23,
    Ob.cells [AV.int IntKind.i64 0, AV.int IntKind.i64 0] 23, Ob.free, Ob.free, Ob.free, Ob.free, Ob.free, Ob.free,
    Ob.free, Ob.free, Ob.free,
    Ob.cells
      [AV.int IntKind.u64
          (absI a * IntKind.u64.wrap ((IntKind.u64.wrap d).tdiv (gcdI (IntKind.u64.wrap b) (IntKind.u64.wrap d))) /
            18446744073709551616),
        AV.int IntKind.u64
          (absI a * IntKind.u64.wrap ((IntKind.u64.wrap d).tdiv (gcdI (IntKind.u64.wrap b) (IntKind.u64.wrap d))) %
            18446744073709551616)]
      49,
    Ob.free, Ob.free, Ob.free, Ob.free, Ob.free, Ob.free, Ob.free, Ob.free, Ob.free,
    Ob.cells
      [AV.int IntKind.u64
          (absI c * IntKind.u64.wrap ((IntKind.u64.wrap b).tdiv (gcdI (IntKind.u64.wrap b) (IntKind.u64.wrap d))) /
            18446744073709551616),
        AV.int IntKind.u64
          (absI c * IntKind.u64.wrap ((IntKind.u64.wrap b).tdiv (gcdI (IntKind.u64.wrap b) (IntKind.u64.wrap d))) %
            18446744073709551616)]
      49,
    Ob.cells
      [AV.int IntKind.u64
          ((wV
                (absI c *
                    IntKind.u64.wrap ((IntKind.u64.wrap b).tdiv (gcdI (IntKind.u64.wrap b) (IntKind.u64.wrap d))) /
                  18446744073709551616)
                (absI c *
                    IntKind.u64.wrap ((IntKind.u64.wrap b).tdiv (gcdI (IntKind.u64.wrap b) (IntKind.u64.wrap d))) %
                  18446744073709551616) -
              wV
                (absI a *
                    IntKind.u64.wrap ((IntKind.u64.wrap d).tdiv (gcdI (IntKind.u64.wrap b) (IntKind.u64.wrap d))) /
                  18446744073709551616)
                (absI a *
                    IntKind.u64.wrap ((IntKind.u64.wrap d).tdiv (gcdI (IntKind.u64.wrap b) (IntKind.u64.wrap d))) %
                  18446744073709551616)) /
            18446744073709551616),
        AV.int IntKind.u64
          ((wV
                (absI c *
                    IntKind.u64.wrap ((IntKind.u64.wrap b).tdiv (gcdI (IntKind.u64.wrap b) (IntKind.u64.wrap d))) /
                  18446744073709551616)
                (absI c *
                    IntKind.u64.wrap ((IntKind.u64.wrap b).tdiv (gcdI (IntKind.u64.wrap b) (IntKind.u64.wrap d))) %
                  18446744073709551616) -
              wV
                (absI a *
                    IntKind.u64.wrap ((IntKind.u64.wrap d).tdiv (gcdI (IntKind.u64.wrap b) (IntKind.u64.wrap d))) /
                  18446744073709551616)
                (absI a *
                    IntKind.u64.wrap ((IntKind.u64.wrap d).tdiv (gcdI (IntKind.u64.wrap b) (IntKind.u64.wrap d))) %
                  18446744073709551616)) %
            18446744073709551616)]
      49]) : Ex × List AV × List Ob) := way (gs := [true, true, true, true, true, true, true, true, false, false, false, true, true, true, true, false, false]) (show Tr.path _ _ = nestB (h46_tf_0 a b c d) (some ((Ex.normal,
  [AV.ptr 0 0, AV.ptr 1 0, AV.ptr 2 0, AV.int IntKind.u64 (gcdI (IntKind.u64.wrap b) (IntKind.u64.wrap d)),
    AV.bool false, AV.ptr 23 0],
  [Ob.cells [AV.int IntKind.i64 a, AV.int IntKind.i64 b] 23, Ob.cells [AV.int IntKind.i64 c, AV.int IntKind.i64 d] 23,
    Ob.cells [AV.int IntKind.i64 0, AV.int IntKind.i64 0] 23, Ob.free, Ob.free, Ob.free, Ob.free, Ob.free, Ob.free,
    Ob.free, Ob.free, Ob.free,
    Ob.cells
      [AV.int IntKind.u64
          (absI a * IntKind.u64.wrap ((IntKind.u64.wrap d).tdiv (gcdI (IntKind.u64.wrap b) (IntKind.u64.wrap d))) /
            18446744073709551616),
        AV.int IntKind.u64
          (absI a * IntKind.u64.wrap ((IntKind.u64.wrap d).tdiv (gcdI (IntKind.u64.wrap b) (IntKind.u64.wrap d))) %
            18446744073709551616)]
      49,
    Ob.free, Ob.free, Ob.free, Ob.free, Ob.free, Ob.free, Ob.free, Ob.free, Ob.free,
    Ob.cells
      [AV.int IntKind.u64
          (absI c * IntKind.u64.wrap ((IntKind.u64.wrap b).tdiv (gcdI (IntKind.u64.wrap b) (IntKind.u64.wrap d))) /
            18446744073709551616),
        AV.int IntKind.u64
          (absI c * IntKind.u64.wrap ((IntKind.u64.wrap b).tdiv (gcdI (IntKind.u64.wrap b) (IntKind.u64.wrap d))) %
            18446744073709551616)]
      49,
    Ob.cells
      [AV.int IntKind.u64
          ((wV
                (absI c *
                    IntKind.u64.wrap ((IntKind.u64.wrap b).tdiv (gcdI (IntKind.u64.wrap b) (IntKind.u64.wrap d))) /
                  18446744073709551616)
                (absI c *
                    IntKind.u64.wrap ((IntKind.u64.wrap b).tdiv (gcdI (IntKind.u64.wrap b) (IntKind.u64.wrap d))) %
                  18446744073709551616) -
              wV
                (absI a *
                    IntKind.u64.wrap ((IntKind.u64.wrap d).tdiv (gcdI (IntKind.u64.wrap b) (IntKind.u64.wrap d))) /
                  18446744073709551616)
                (absI a *
                    IntKind.u64.wrap ((IntKind.u64.wrap d).tdiv (gcdI (IntKind.u64.wrap b) (IntKind.u64.wrap d))) %
                  18446744073709551616)) /
            18446744073709551616),
        AV.int IntKind.u64
          ((wV
                (absI c *
                    IntKind.u64.wrap ((IntKind.u64.wrap b).tdiv (gcdI (IntKind.u64.wrap b) (IntKind.u64.wrap d))) /
                  18446744073709551616)
                (absI c *
                    IntKind.u64.wrap ((IntKind.u64.wrap b).tdiv (gcdI (IntKind.u64.wrap b) (IntKind.u64.wrap d))) %
                  18446744073709551616) -
              wV
                (absI a *
                    IntKind.u64.wrap ((IntKind.u64.wrap d).tdiv (gcdI (IntKind.u64.wrap b) (IntKind.u64.wrap d))) /
                  18446744073709551616)
                (absI a *
                    IntKind.u64.wrap ((IntKind.u64.wrap d).tdiv (gcdI (IntKind.u64.wrap b) (IntKind.u64.wrap d))) %
                  18446744073709551616)) %
            18446744073709551616)]
      49]))) by kernel_rfl) h
def h46_tf_1 (a b c d : Int) : List (Bool × Bool) := [(decide (0 ≤ IntKind.u64.wrap b) && decide (0 ≤ IntKind.u64.wrap d), true), (decide (-9223372036854775808 ≤ a) && decide (a < 9223372036854775808), true), (!decide (gcdI (IntKind.u64.wrap b) (IntKind.u64.wrap d) = 0), true), (inU (absI a) && inU (IntKind.u64.wrap ((IntKind.u64.wrap d).tdiv (gcdI (IntKind.u64.wrap b) (IntKind.u64.wrap d)))), true), (decide (-9223372036854775808 ≤ c) && decide (c < 9223372036854775808), true), (!decide (gcdI (IntKind.u64.wrap b) (IntKind.u64.wrap d) = 0), true), (inU (absI c) && inU (IntKind.u64.wrap ((IntKind.u64.wrap b).tdiv (gcdI (IntKind.u64.wrap b) (IntKind.u64.wrap d)))), true), (decide (a < 0), true), (decide (a < 0), true), (decide (c < 0), false), (decide
  (absI a * IntKind.u64.wrap ((IntKind.u64.wrap d).tdiv (gcdI (IntKind.u64.wrap b) (IntKind.u64.wrap d))) /
      18446744073709551616 <
    absI c * IntKind.u64.wrap ((IntKind.u64.wrap b).tdiv (gcdI (IntKind.u64.wrap b) (IntKind.u64.wrap d))) /
      18446744073709551616), false), (absI a * IntKind.u64.wrap ((IntKind.u64.wrap d).tdiv (gcdI (IntKind.u64.wrap b) (IntKind.u64.wrap d))) /
    18446744073709551616 ==
  absI c * IntKind.u64.wrap ((IntKind.u64.wrap b).tdiv (gcdI (IntKind.u64.wrap b) (IntKind.u64.wrap d))) /
    18446744073709551616, true), (decide
  (absI a * IntKind.u64.wrap ((IntKind.u64.wrap d).tdiv (gcdI (IntKind.u64.wrap b) (IntKind.u64.wrap d))) %
      18446744073709551616 <
    absI c * IntKind.u64.wrap ((IntKind.u64.wrap b).tdiv (gcdI (IntKind.u64.wrap b) (IntKind.u64.wrap d))) %
      18446744073709551616), true), (inU
          (absI c * IntKind.u64.wrap ((IntKind.u64.wrap b).tdiv (gcdI (IntKind.u64.wrap b) (IntKind.u64.wrap d))) /
            18446744073709551616) &&
        inU
          (absI c * IntKind.u64.wrap ((IntKind.u64.wrap b).tdiv (gcdI (IntKind.u64.wrap b) (IntKind.u64.wrap d))) %
            18446744073709551616) &&
      inU
        (absI a * IntKind.u64.wrap ((IntKind.u64.wrap d).tdiv (gcdI (IntKind.u64.wrap b) (IntKind.u64.wrap d))) /
          18446744073709551616) &&
    inU
      (absI a * IntKind.u64.wrap ((IntKind.u64.wrap d).tdiv (gcdI (IntKind.u64.wrap b) (IntKind.u64.wrap d))) %
        18446744073709551616) &&
  decide
    (wV
        (absI a * IntKind.u64.wrap ((IntKind.u64.wrap d).tdiv (gcdI (IntKind.u64.wrap b) (IntKind.u64.wrap d))) /
          18446744073709551616)
        (absI a * IntKind.u64.wrap ((IntKind.u64.wrap d).tdiv (gcdI (IntKind.u64.wrap b) (IntKind.u64.wrap d))) %
          18446744073709551616) ≤
      wV
        (absI c * IntKind.u64.wrap ((IntKind.u64.wrap b).tdiv (gcdI (IntKind.u64.wrap b) (IntKind.u64.wrap d))) /
          18446744073709551616)
        (absI c * IntKind.u64.wrap ((IntKind.u64.wrap b).tdiv (gcdI (IntKind.u64.wrap b) (IntKind.u64.wrap d))) %
          18446744073709551616)), true), (decide (c < 0), false)]
theorem h46_tf_1_ok (a b c d : Int) (h : allB (h46_tf_1 a b c d) = true) : (evPart Tryd.prog (spOf [e36, e37, e38, e53, e54, e65, e66, e67, e68]) (inlOf []) extD (cKD [e36, e37, e38, e53, e54, e65, e66, e67, e68] []) lp46 7 (codeOf Tryd.prog 46) keep46 ⟨frame0 Tryd.f46 [.agg [.int .i64 a, .int .i64 b], .agg [.int .i64 c, .int .i64 d]], []⟩).run = some ((Ex.normal,
  [AV.ptr 0 0, AV.ptr 1 0, AV.ptr 2 0, AV.int IntKind.u64 (gcdI (IntKind.u64.wrap b) (IntKind.u64.wrap d)),
    AV.bool false, AV.ptr 23 0],
  [Ob.cells [AV.int IntKind.i64 a, AV.int IntKind.i64 b] 23, Ob.cells [AV.int IntKind.i64 c, AV.int IntKind.i64 d] 23,
    Ob.cells [AV.int IntKind.i64 0, AV.int IntKind.i64 0] 23, Ob.free, Ob.free, Ob.free, Ob.free, Ob.free, Ob.free,
    Ob.free, Ob.free, Ob.free,
    Ob.cells
      [AV.int IntKind.u64
          (absI a * IntKind.u64.wrap ((IntKind.u64.wrap d).tdiv (gcdI (IntKind.u64.wrap b) (IntKind.u64.wrap d))) /
            18446744073709551616),
        AV.int IntKind.u64
          (absI a * IntKind.u64.wrap ((IntKind.u64.wrap d).tdiv (gcdI (IntKind.u64.wrap b) (IntKind.u64.wrap d))) %
            18446744073709551616)]
      49,
    Ob.free, Ob.free, Ob.free, Ob.free, Ob.free, Ob.free, Ob.free, Ob.free, Ob.free,
    Ob.cells
      [AV.int IntKind.u64
          (absI c * IntKind.u64.wrap ((IntKind.u64.wrap b).tdiv (gcdI (IntKind.u64.wrap b) (IntKind.u64.wrap d))) /
            18446744073709551616),
        AV.int IntKind.u64
          (absI c * IntKind.u64.wrap ((IntKind.u64.wrap b).tdiv (gcdI (IntKind.u64.wrap b) (IntKind.u64.wrap d))) %
            18446744073709551616)]
      49,
    Ob.cells
      [AV.int IntKind.u64
          ((wV
                (absI c *
                    IntKind.u64.wrap ((IntKind.u64.wrap b).tdiv (gcdI (IntKind.u64.wrap b) (IntKind.u64.wrap d))) /
                  18446744073709551616)
                (absI c *
                    IntKind.u64.wrap ((IntKind.u64.wrap b).tdiv (gcdI (IntKind.u64.wrap b) (IntKind.u64.wrap d))) %
                  18446744073709551616) -
              wV
                (absI a *
                    IntKind.u64.wrap ((IntKind.u64.wrap d).tdiv (gcdI (IntKind.u64.wrap b) (IntKind.u64.wrap d))) /
                  18446744073709551616)
                (absI a *
                    IntKind.u64.wrap ((IntKind.u64.wrap d).tdiv (gcdI (IntKind.u64.wrap b) (IntKind.u64.wrap d))) %
                  18446744073709551616)) /
            18446744073709551616),
        AV.int IntKind.u64
          ((wV
                (absI c *
                    IntKind.u64.wrap ((IntKind.u64.wrap b).tdiv (gcdI (IntKind.u64.wrap b) (IntKind.u64.wrap d))) /
                  18446744073709551616)
                (absI c *
                    IntKind.u64.wrap ((IntKind.u64.wrap b).tdiv (gcdI (IntKind.u64.wrap b) (IntKind.u64.wrap d))) %
                  18446744073709551616) -
              wV
                (absI a *
                    IntKind.u64.wrap ((IntKind.u64.wrap d).tdiv (gcdI (IntKind.u64.wrap b) (IntKind.u64.wrap d))) /
                  18446744073709551616)
                (absI a *
                    IntKind.u64.wrap ((IntKind.u64.wrap d).tdiv (gcdI (IntKind.u64.wrap b) (IntKind.u64.wrap d))) %
                  18446744073709551616)) %
            18446744073709551616)]
      49]) : Ex × List AV × List Ob) := way (gs := [true, true, true, true, true, true, true, true, false, false, false, false, true, true, true, true, true, false, false]) (show Tr.path _ _ = nestB (h46_tf_1 a b c d) (some ((Ex.normal,
  [AV.ptr 0 0, AV.ptr 1 0, AV.ptr 2 0, AV.int IntKind.u64 (gcdI (IntKind.u64.wrap b) (IntKind.u64.wrap d)),
    AV.bool false, AV.ptr 23 0],
  [Ob.cells [AV.int IntKind.i64 a, AV.int IntKind.i64 b] 23, Ob.cells [AV.int IntKind.i64 c, AV.int IntKind.i64 d] 23,
    Ob.cells [AV.int IntKind.i64 0, AV.int IntKind.i64 0] 23, Ob.free, Ob.free, Ob.free, Ob.free, Ob.free, Ob.free,
    Ob.free, Ob.free, Ob.free,
    Ob.cells
      [AV.int IntKind.u64
          (absI a * IntKind.u64.wrap ((IntKind.u64.wrap d).tdiv (gcdI (IntKind.u64.wrap b) (IntKind.u64.wrap d))) /
            18446744073709551616),
        AV.int IntKind.u64
          (absI a * IntKind.u64.wrap ((IntKind.u64.wrap d).tdiv (gcdI (IntKind.u64.wrap b) (IntKind.u64.wrap d))) %
            18446744073709551616)]
      49,
    Ob.free, Ob.free, Ob.free, Ob.free, Ob.free, Ob.free, Ob.free, Ob.free, Ob.free,
    Ob.cells
      [AV.int IntKind.u64
          (absI c * IntKind.u64.wrap ((IntKind.u64.wrap b).tdiv (gcdI (IntKind.u64.wrap b) (IntKind.u64.wrap d))) /
            18446744073709551616),
        AV.int IntKind.u64
          (absI c * IntKind.u64.wrap ((IntKind.u64.wrap b).tdiv (gcdI (IntKind.u64.wrap b) (IntKind.u64.wrap d))) %
            18446744073709551616)]
      49,
    Ob.cells
      [AV.int IntKind.u64
          ((wV
                (absI c *
                    IntKind.u64.wrap ((IntKind.u64.wrap b).tdiv (gcdI (IntKind.u64.wrap b) (IntKind.u64.wrap d))) /
                  18446744073709551616)
                (absI c *
                    IntKind.u64.wrap ((IntKind.u64.wrap b).tdiv (gcdI (IntKind.u64.wrap b) (IntKind.u64.wrap d))) %
                  18446744073709551616) -
              wV
                (absI a *
                    IntKind.u64.wrap ((IntKind.u64.wrap d).tdiv (gcdI (IntKind.u64.wrap b) (IntKind.u64.wrap d))) /
                  18446744073709551616)
                (absI a *
                    IntKind.u64.wrap ((IntKind.u64.wrap d).tdiv (gcdI (IntKind.u64.wrap b) (IntKind.u64.wrap d))) %
                  18446744073709551616)) /
            18446744073709551616),
        AV.int IntKind.u64
          ((wV
                (absI c *
                    IntKind.u64.wrap ((IntKind.u64.wrap b).tdiv (gcdI (IntKind.u64.wrap b) (IntKind.u64.wrap d))) /
                  18446744073709551616)
                (absI c *
                    IntKind.u64.wrap ((IntKind.u64.wrap b).tdiv (gcdI (IntKind.u64.wrap b) (IntKind.u64.wrap d))) %
                  18446744073709551616) -
              wV
                (absI a *
                    IntKind.u64.wrap ((IntKind.u64.wrap d).tdiv (gcdI (IntKind.u64.wrap b) (IntKind.u64.wrap d))) /
                  18446744073709551616)
                (absI a *
                    IntKind.u64.wrap ((IntKind.u64.wrap d).tdiv (gcdI (IntKind.u64.wrap b) (IntKind.u64.wrap d))) %
                  18446744073709551616)) %
            18446744073709551616)]
      49]))) by kernel_rfl) h
def h46_tf_2 (a b c d : Int) : List (Bool × Bool) := [(decide (0 ≤ IntKind.u64.wrap b) && decide (0 ≤ IntKind.u64.wrap d), true), (decide (-9223372036854775808 ≤ a) && decide (a < 9223372036854775808), true), (!decide (gcdI (IntKind.u64.wrap b) (IntKind.u64.wrap d) = 0), true), (inU (absI a) && inU (IntKind.u64.wrap ((IntKind.u64.wrap d).tdiv (gcdI (IntKind.u64.wrap b) (IntKind.u64.wrap d)))), true), (decide (-9223372036854775808 ≤ c) && decide (c < 9223372036854775808), true), (!decide (gcdI (IntKind.u64.wrap b) (IntKind.u64.wrap d) = 0), true), (inU (absI c) && inU (IntKind.u64.wrap ((IntKind.u64.wrap b).tdiv (gcdI (IntKind.u64.wrap b) (IntKind.u64.wrap d)))), true), (decide (a < 0), true), (decide (a < 0), true), (decide (c < 0), false), (decide
  (absI a * IntKind.u64.wrap ((IntKind.u64.wrap d).tdiv (gcdI (IntKind.u64.wrap b) (IntKind.u64.wrap d))) /
      18446744073709551616 <
    absI c * IntKind.u64.wrap ((IntKind.u64.wrap b).tdiv (gcdI (IntKind.u64.wrap b) (IntKind.u64.wrap d))) /
      18446744073709551616), false), (absI a * IntKind.u64.wrap ((IntKind.u64.wrap d).tdiv (gcdI (IntKind.u64.wrap b) (IntKind.u64.wrap d))) /
    18446744073709551616 ==
  absI c * IntKind.u64.wrap ((IntKind.u64.wrap b).tdiv (gcdI (IntKind.u64.wrap b) (IntKind.u64.wrap d))) /
    18446744073709551616, true), (decide
  (absI a * IntKind.u64.wrap ((IntKind.u64.wrap d).tdiv (gcdI (IntKind.u64.wrap b) (IntKind.u64.wrap d))) %
      18446744073709551616 <
    absI c * IntKind.u64.wrap ((IntKind.u64.wrap b).tdiv (gcdI (IntKind.u64.wrap b) (IntKind.u64.wrap d))) %
      18446744073709551616), false), (inU
          (absI a * IntKind.u64.wrap ((IntKind.u64.wrap d).tdiv (gcdI (IntKind.u64.wrap b) (IntKind.u64.wrap d))) /
            18446744073709551616) &&
        inU
          (absI a * IntKind.u64.wrap ((IntKind.u64.wrap d).tdiv (gcdI (IntKind.u64.wrap b) (IntKind.u64.wrap d))) %
            18446744073709551616) &&
      inU
        (absI c * IntKind.u64.wrap ((IntKind.u64.wrap b).tdiv (gcdI (IntKind.u64.wrap b) (IntKind.u64.wrap d))) /
          18446744073709551616) &&
    inU
      (absI c * IntKind.u64.wrap ((IntKind.u64.wrap b).tdiv (gcdI (IntKind.u64.wrap b) (IntKind.u64.wrap d))) %
        18446744073709551616) &&
  decide
    (wV
        (absI c * IntKind.u64.wrap ((IntKind.u64.wrap b).tdiv (gcdI (IntKind.u64.wrap b) (IntKind.u64.wrap d))) /
          18446744073709551616)
        (absI c * IntKind.u64.wrap ((IntKind.u64.wrap b).tdiv (gcdI (IntKind.u64.wrap b) (IntKind.u64.wrap d))) %
          18446744073709551616) ≤
      wV
        (absI a * IntKind.u64.wrap ((IntKind.u64.wrap d).tdiv (gcdI (IntKind.u64.wrap b) (IntKind.u64.wrap d))) /
          18446744073709551616)
        (absI a * IntKind.u64.wrap ((IntKind.u64.wrap d).tdiv (gcdI (IntKind.u64.wrap b) (IntKind.u64.wrap d))) %
          18446744073709551616)), true)]
theorem h46_tf_2_ok (a b c d : Int) (h : allB (h46_tf_2 a b c d) = true) : (evPart Tryd.prog (spOf [e36, e37, e38, e53, e54, e65, e66, e67, e68]) (inlOf []) extD (cKD [e36, e37, e38, e53, e54, e65, e66, e67, e68] []) lp46 7 (codeOf Tryd.prog 46) keep46 ⟨frame0 Tryd.f46 [.agg [.int .i64 a, .int .i64 b], .agg [.int .i64 c, .int .i64 d]], []⟩).run = some ((Ex.normal,
  [AV.ptr 0 0, AV.ptr 1 0, AV.ptr 2 0, AV.int IntKind.u64 (gcdI (IntKind.u64.wrap b) (IntKind.u64.wrap d)),
    AV.bool true, AV.ptr 23 0],
  [Ob.cells [AV.int IntKind.i64 a, AV.int IntKind.i64 b] 23, Ob.cells [AV.int IntKind.i64 c, AV.int IntKind.i64 d] 23,
    Ob.cells [AV.int IntKind.i64 0, AV.int IntKind.i64 0] 23, Ob.free, Ob.free, Ob.free, Ob.free, Ob.free, Ob.free,
    Ob.free, Ob.free, Ob.free,
    Ob.cells
      [AV.int IntKind.u64
          (absI a * IntKind.u64.wrap ((IntKind.u64.wrap d).tdiv (gcdI (IntKind.u64.wrap b) (IntKind.u64.wrap d))) /
            18446744073709551616),
        AV.int IntKind.u64
          (absI a * IntKind.u64.wrap ((IntKind.u64.wrap d).tdiv (gcdI (IntKind.u64.wrap b) (IntKind.u64.wrap d))) %
            18446744073709551616)]
      49,
    Ob.free, Ob.free, Ob.free, Ob.free, Ob.free, Ob.free, Ob.free, Ob.free, Ob.free,
    Ob.cells
      [AV.int IntKind.u64
          (absI c * IntKind.u64.wrap ((IntKind.u64.wrap b).tdiv (gcdI (IntKind.u64.wrap b) (IntKind.u64.wrap d))) /
            18446744073709551616),
        AV.int IntKind.u64
          (absI c * IntKind.u64.wrap ((IntKind.u64.wrap b).tdiv (gcdI (IntKind.u64.wrap b) (IntKind.u64.wrap d))) %
            18446744073709551616)]
      49,
    Ob.cells
      [AV.int IntKind.u64
          ((wV
                (absI a *
                    IntKind.u64.wrap ((IntKind.u64.wrap d).tdiv (gcdI (IntKind.u64.wrap b) (IntKind.u64.wrap d))) /
                  18446744073709551616)
                (absI a *
                    IntKind.u64.wrap ((IntKind.u64.wrap d).tdiv (gcdI (IntKind.u64.wrap b) (IntKind.u64.wrap d))) %
                  18446744073709551616) -
              wV
                (absI c *
                    IntKind.u64.wrap ((IntKind.u64.wrap b).tdiv (gcdI (IntKind.u64.wrap b) (IntKind.u64.wrap d))) /
                  18446744073709551616)
                (absI c *
                    IntKind.u64.wrap ((IntKind.u64.wrap b).tdiv (gcdI (IntKind.u64.wrap b) (IntKind.u64.wrap d))) %
                  18446744073709551616)) /
            18446744073709551616),
        AV.int IntKind.u64
          ((wV
                (absI a *
                    IntKind.u64.wrap ((IntKind.u64.wrap d).tdiv (gcdI (IntKind.u64.wrap b) (IntKind.u64.wrap d))) /
                  18446744073709551616)
                (absI a *
                    IntKind.u64.wrap ((IntKind.u64.wrap d).tdiv (gcdI (IntKind.u64.wrap b) (IntKind.u64.wrap d))) %
                  18446744073709551616) -
              wV
                (absI c *
                    IntKind.u64.wrap ((IntKind.u64.wrap b).tdiv (gcdI (IntKind.u64.wrap b) (IntKind.u64.wrap d))) /
                  18446744073709551616)
                (absI c *
                    IntKind.u64.wrap ((IntKind.u64.wrap b).tdiv (gcdI (IntKind.u64.wrap b) (IntKind.u64.wrap d))) %
                  18446744073709551616)) %
            18446744073709551616)]
      49]) : Ex × List AV × List Ob) := way (gs := [true, true, true, true, true, true, true, true, false, false, false, false, true, false, false, false, true]) (show Tr.path _ _ = nestB (h46_tf_2 a b c d) (some ((Ex.normal,
  [AV.ptr 0 0, AV.ptr 1 0, AV.ptr 2 0, AV.int IntKind.u64 (gcdI (IntKind.u64.wrap b) (IntKind.u64.wrap d)),
    AV.bool true, AV.ptr 23 0],
  [Ob.cells [AV.int IntKind.i64 a, AV.int IntKind.i64 b] 23, Ob.cells [AV.int IntKind.i64 c, AV.int IntKind.i64 d] 23,
    Ob.cells [AV.int IntKind.i64 0, AV.int IntKind.i64 0] 23, Ob.free, Ob.free, Ob.free, Ob.free, Ob.free, Ob.free,
    Ob.free, Ob.free, Ob.free,
    Ob.cells
      [AV.int IntKind.u64
          (absI a * IntKind.u64.wrap ((IntKind.u64.wrap d).tdiv (gcdI (IntKind.u64.wrap b) (IntKind.u64.wrap d))) /
            18446744073709551616),
        AV.int IntKind.u64
          (absI a * IntKind.u64.wrap ((IntKind.u64.wrap d).tdiv (gcdI (IntKind.u64.wrap b) (IntKind.u64.wrap d))) %
            18446744073709551616)]
      49,
    Ob.free, Ob.free, Ob.free, Ob.free, Ob.free, Ob.free, Ob.free, Ob.free, Ob.free,
    Ob.cells
      [AV.int IntKind.u64
          (absI c * IntKind.u64.wrap ((IntKind.u64.wrap b).tdiv (gcdI (IntKind.u64.wrap b) (IntKind.u64.wrap d))) /
            18446744073709551616),
        AV.int IntKind.u64
          (absI c * IntKind.u64.wrap ((IntKind.u64.wrap b).tdiv (gcdI (IntKind.u64.wrap b) (IntKind.u64.wrap d))) %
            18446744073709551616)]
      49,
    Ob.cells
      [AV.int IntKind.u64
          ((wV
                (absI a *
                    IntKind.u64.wrap ((IntKind.u64.wrap d).tdiv (gcdI (IntKind.u64.wrap b) (IntKind.u64.wrap d))) /
                  18446744073709551616)
                (absI a *
                    IntKind.u64.wrap ((IntKind.u64.wrap d).tdiv (gcdI (IntKind.u64.wrap b) (IntKind.u64.wrap d))) %
                  18446744073709551616) -
              wV
                (absI c *
                    IntKind.u64.wrap ((IntKind.u64.wrap b).tdiv (gcdI (IntKind.u64.wrap b) (IntKind.u64.wrap d))) /
                  18446744073709551616)
                (absI c *
                    IntKind.u64.wrap ((IntKind.u64.wrap b).tdiv (gcdI (IntKind.u64.wrap b) (IntKind.u64.wrap d))) %
                  18446744073709551616)) /
            18446744073709551616),
        AV.int IntKind.u64
          ((wV
                (absI a *
                    IntKind.u64.wrap ((IntKind.u64.wrap d).tdiv (gcdI (IntKind.u64.wrap b) (IntKind.u64.wrap d))) /
                  18446744073709551616)
                (absI a *
                    IntKind.u64.wrap ((IntKind.u64.wrap d).tdiv (gcdI (IntKind.u64.wrap b) (IntKind.u64.wrap d))) %
                  18446744073709551616) -
              wV
                (absI c *
                    IntKind.u64.wrap ((IntKind.u64.wrap b).tdiv (gcdI (IntKind.u64.wrap b) (IntKind.u64.wrap d))) /
                  18446744073709551616)
                (absI c *
                    IntKind.u64.wrap ((IntKind.u64.wrap b).tdiv (gcdI (IntKind.u64.wrap b) (IntKind.u64.wrap d))) %
                  18446744073709551616)) %
            18446744073709551616)]
      49]))) by kernel_rfl) h
def h46_tf_3 (a b c d : Int) : List (Bool × Bool) := [(decide (0 ≤ IntKind.u64.wrap b) && decide (0 ≤ IntKind.u64.wrap d), true), (decide (-9223372036854775808 ≤ a) && decide (a < 9223372036854775808), true), (!decide (gcdI (IntKind.u64.wrap b) (IntKind.u64.wrap d) = 0), true), (inU (absI a) && inU (IntKind.u64.wrap ((IntKind.u64.wrap d).tdiv (gcdI (IntKind.u64.wrap b) (IntKind.u64.wrap d)))), true), (decide (-9223372036854775808 ≤ c) && decide (c < 9223372036854775808), true), (!decide (gcdI (IntKind.u64.wrap b) (IntKind.u64.wrap d) = 0), true), (inU (absI c) && inU (IntKind.u64.wrap ((IntKind.u64.wrap b).tdiv (gcdI (IntKind.u64.wrap b) (IntKind.u64.wrap d)))), true), (decide (a < 0), true), (decide (a < 0), true), (decide (c < 0), false), (decide
  (absI a * IntKind.u64.wrap ((IntKind.u64.wrap d).tdiv (gcdI (IntKind.u64.wrap b) (IntKind.u64.wrap d))) /
      18446744073709551616 <
    absI c * IntKind.u64.wrap ((IntKind.u64.wrap b).tdiv (gcdI (IntKind.u64.wrap b) (IntKind.u64.wrap d))) /
      18446744073709551616), false), (absI a * IntKind.u64.wrap ((IntKind.u64.wrap d).tdiv (gcdI (IntKind.u64.wrap b) (IntKind.u64.wrap d))) /
    18446744073709551616 ==
  absI c * IntKind.u64.wrap ((IntKind.u64.wrap b).tdiv (gcdI (IntKind.u64.wrap b) (IntKind.u64.wrap d))) /
    18446744073709551616, false), (inU
          (absI a * IntKind.u64.wrap ((IntKind.u64.wrap d).tdiv (gcdI (IntKind.u64.wrap b) (IntKind.u64.wrap d))) /
            18446744073709551616) &&
        inU
          (absI a * IntKind.u64.wrap ((IntKind.u64.wrap d).tdiv (gcdI (IntKind.u64.wrap b) (IntKind.u64.wrap d))) %
            18446744073709551616) &&
      inU
        (absI c * IntKind.u64.wrap ((IntKind.u64.wrap b).tdiv (gcdI (IntKind.u64.wrap b) (IntKind.u64.wrap d))) /
          18446744073709551616) &&
    inU
      (absI c * IntKind.u64.wrap ((IntKind.u64.wrap b).tdiv (gcdI (IntKind.u64.wrap b) (IntKind.u64.wrap d))) %
        18446744073709551616) &&
  decide
    (wV
        (absI c * IntKind.u64.wrap ((IntKind.u64.wrap b).tdiv (gcdI (IntKind.u64.wrap b) (IntKind.u64.wrap d))) /
          18446744073709551616)
        (absI c * IntKind.u64.wrap ((IntKind.u64.wrap b).tdiv (gcdI (IntKind.u64.wrap b) (IntKind.u64.wrap d))) %
          18446744073709551616) ≤
      wV
        (absI a * IntKind.u64.wrap ((IntKind.u64.wrap d).tdiv (gcdI (IntKind.u64.wrap b) (IntKind.u64.wrap d))) /
          18446744073709551616)
        (absI a * IntKind.u64.wrap ((IntKind.u64.wrap d).tdiv (gcdI (IntKind.u64.wrap b) (IntKind.u64.wrap d))) %
          18446744073709551616)), true)]
theorem h46_tf_3_ok (a b c d : Int) (h : allB (h46_tf_3 a b c d) = true) : (evPart Tryd.prog (spOf [e36, e37, e38, e53, e54, e65, e66, e67, e68]) (inlOf []) extD (cKD [e36, e37, e38, e53, e54, e65, e66, e67, e68] []) lp46 7 (codeOf Tryd.prog 46) keep46 ⟨frame0 Tryd.f46 [.agg [.int .i64 a, .int .i64 b], .agg [.int .i64 c, .int .i64 d]], []⟩).run = some ((Ex.normal,
  [AV.ptr 0 0, AV.ptr 1 0, AV.ptr 2 0, AV.int IntKind.u64 (gcdI (IntKind.u64.wrap b) (IntKind.u64.wrap d)),
    AV.bool true, AV.ptr 23 0],
  [Ob.cells [AV.int IntKind.i64 a, AV.int IntKind.i64 b] 23, Ob.cells [AV.int IntKind.i64 c, AV.int IntKind.i64 d] 23,
    Ob.cells [AV.int IntKind.i64 0, AV.int IntKind.i64 0] 23, Ob.free, Ob.free, Ob.free, Ob.free, Ob.free, Ob.free,
    Ob.free, Ob.free, Ob.free,
    Ob.cells
      [AV.int IntKind.u64
          (absI a * IntKind.u64.wrap ((IntKind.u64.wrap d).tdiv (gcdI (IntKind.u64.wrap b) (IntKind.u64.wrap d))) /
            18446744073709551616),
        AV.int IntKind.u64
          (absI a * IntKind.u64.wrap ((IntKind.u64.wrap d).tdiv (gcdI (IntKind.u64.wrap b) (IntKind.u64.wrap d))) %
            18446744073709551616)]
      49,
    Ob.free, Ob.free, Ob.free, Ob.free, Ob.free, Ob.free, Ob.free, Ob.free, Ob.free,
    Ob.cells
      [AV.int IntKind.u64
          (absI c * IntKind.u64.wrap ((IntKind.u64.wrap b).tdiv (gcdI (IntKind.u64.wrap b) (IntKind.u64.wrap d))) /
            18446744073709551616),
        AV.int IntKind.u64
          (absI c * IntKind.u64.wrap ((IntKind.u64.wrap b).tdiv (gcdI (IntKind.u64.wrap b) (IntKind.u64.wrap d))) %
            18446744073709551616)]
      49,
    Ob.cells
      [AV.int IntKind.u64
          ((wV
                (absI a *
                    IntKind.u64.wrap ((IntKind.u64.wrap d).tdiv (gcdI (IntKind.u64.wrap b) (IntKind.u64.wrap d))) /
                  18446744073709551616)
                (absI a *
                    IntKind.u64.wrap ((IntKind.u64.wrap d).tdiv (gcdI (IntKind.u64.wrap b) (IntKind.u64.wrap d))) %
                  18446744073709551616) -
              wV
                (absI c *
                    IntKind.u64.wrap ((IntKind.u64.wrap b).tdiv (gcdI (IntKind.u64.wrap b) (IntKind.u64.wrap d))) /
                  18446744073709551616)
                (absI c *
                    IntKind.u64.wrap ((IntKind.u64.wrap b).tdiv (gcdI (IntKind.u64.wrap b) (IntKind.u64.wrap d))) %
                  18446744073709551616)) /
            18446744073709551616),
        AV.int IntKind.u64
          ((wV
                (absI a *
                    IntKind.u64.wrap ((IntKind.u64.wrap d).tdiv (gcdI (IntKind.u64.wrap b) (IntKind.u64.wrap d))) /
                  18446744073709551616)
                (absI a *
                    IntKind.u64.wrap ((IntKind.u64.wrap d).tdiv (gcdI (IntKind.u64.wrap b) (IntKind.u64.wrap d))) %
                  18446744073709551616) -
              wV
                (absI c *
                    IntKind.u64.wrap ((IntKind.u64.wrap b).tdiv (gcdI (IntKind.u64.wrap b) (IntKind.u64.wrap d))) /
                  18446744073709551616)
                (absI c *
                    IntKind.u64.wrap ((IntKind.u64.wrap b).tdiv (gcdI (IntKind.u64.wrap b) (IntKind.u64.wrap d))) %
                  18446744073709551616)) %
            18446744073709551616)]
      49]) : Ex × List AV × List Ob) := way (gs := [true, true, true, true, true, true, true, true, false, false, false, false, false, false, false, true]) (show Tr.path _ _ = nestB (h46_tf_3 a b c d) (some ((Ex.normal,
  [AV.ptr 0 0, AV.ptr 1 0, AV.ptr 2 0, AV.int IntKind.u64 (gcdI (IntKind.u64.wrap b) (IntKind.u64.wrap d)),
    AV.bool true, AV.ptr 23 0],
  [Ob.cells [AV.int IntKind.i64 a, AV.int IntKind.i64 b] 23, Ob.cells [AV.int IntKind.i64 c, AV.int IntKind.i64 d] 23,
    Ob.cells [AV.int IntKind.i64 0, AV.int IntKind.i64 0] 23, Ob.free, Ob.free, Ob.free, Ob.free, Ob.free, Ob.free,
    Ob.free, Ob.free, Ob.free,
    Ob.cells
      [AV.int IntKind.u64
          (absI a * IntKind.u64.wrap ((IntKind.u64.wrap d).tdiv (gcdI (IntKind.u64.wrap b) (IntKind.u64.wrap d))) /
            18446744073709551616),
        AV.int IntKind.u64
          (absI a * IntKind.u64.wrap ((IntKind.u64.wrap d).tdiv (gcdI (IntKind.u64.wrap b) (IntKind.u64.wrap d))) %
            18446744073709551616)]
      49,
    Ob.free, Ob.free, Ob.free, Ob.free, Ob.free, Ob.free, Ob.free, Ob.free, Ob.free,
    Ob.cells
      [AV.int IntKind.u64
          (absI c * IntKind.u64.wrap ((IntKind.u64.wrap b).tdiv (gcdI (IntKind.u64.wrap b) (IntKind.u64.wrap d))) /
            18446744073709551616),
        AV.int IntKind.u64
          (absI c * IntKind.u64.wrap ((IntKind.u64.wrap b).tdiv (gcdI (IntKind.u64.wrap b) (IntKind.u64.wrap d))) %
            18446744073709551616)]
      49,
    Ob.cells
      [AV.int IntKind.u64
          ((wV
                (absI a *
                    IntKind.u64.wrap ((IntKind.u64.wrap d).tdiv (gcdI (IntKind.u64.wrap b) (IntKind.u64.wrap d))) /
                  18446744073709551616)
                (absI a *
                    IntKind.u64.wrap ((IntKind.u64.wrap d).tdiv (gcdI (IntKind.u64.wrap b) (IntKind.u64.wrap d))) %
                  18446744073709551616) -
              wV
                (absI c *
                    IntKind.u64.wrap ((IntKind.u64.wrap b).tdiv (gcdI (IntKind.u64.wrap b) (IntKind.u64.wrap d))) /
                  18446744073709551616)
                (absI c *
                    IntKind.u64.wrap ((IntKind.u64.wrap b).tdiv (gcdI (IntKind.u64.wrap b) (IntKind.u64.wrap d))) %
                  18446744073709551616)) /
            18446744073709551616),
        AV.int IntKind.u64
          ((wV
                (absI a *
                    IntKind.u64.wrap ((IntKind.u64.wrap d).tdiv (gcdI (IntKind.u64.wrap b) (IntKind.u64.wrap d))) /
                  18446744073709551616)
                (absI a *
                    IntKind.u64.wrap ((IntKind.u64.wrap d).tdiv (gcdI (IntKind.u64.wrap b) (IntKind.u64.wrap d))) %
                  18446744073709551616) -
              wV
                (absI c *
                    IntKind.u64.wrap ((IntKind.u64.wrap b).tdiv (gcdI (IntKind.u64.wrap b) (IntKind.u64.wrap d))) /
                  18446744073709551616)
                (absI c *
                    IntKind.u64.wrap ((IntKind.u64.wrap b).tdiv (gcdI (IntKind.u64.wrap b) (IntKind.u64.wrap d))) %
                  18446744073709551616)) %
            18446744073709551616)]
      49]))) by kernel_rfl) h
def h46_ft_0 (a b c d : Int) : List (Bool × Bool) := [(decide (0 ≤ IntKind.u64.wrap b) && decide (0 ≤ IntKind.u64.wrap d), true), (decide (-9223372036854775808 ≤ a) && decide (a < 9223372036854775808), true), (!decide (gcdI (IntKind.u64.wrap b) (IntKind.u64.wrap d) = 0), true), (inU (absI a) && inU (IntKind.u64.wrap ((IntKind.u64.wrap d).tdiv (gcdI (IntKind.u64.wrap b) (IntKind.u64.wrap d)))), true), (decide (-9223372036854775808 ≤ c) && decide (c < 9223372036854775808), true), (!decide (gcdI (IntKind.u64.wrap b) (IntKind.u64.wrap d) = 0), true), (inU (absI c) && inU (IntKind.u64.wrap ((IntKind.u64.wrap b).tdiv (gcdI (IntKind.u64.wrap b) (IntKind.u64.wrap d)))), true), (decide (a < 0), false), (decide (a < 0), false), (decide (c < 0), true), (decide
  (absI a * IntKind.u64.wrap ((IntKind.u64.wrap d).tdiv (gcdI (IntKind.u64.wrap b) (IntKind.u64.wrap d))) /
      18446744073709551616 <
    absI c * IntKind.u64.wrap ((IntKind.u64.wrap b).tdiv (gcdI (IntKind.u64.wrap b) (IntKind.u64.wrap d))) /
      18446744073709551616), true), (inU
          (absI c * IntKind.u64.wrap ((IntKind.u64.wrap b).tdiv (gcdI (IntKind.u64.wrap b) (IntKind.u64.wrap d))) /
            18446744073709551616) &&
        inU
          (absI c * IntKind.u64.wrap ((IntKind.u64.wrap b).tdiv (gcdI (IntKind.u64.wrap b) (IntKind.u64.wrap d))) %
            18446744073709551616) &&
      inU
        (absI a * IntKind.u64.wrap ((IntKind.u64.wrap d).tdiv (gcdI (IntKind.u64.wrap b) (IntKind.u64.wrap d))) /
          18446744073709551616) &&
    inU
      (absI a * IntKind.u64.wrap ((IntKind.u64.wrap d).tdiv (gcdI (IntKind.u64.wrap b) (IntKind.u64.wrap d))) %
        18446744073709551616) &&
  decide
    (wV
        (absI a * IntKind.u64.wrap ((IntKind.u64.wrap d).tdiv (gcdI (IntKind.u64.wrap b) (IntKind.u64.wrap d))) /
          18446744073709551616)
        (absI a * IntKind.u64.wrap ((IntKind.u64.wrap d).tdiv (gcdI (IntKind.u64.wrap b) (IntKind.u64.wrap d))) %
          18446744073709551616) ≤
      wV
        (absI c * IntKind.u64.wrap ((IntKind.u64.wrap b).tdiv (gcdI (IntKind.u64.wrap b) (IntKind.u64.wrap d))) /
          18446744073709551616)
        (absI c * IntKind.u64.wrap ((IntKind.u64.wrap b).tdiv (gcdI (IntKind.u64.wrap b) (IntKind.u64.wrap d))) %
          18446744073709551616)), true), (decide (c < 0), true)]
theorem h46_ft_0_ok (a b c d : Int) (h : allB (h46_ft_0 a b c d) = true) : (evPart Tryd.prog (spOf [e36, e37, e38, e53, e54, e65, e66, e67, e68]) (inlOf []) extD (cKD [e36, e37, e38, e53, e54, e65, e66, e67, e68] []) lp46 7 (codeOf Tryd.prog 46) keep46 ⟨frame0 Tryd.f46 [.agg [.int .i64 a, .int .i64 b], .agg [.int .i64 c, .int .i64 d]], []⟩).run = some ((Ex.normal,
  [AV.ptr 0 0, AV.ptr 1 0, AV.ptr 2 0, AV.int IntKind.u64 (gcdI (IntKind.u64.wrap b) (IntKind.u64.wrap d)),
    AV.bool true, AV.ptr 23 0],
  [Ob.cells [AV.int IntKind.i64 a, AV.int IntKind.i64 b] 23, Ob.cells [AV.int IntKind.i64 c, AV.int IntKind.i64 d] 23,
    Ob.cells [AV.int IntKind.i64 0, AV.int IntKind.i64 0] 23, Ob.free, Ob.free, Ob.free, Ob.free, Ob.free, Ob.free,
    Ob.free, Ob.free, Ob.free,
    Ob.cells
      [AV.int IntKind.u64
          (absI a * IntKind.u64.wrap ((IntKind.u64.wrap d).tdiv (gcdI (IntKind.u64.wrap b) (IntKind.u64.wrap d))) /
            18446744073709551616),
        AV.int IntKind.u64
          (absI a * IntKind.u64.wrap ((IntKind.u64.wrap d).tdiv (gcdI (IntKind.u64.wrap b) (IntKind.u64.wrap d))) %
            18446744073709551616)]
      49,
    Ob.free, Ob.free, Ob.free, Ob.free, Ob.free, Ob.free, Ob.free, Ob.free, Ob.free,
    Ob.cells
      [AV.int IntKind.u64
          (absI c * IntKind.u64.wrap ((IntKind.u64.wrap b).tdiv (gcdI (IntKind.u64.wrap b) (IntKind.u64.wrap d))) /
            18446744073709551616),
        AV.int IntKind.u64
          (absI c * IntKind.u64.wrap ((IntKind.u64.wrap b).tdiv (gcdI (IntKind.u64.wrap b) (IntKind.u64.wrap d))) %
            18446744073709551616)]
      49,
    Ob.cells
      [AV.int IntKind.u64
          ((wV
                (absI c *
                    IntKind.u64.wrap ((IntKind.u64.wrap b).tdiv (gcdI (IntKind.u64.wrap b) (IntKind.u64.wrap d))) /
                  18446744073709551616)
                (absI c *
                    IntKind.u64.wrap ((IntKind.u64.wrap b).tdiv (gcdI (IntKind.u64.wrap b) (IntKind.u64.wrap d))) %
                  18446744073709551616) -
              wV
                (absI a *
                    IntKind.u64.wrap ((IntKind.u64.wrap d).tdiv (gcdI (IntKind.u64.wrap b) (IntKind.u64.wrap d))) /
                  18446744073709551616)
                (absI a *
                    IntKind.u64.wrap ((IntKind.u64.wrap d).tdiv (gcdI (IntKind.u64.wrap b) (IntKind.u64.wrap d))) %
                  18446744073709551616)) /
            18446744073709551616),
        AV.int IntKind.u64
          ((wV
                (absI c *
                    IntKind.u64.wrap ((IntKind.u64.wrap b).tdiv (gcdI (IntKind.u64.wrap b) (IntKind.u64.wrap d))) /
                  18446744073709551616)
                (absI c *
                    IntKind.u64.wrap ((IntKind.u64.wrap b).tdiv (gcdI (IntKind.u64.wrap b) (IntKind.u64.wrap d))) %
                  18446744073709551616) -
              wV
                (absI a *
                    IntKind.u64.wrap ((IntKind.u64.wrap d).tdiv (gcdI (IntKind.u64.wrap b) (IntKind.u64.wrap d))) /
                  18446744073709551616)
                (absI a *
                    IntKind.u64.wrap ((IntKind.u64.wrap d).tdiv (gcdI (IntKind.u64.wrap b) (IntKind.u64.wrap d))) %
                  18446744073709551616)) %
            18446744073709551616)]
      49]) : Ex × List AV × List Ob) := way (gs := [true, true, true, true, true, false, false, false, true, false, false, true, true, true, true, true, true]) (show Tr.path _ _ = nestB (h46_ft_0 a b c d) (some ((Ex.normal,
  [AV.ptr 0 0, AV.ptr 1 0, AV.ptr 2 0, AV.int IntKind.u64 (gcdI (IntKind.u64.wrap b) (IntKind.u64.wrap d)),
    AV.bool true, AV.ptr 23 0],
  [Ob.cells [AV.int IntKind.i64 a, AV.int IntKind.i64 b] 23, Ob.cells [AV.int IntKind.i64 c, AV.int IntKind.i64 d] 23,
    Ob.cells [AV.int IntKind.i64 0, AV.int IntKind.i64 0] 23, Ob.free, Ob.free, Ob.free, Ob.free, Ob.free, Ob.free,
    Ob.free, Ob.free, Ob.free,
    Ob.cells
      [AV.int IntKind.u64
          (absI a * IntKind.u64.wrap ((IntKind.u64.wrap d).tdiv (gcdI (IntKind.u64.wrap b) (IntKind.u64.wrap d))) /
            18446744073709551616),
        AV.int IntKind.u64
          (absI a * IntKind.u64.wrap ((IntKind.u64.wrap d).tdiv (gcdI (IntKind.u64.wrap b) (IntKind.u64.wrap d))) %
            18446744073709551616)]
      49,
    Ob.free, Ob.free, Ob.free, Ob.free, Ob.free, Ob.free, Ob.free, Ob.free, Ob.free,
    Ob.cells
      [AV.int IntKind.u64
          (absI c * IntKind.u64.wrap ((IntKind.u64.wrap b).tdiv (gcdI (IntKind.u64.wrap b) (IntKind.u64.wrap d))) /
            18446744073709551616),
        AV.int IntKind.u64
          (absI c * IntKind.u64.wrap ((IntKind.u64.wrap b).tdiv (gcdI (IntKind.u64.wrap b) (IntKind.u64.wrap d))) %
            18446744073709551616)]
      49,
    Ob.cells
      [AV.int IntKind.u64
          ((wV
                (absI c *
                    IntKind.u64.wrap ((IntKind.u64.wrap b).tdiv (gcdI (IntKind.u64.wrap b) (IntKind.u64.wrap d))) /
                  18446744073709551616)
                (absI c *
                    IntKind.u64.wrap ((IntKind.u64.wrap b).tdiv (gcdI (IntKind.u64.wrap b) (IntKind.u64.wrap d))) %
                  18446744073709551616) -
              wV
                (absI a *
                    IntKind.u64.wrap ((IntKind.u64.wrap d).tdiv (gcdI (IntKind.u64.wrap b) (IntKind.u64.wrap d))) /
                  18446744073709551616)
                (absI a *
                    IntKind.u64.wrap ((IntKind.u64.wrap d).tdiv (gcdI (IntKind.u64.wrap b) (IntKind.u64.wrap d))) %
                  18446744073709551616)) /
            18446744073709551616),
        AV.int IntKind.u64
          ((wV
                (absI c *
                    IntKind.u64.wrap ((IntKind.u64.wrap b).tdiv (gcdI (IntKind.u64.wrap b) (IntKind.u64.wrap d))) /
                  18446744073709551616)
                (absI c *
                    IntKind.u64.wrap ((IntKind.u64.wrap b).tdiv (gcdI (IntKind.u64.wrap b) (IntKind.u64.wrap d))) %
                  18446744073709551616) -
              wV
                (absI a *
                    IntKind.u64.wrap ((IntKind.u64.wrap d).tdiv (gcdI (IntKind.u64.wrap b) (IntKind.u64.wrap d))) /
                  18446744073709551616)
                (absI a *
                    IntKind.u64.wrap ((IntKind.u64.wrap d).tdiv (gcdI (IntKind.u64.wrap b) (IntKind.u64.wrap d))) %
                  18446744073709551616)) %
            18446744073709551616)]
      49]))) by kernel_rfl) h
def h46_ft_1 (a b c d : Int) : List (Bool × Bool) := [(decide (0 ≤ IntKind.u64.wrap b) && decide (0 ≤ IntKind.u64.wrap d), true), (decide (-9223372036854775808 ≤ a) && decide (a < 9223372036854775808), true), (!decide (gcdI (IntKind.u64.wrap b) (IntKind.u64.wrap d) = 0), true), (inU (absI a) && inU (IntKind.u64.wrap ((IntKind.u64.wrap d).tdiv (gcdI (IntKind.u64.wrap b) (IntKind.u64.wrap d)))), true), (decide (-9223372036854775808 ≤ c) && decide (c < 9223372036854775808), true), (!decide (gcdI (IntKind.u64.wrap b) (IntKind.u64.wrap d) = 0), true), (inU (absI c) && inU (IntKind.u64.wrap ((IntKind.u64.wrap b).tdiv (gcdI (IntKind.u64.wrap b) (IntKind.u64.wrap d)))), true), (decide (a < 0), false), (decide (a < 0), false), (decide (c < 0), true), (decide
  (absI a * IntKind.u64.wrap ((IntKind.u64.wrap d).tdiv (gcdI (IntKind.u64.wrap b) (IntKind.u64.wrap d))) /
      18446744073709551616 <
    absI c * IntKind.u64.wrap ((IntKind.u64.wrap b).tdiv (gcdI (IntKind.u64.wrap b) (IntKind.u64.wrap d))) /
      18446744073709551616), false), (absI a * IntKind.u64.wrap ((IntKind.u64.wrap d).tdiv (gcdI (IntKind.u64.wrap b) (IntKind.u64.wrap d))) /
    18446744073709551616 ==
  absI c * IntKind.u64.wrap ((IntKind.u64.wrap b).tdiv (gcdI (IntKind.u64.wrap b) (IntKind.u64.wrap d))) /
    18446744073709551616, true), (decide
  (absI a * IntKind.u64.wrap ((IntKind.u64.wrap d).tdiv (gcdI (IntKind.u64.wrap b) (IntKind.u64.wrap d))) %
      18446744073709551616 <
    absI c * IntKind.u64.wrap ((IntKind.u64.wrap b).tdiv (gcdI (IntKind.u64.wrap b) (IntKind.u64.wrap d))) %
      18446744073709551616), true), (inU
          (absI c * IntKind.u64.wrap ((IntKind.u64.wrap b).tdiv (gcdI (IntKind.u64.wrap b) (IntKind.u64.wrap d))) /
            18446744073709551616) &&
        inU
          (absI c * IntKind.u64.wrap ((IntKind.u64.wrap b).tdiv (gcdI (IntKind.u64.wrap b) (IntKind.u64.wrap d))) %
            18446744073709551616) &&
      inU
        (absI a * IntKind.u64.wrap ((IntKind.u64.wrap d).tdiv (gcdI (IntKind.u64.wrap b) (IntKind.u64.wrap d))) /
          18446744073709551616) &&
    inU
      (absI a * IntKind.u64.wrap ((IntKind.u64.wrap d).tdiv (gcdI (IntKind.u64.wrap b) (IntKind.u64.wrap d))) %
        18446744073709551616) &&
  decide
    (wV
        (absI a * IntKind.u64.wrap ((IntKind.u64.wrap d).tdiv (gcdI (IntKind.u64.wrap b) (IntKind.u64.wrap d))) /
          18446744073709551616)
        (absI a * IntKind.u64.wrap ((IntKind.u64.wrap d).tdiv (gcdI (IntKind.u64.wrap b) (IntKind.u64.wrap d))) %
          18446744073709551616) ≤
      wV
        (absI c * IntKind.u64.wrap ((IntKind.u64.wrap b).tdiv (gcdI (IntKind.u64.wrap b) (IntKind.u64.wrap d))) /
          18446744073709551616)
        (absI c * IntKind.u64.wrap ((IntKind.u64.wrap b).tdiv (gcdI (IntKind.u64.wrap b) (IntKind.u64.wrap d))) %
          18446744073709551616)), true), (decide (c < 0), true)]
theorem h46_ft_1_ok (a b c d : Int) (h : allB (h46_ft_1 a b c d) = true) : (evPart Tryd.prog (spOf [e36, e37, e38, e53, e54, e65, e66, e67, e68]) (inlOf []) extD (cKD [e36, e37, e38, e53, e54, e65, e66, e67, e68] []) lp46 7 (codeOf Tryd.prog 46) keep46 ⟨frame0 Tryd.f46 [.agg [.int .i64 a, .int .i64 b], .agg [.int .i64 c, .int .i64 d]], []⟩).run = some ((Ex.normal,
  [AV.ptr 0 0, AV.ptr 1 0, AV.ptr 2 0, AV.int IntKind.u64 (gcdI (IntKind.u64.wrap b) (IntKind.u64.wrap d)),
    AV.bool true, AV.ptr 23 0],
  [Ob.cells [AV.int IntKind.i64 a, AV.int IntKind.i64 b] 23, Ob.cells [AV.int IntKind.i64 c, AV.int IntKind.i64 d] 23,
    Ob.cells [AV.int IntKind.i64 0, AV.int IntKind.i64 0] 23, Ob.free, Ob.free, Ob.free, Ob.free, Ob.free, Ob.free,
    Ob.free, Ob.free, Ob.free,
    Ob.cells
      [AV.int IntKind.u64
          (absI a * IntKind.u64.wrap ((IntKind.u64.wrap d).tdiv (gcdI (IntKind.u64.wrap b) (IntKind.u64.wrap d))) /
            18446744073709551616),
        AV.int IntKind.u64
          (absI a * IntKind.u64.wrap ((IntKind.u64.wrap d).tdiv (gcdI (IntKind.u64.wrap b) (IntKind.u64.wrap d))) %
            18446744073709551616)]
      49,
    Ob.free, Ob.free, Ob.free, Ob.free, Ob.free, Ob.free, Ob.free, Ob.free, Ob.free,
    Ob.cells
      [AV.int IntKind.u64
          (absI c * IntKind.u64.wrap ((IntKind.u64.wrap b).tdiv (gcdI (IntKind.u64.wrap b) (IntKind.u64.wrap d))) /
            18446744073709551616),
        AV.int IntKind.u64
          (absI c * IntKind.u64.wrap ((IntKind.u64.wrap b).tdiv (gcdI (IntKind.u64.wrap b) (IntKind.u64.wrap d))) %
            18446744073709551616)]
      49,
    Ob.cells
      [AV.int IntKind.u64
          ((wV
                (absI c *
                    IntKind.u64.wrap ((IntKind.u64.wrap b).tdiv (gcdI (IntKind.u64.wrap b) (IntKind.u64.wrap d))) /
                  18446744073709551616)
                (absI c *
                    IntKind.u64.wrap ((IntKind.u64.wrap b).tdiv (gcdI (IntKind.u64.wrap b) (IntKind.u64.wrap d))) %
                  18446744073709551616) -
              wV
                (absI a *
                    IntKind.u64.wrap ((IntKind.u64.wrap d).tdiv (gcdI (IntKind.u64.wrap b) (IntKind.u64.wrap d))) /
                  18446744073709551616)
                (absI a *
                    IntKind.u64.wrap ((IntKind.u64.wrap d).tdiv (gcdI (IntKind.u64.wrap b) (IntKind.u64.wrap d))) %
                  18446744073709551616)) /
            18446744073709551616),
        AV.int IntKind.u64
          ((wV
                (absI c *
                    IntKind.u64.wrap ((IntKind.u64.wrap b).tdiv (gcdI (IntKind.u64.wrap b) (IntKind.u64.wrap d))) /
                  18446744073709551616)
                (absI c *
                    IntKind.u64.wrap ((IntKind.u64.wrap b).tdiv (gcdI (IntKind.u64.wrap b) (IntKind.u64.wrap d))) %
                  18446744073709551616) -
              wV
                (absI a *
                    IntKind.u64.wrap ((IntKind.u64.wrap d).tdiv (gcdI (IntKind.u64.wrap b) (IntKind.u64.wrap d))) /
                  18446744073709551616)
                (absI a *
                    IntKind.u64.wrap ((IntKind.u64.wrap d).tdiv (gcdI (IntKind.u64.wrap b) (IntKind.u64.wrap d))) %
                  18446744073709551616)) %
            18446744073709551616)]
      49]) : Ex × List AV × List Ob) := way (gs := [true, true, true, true, true, false, false, false, true, false, false, false, true, true, true, true, true, true, true]) (show Tr.path _ _ = nestB (h46_ft_1 a b c d) (some ((Ex.normal,
  [AV.ptr 0 0, AV.ptr 1 0, AV.ptr 2 0, AV.int IntKind.u64 (gcdI (IntKind.u64.wrap b) (IntKind.u64.wrap d)),
    AV.bool true, AV.ptr 23 0],
  [Ob.cells [AV.int IntKind.i64 a, AV.int IntKind.i64 b] 23, Ob.cells [AV.int IntKind.i64 c, AV.int IntKind.i64 d] 23,
    Ob.cells [AV.int IntKind.i64 0, AV.int IntKind.i64 0] 23, Ob.free, Ob.free, Ob.free, Ob.free, Ob.free, Ob.free,
    Ob.free, Ob.free, Ob.free,
    Ob.cells
      [AV.int IntKind.u64
          (absI a * IntKind.u64.wrap ((IntKind.u64.wrap d).tdiv (gcdI (IntKind.u64.wrap b) (IntKind.u64.wrap d))) /
            18446744073709551616),
        AV.int IntKind.u64
          (absI a * IntKind.u64.wrap ((IntKind.u64.wrap d).tdiv (gcdI (IntKind.u64.wrap b) (IntKind.u64.wrap d))) %
            18446744073709551616)]
      49,
    Ob.free, Ob.free, Ob.free, Ob.free, Ob.free, Ob.free, Ob.free, Ob.free, Ob.free,
    Ob.cells
      [AV.int IntKind.u64
          (absI c * IntKind.u64.wrap ((IntKind.u64.wrap b).tdiv (gcdI (IntKind.u64.wrap b) (IntKind.u64.wrap d))) /
            18446744073709551616),
        AV.int IntKind.u64
          (absI c * IntKind.u64.wrap ((IntKind.u64.wrap b).tdiv (gcdI (IntKind.u64.wrap b) (IntKind.u64.wrap d))) %
            18446744073709551616)]
      49,
    Ob.cells
      [AV.int IntKind.u64
          ((wV
                (absI c *
                    IntKind.u64.wrap ((IntKind.u64.wrap b).tdiv (gcdI (IntKind.u64.wrap b) (IntKind.u64.wrap d))) /
                  18446744073709551616)
                (absI c *
                    IntKind.u64.wrap ((IntKind.u64.wrap b).tdiv (gcdI (IntKind.u64.wrap b) (IntKind.u64.wrap d))) %
                  18446744073709551616) -
              wV
                (absI a *
                    IntKind.u64.wrap ((IntKind.u64.wrap d).tdiv (gcdI (IntKind.u64.wrap b) (IntKind.u64.wrap d))) /
                  18446744073709551616)
                (absI a *
                    IntKind.u64.wrap ((IntKind.u64.wrap d).tdiv (gcdI (IntKind.u64.wrap b) (IntKind.u64.wrap d))) %
                  18446744073709551616)) /
            18446744073709551616),
        AV.int IntKind.u64
          ((wV
                (absI c *
                    IntKind.u64.wrap ((IntKind.u64.wrap b).tdiv (gcdI (IntKind.u64.wrap b) (IntKind.u64.wrap d))) /
                  18446744073709551616)
                (absI c *
                    IntKind.u64.wrap ((IntKind.u64.wrap b).tdiv (gcdI (IntKind.u64.wrap b) (IntKind.u64.wrap d))) %
                  18446744073709551616) -
              wV
                (absI a *
                    IntKind.u64.wrap ((IntKind.u64.wrap d).tdiv (gcdI (IntKind.u64.wrap b) (IntKind.u64.wrap d))) /
                  18446744073709551616)
                (absI a *
                    IntKind.u64.wrap ((IntKind.u64.wrap d).tdiv (gcdI (IntKind.u64.wrap b) (IntKind.u64.wrap d))) %
                  18446744073709551616)) %
            18446744073709551616)]
      49]))) by kernel_rfl) h
def h46_ft_2 (a b c d : Int) : List (Bool × Bool) := [(decide (0 ≤ IntKind.u64.wrap b) && decide (0 ≤ IntKind.u64.wrap d), true), (decide (-9223372036854775808 ≤ a) && decide (a < 9223372036854775808), true), (!decide (gcdI (IntKind.u64.wrap b) (IntKind.u64.wrap d) = 0), true), (inU (absI a) && inU (IntKind.u64.wrap ((IntKind.u64.wrap d).tdiv (gcdI (IntKind.u64.wrap b) (IntKind.u64.wrap d)))), true), (decide (-9223372036854775808 ≤ c) && decide (c < 9223372036854775808), true), (!decide (gcdI (IntKind.u64.wrap b) (IntKind.u64.wrap d) = 0), true), (inU (absI c) && inU (IntKind.u64.wrap ((IntKind.u64.wrap b).tdiv (gcdI (IntKind.u64.wrap b) (IntKind.u64.wrap d)))), true), (decide (a < 0), false), (decide (a < 0), false), (decide (c < 0), true), (decide
  (absI a * IntKind.u64.wrap ((IntKind.u64.wrap d).tdiv (gcdI (IntKind.u64.wrap b) (IntKind.u64.wrap d))) /
      18446744073709551616 <
    absI c * IntKind.u64.wrap ((IntKind.u64.wrap b).tdiv (gcdI (IntKind.u64.wrap b) (IntKind.u64.wrap d))) /
      18446744073709551616), false), (absI a * IntKind.u64.wrap ((IntKind.u64.wrap d).tdiv (gcdI (IntKind.u64.wrap b) (IntKind.u64.wrap d))) /
    18446744073709551616 ==
  absI c * IntKind.u64.wrap ((IntKind.u64.wrap b).tdiv (gcdI (IntKind.u64.wrap b) (IntKind.u64.wrap d))) /
    18446744073709551616, true), (decide
  (absI a * IntKind.u64.wrap ((IntKind.u64.wrap d).tdiv (gcdI (IntKind.u64.wrap b) (IntKind.u64.wrap d))) %
      18446744073709551616 <
    absI c * IntKind.u64.wrap ((IntKind.u64.wrap b).tdiv (gcdI (IntKind.u64.wrap b) (IntKind.u64.wrap d))) %
      18446744073709551616), false), (inU
          (absI a * IntKind.u64.wrap ((IntKind.u64.wrap d).tdiv (gcdI (IntKind.u64.wrap b) (IntKind.u64.wrap d))) /
            18446744073709551616) &&
        inU
          (absI a * IntKind.u64.wrap ((IntKind.u64.wrap d).tdiv (gcdI (IntKind.u64.wrap b) (IntKind.u64.wrap d))) %
            18446744073709551616) &&
      inU
        (absI c * IntKind.u64.wrap ((IntKind.u64.wrap b).tdiv (gcdI (IntKind.u64.wrap b) (IntKind.u64.wrap d))) /
          18446744073709551616) &&
    inU
      (absI c * IntKind.u64.wrap ((IntKind.u64.wrap b).tdiv (gcdI (IntKind.u64.wrap b) (IntKind.u64.wrap d))) %
        18446744073709551616) &&
  decide
    (wV
        (absI c * IntKind.u64.wrap ((IntKind.u64.wrap b).tdiv (gcdI (IntKind.u64.wrap b) (IntKind.u64.wrap d))) /
          18446744073709551616)
        (absI c * IntKind.u64.wrap ((IntKind.u64.wrap b).tdiv (gcdI (IntKind.u64.wrap b) (IntKind.u64.wrap d))) %
          18446744073709551616) ≤
      wV
        (absI a * IntKind.u64.wrap ((IntKind.u64.wrap d).tdiv (gcdI (IntKind.u64.wrap b) (IntKind.u64.wrap d))) /
          18446744073709551616)
        (absI a * IntKind.u64.wrap ((IntKind.u64.wrap d).tdiv (gcdI (IntKind.u64.wrap b) (IntKind.u64.wrap d))) %
          18446744073709551616)), true)]
theorem h46_ft_2_ok (a b c d : Int) (h : allB (h46_ft_2 a b c d) = true) : (evPart Tryd.prog (spOf [e36, e37, e38, e53, e54, e65, e66, e67, e68]) (inlOf []) extD (cKD [e36, e37, e38, e53, e54, e65, e66, e67, e68] []) lp46 7 (codeOf Tryd.prog 46) keep46 ⟨frame0 Tryd.f46 [.agg [.int .i64 a, .int .i64 b], .agg [.int .i64 c, .int .i64 d]], []⟩).run = some ((Ex.normal,
  [AV.ptr 0 0, AV.ptr 1 0, AV.ptr 2 0, AV.int IntKind.u64 (gcdI (IntKind.u64.wrap b) (IntKind.u64.wrap d)),
    AV.bool false, AV.ptr 23 0],
  [Ob.cells [AV.int IntKind.i64 a, AV.int IntKind.i64 b] 23, Ob.cells [AV.int IntKind.i64 c, AV.int IntKind.i64 d] 23,
    Ob.cells [AV.int IntKind.i64 0, AV.int IntKind.i64 0] 23, Ob.free, Ob.free, Ob.free, Ob.free, Ob.free, Ob.free,
    Ob.free, Ob.free, Ob.free,
    Ob.cells
      [AV.int IntKind.u64
          (absI a * IntKind.u64.wrap ((IntKind.u64.wrap d).tdiv (gcdI (IntKind.u64.wrap b) (IntKind.u64.wrap d))) /
            18446744073709551616),
        AV.int IntKind.u64
          (absI a * IntKind.u64.wrap ((IntKind.u64.wrap d).tdiv (gcdI (IntKind.u64.wrap b) (IntKind.u64.wrap d))) %
            18446744073709551616)]
      49,
    Ob.free, Ob.free, Ob.free, Ob.free, Ob.free, Ob.free, Ob.free, Ob.free, Ob.free,
    Ob.cells
      [AV.int IntKind.u64
          (absI c * IntKind.u64.wrap ((IntKind.u64.wrap b).tdiv (gcdI (IntKind.u64.wrap b) (IntKind.u64.wrap d))) /
            18446744073709551616),
        AV.int IntKind.u64
          (absI c * IntKind.u64.wrap ((IntKind.u64.wrap b).tdiv (gcdI (IntKind.u64.wrap b) (IntKind.u64.wrap d))) %
            18446744073709551616)]
      49,
    Ob.cells
      [AV.int IntKind.u64
          ((wV
                (absI a *
                    IntKind.u64.wrap ((IntKind.u64.wrap d).tdiv (gcdI (IntKind.u64.wrap b) (IntKind.u64.wrap d))) /
                  18446744073709551616)
                (absI a *
                    IntKind.u64.wrap ((IntKind.u64.wrap d).tdiv (gcdI (IntKind.u64.wrap b) (IntKind.u64.wrap d))) %
                  18446744073709551616) -
              wV
                (absI c *
                    IntKind.u64.wrap ((IntKind.u64.wrap b).tdiv (gcdI (IntKind.u64.wrap b) (IntKind.u64.wrap d))) /
                  18446744073709551616)
                (absI c *
                    IntKind.u64.wrap ((IntKind.u64.wrap b).tdiv (gcdI (IntKind.u64.wrap b) (IntKind.u64.wrap d))) %
                  18446744073709551616)) /
            18446744073709551616),
        AV.int IntKind.u64
          ((wV
                (absI a *
                    IntKind.u64.wrap ((IntKind.u64.wrap d).tdiv (gcdI (IntKind.u64.wrap b) (IntKind.u64.wrap d))) /
                  18446744073709551616)
                (absI a *
                    IntKind.u64.wrap ((IntKind.u64.wrap d).tdiv (gcdI (IntKind.u64.wrap b) (IntKind.u64.wrap d))) %
                  18446744073709551616) -
              wV
                (absI c *
                    IntKind.u64.wrap ((IntKind.u64.wrap b).tdiv (gcdI (IntKind.u64.wrap b) (IntKind.u64.wrap d))) /
                  18446744073709551616)
                (absI c *
                    IntKind.u64.wrap ((IntKind.u64.wrap b).tdiv (gcdI (IntKind.u64.wrap b) (IntKind.u64.wrap d))) %
                  18446744073709551616)) %
            18446744073709551616)]
      49]) : Ex × List AV × List Ob) := way (gs := [true, true, true, true, true, false, false, false, true, false, false, false, true, false, false, false, true]) (show Tr.path _ _ = nestB (h46_ft_2 a b c d) (some ((Ex.normal,
  [AV.ptr 0 0, AV.ptr 1 0, AV.ptr 2 0, AV.int IntKind.u64 (gcdI (IntKind.u64.wrap b) (IntKind.u64.wrap d)),
    AV.bool false, AV.ptr 23 0],
  [Ob.cells [AV.int IntKind.i64 a, AV.int IntKind.i64 b] 23, Ob.cells [AV.int IntKind.i64 c, AV.int IntKind.i64 d] 23,
    Ob.cells [AV.int IntKind.i64 0, AV.int IntKind.i64 0] 23, Ob.free, Ob.free, Ob.free, Ob.free, Ob.free, Ob.free,
    Ob.free, Ob.free, Ob.free,
    Ob.cells
      [AV.int IntKind.u64
          (absI a * IntKind.u64.wrap ((IntKind.u64.wrap d).tdiv (gcdI (IntKind.u64.wrap b) (IntKind.u64.wrap d))) /
            18446744073709551616),
        AV.int IntKind.u64
          (absI a * IntKind.u64.wrap ((IntKind.u64.wrap d).tdiv (gcdI (IntKind.u64.wrap b) (IntKind.u64.wrap d))) %
            18446744073709551616)]
      49,
    Ob.free, Ob.free, Ob.free, Ob.free, Ob.free, Ob.free, Ob.free, Ob.free, Ob.free,
    Ob.cells
      [AV.int IntKind.u64
          (absI c * IntKind.u64.wrap ((IntKind.u64.wrap b).tdiv (gcdI (IntKind.u64.wrap b) (IntKind.u64.wrap d))) /
            18446744073709551616),
        AV.int IntKind.u64
          (absI c * IntKind.u64.wrap ((IntKind.u64.wrap b).tdiv (gcdI (IntKind.u64.wrap b) (IntKind.u64.wrap d))) %
            18446744073709551616)]
      49,
    Ob.cells
      [AV.int IntKind.u64
          ((wV
                (absI a *
                    IntKind.u64.wrap ((IntKind.u64.wrap d).tdiv (gcdI (IntKind.u64.wrap b) (IntKind.u64.wrap d))) /
                  18446744073709551616)
                (absI a *
                    IntKind.u64.wrap ((IntKind.u64.wrap d).tdiv (gcdI (IntKind.u64.wrap b) (IntKind.u64.wrap d))) %
                  18446744073709551616) -
              wV
                (absI c *
                    IntKind.u64.wrap ((IntKind.u64.wrap b).tdiv (gcdI (IntKind.u64.wrap b) (IntKind.u64.wrap d))) /
                  18446744073709551616)
                (absI c *
                    IntKind.u64.wrap ((IntKind.u64.wrap b).tdiv (gcdI (IntKind.u64.wrap b) (IntKind.u64.wrap d))) %
                  18446744073709551616)) /
            18446744073709551616),
        AV.int IntKind.u64
          ((wV
                (absI a *
                    IntKind.u64.wrap ((IntKind.u64.wrap d).tdiv (gcdI (IntKind.u64.wrap b) (IntKind.u64.wrap d))) /
                  18446744073709551616)
                (absI a *
                    IntKind.u64.wrap ((IntKind.u64.wrap d).tdiv (gcdI (IntKind.u64.wrap b) (IntKind.u64.wrap d))) %
                  18446744073709551616) -
              wV
                (absI c *
                    IntKind.u64.wrap ((IntKind.u64.wrap b).tdiv (gcdI (IntKind.u64.wrap b) (IntKind.u64.wrap d))) /
                  18446744073709551616)
                (absI c *
                    IntKind.u64.wrap ((IntKind.u64.wrap b).tdiv (gcdI (IntKind.u64.wrap b) (IntKind.u64.wrap d))) %
                  18446744073709551616)) %
            18446744073709551616)]
      49]))) by kernel_rfl) h
def h46_ft_3 (a b c d : Int) : List (Bool × Bool) := [(decide (0 ≤ IntKind.u64.wrap b) && decide (0 ≤ IntKind.u64.wrap d), true), (decide (-9223372036854775808 ≤ a) && decide (a < 9223372036854775808), true), (!decide (gcdI (IntKind.u64.wrap b) (IntKind.u64.wrap d) = 0), true), (inU (absI a) && inU (IntKind.u64.wrap ((IntKind.u64.wrap d).tdiv (gcdI (IntKind.u64.wrap b) (IntKind.u64.wrap d)))), true), (decide (-9223372036854775808 ≤ c) && decide (c < 9223372036854775808), true), (!decide (gcdI (IntKind.u64.wrap b) (IntKind.u64.wrap d) = 0), true), (inU (absI c) && inU (IntKind.u64.wrap ((IntKind.u64.wrap b).tdiv (gcdI (IntKind.u64.wrap b) (IntKind.u64.wrap d)))), true), (decide (a < 0), false), (decide (a < 0), false), (decide (c < 0), true), (decide
  (absI a * IntKind.u64.wrap ((IntKind.u64.wrap d).tdiv (gcdI (IntKind.u64.wrap b) (IntKind.u64.wrap d))) /
      18446744073709551616 <
    absI c * IntKind.u64.wrap ((IntKind.u64.wrap b).tdiv (gcdI (IntKind.u64.wrap b) (IntKind.u64.wrap d))) /
      18446744073709551616), false), (absI a * IntKind.u64.wrap ((IntKind.u64.wrap d).tdiv (gcdI (IntKind.u64.wrap b) (IntKind.u64.wrap d))) /
    18446744073709551616 ==
  absI c * IntKind.u64.wrap ((IntKind.u64.wrap b).tdiv (gcdI (IntKind.u64.wrap b) (IntKind.u64.wrap d))) /
    18446744073709551616, false), (inU
          (absI a * IntKind.u64.wrap ((IntKind.u64.wrap d).tdiv (gcdI (IntKind.u64.wrap b) (IntKind.u64.wrap d))) /
            18446744073709551616) &&
        inU
          (absI a * IntKind.u64.wrap ((IntKind.u64.wrap d).tdiv (gcdI (IntKind.u64.wrap b) (IntKind.u64.wrap d))) %
            18446744073709551616) &&
      inU
        (absI c * IntKind.u64.wrap ((IntKind.u64.wrap b).tdiv (gcdI (IntKind.u64.wrap b) (IntKind.u64.wrap d))) /
          18446744073709551616) &&
    inU
      (absI c * IntKind.u64.wrap ((IntKind.u64.wrap b).tdiv (gcdI (IntKind.u64.wrap b) (IntKind.u64.wrap d))) %
        18446744073709551616) &&
  decide
    (wV
        (absI c * IntKind.u64.wrap ((IntKind.u64.wrap b).tdiv (gcdI (IntKind.u64.wrap b) (IntKind.u64.wrap d))) /
          18446744073709551616)
        (absI c * IntKind.u64.wrap ((IntKind.u64.wrap b).tdiv (gcdI (IntKind.u64.wrap b) (IntKind.u64.wrap d))) %
          18446744073709551616) ≤
      wV
        (absI a * IntKind.u64.wrap ((IntKind.u64.wrap d).tdiv (gcdI (IntKind.u64.wrap b) (IntKind.u64.wrap d))) /
          18446744073709551616)
        (absI a * IntKind.u64.wrap ((IntKind.u64.wrap d).tdiv (gcdI (IntKind.u64.wrap b) (IntKind.u64.wrap d))) %
          18446744073709551616)), true)]
theorem h46_ft_3_ok (a b c d : Int) (h : allB (h46_ft_3 a b c d) = true) : (evPart Tryd.prog (spOf [e36, e37, e38, e53, e54, e65, e66, e67, e68]) (inlOf []) extD (cKD [e36, e37, e38, e53, e54, e65, e66, e67, e68] []) lp46 7 (codeOf Tryd.prog 46) keep46 ⟨frame0 Tryd.f46 [.agg [.int .i64 a, .int .i64 b], .agg [.int .i64 c, .int .i64 d]], []⟩).run = some ((Ex.normal,
  [AV.ptr 0 0, AV.ptr 1 0, AV.ptr 2 0, AV.int IntKind.u64 (gcdI (IntKind.u64.wrap b) (IntKind.u64.wrap d)),
    AV.bool false, AV.ptr 23 0],
  [Ob.cells [AV.int IntKind.i64 a, AV.int IntKind.i64 b] 23, Ob.cells [AV.int IntKind.i64 c, AV.int IntKind.i64 d] 23,
    Ob.cells [AV.int IntKind.i64 0, AV.int IntKind.i64 0] 23, Ob.free, Ob.free, Ob.free, Ob.free, Ob.free, Ob.free,
    Ob.free, Ob.free, Ob.free,
    Ob.cells
      [AV.int IntKind.u64
          (absI a * IntKind.u64.wrap ((IntKind.u64.wrap d).tdiv (gcdI (IntKind.u64.wrap b) (IntKind.u64.wrap d))) /
            18446744073709551616),
        AV.int IntKind.u64
          (absI a * IntKind.u64.wrap ((IntKind.u64.wrap d).tdiv (gcdI (IntKind.u64.wrap b) (IntKind.u64.wrap d))) %
            18446744073709551616)]
      49,
    Ob.free, Ob.free, Ob.free, Ob.free, Ob.free, Ob.free, Ob.free, Ob.free, Ob.free,
    Ob.cells
      [AV.int IntKind.u64
          (absI c * IntKind.u64.wrap ((IntKind.u64.wrap b).tdiv (gcdI (IntKind.u64.wrap b) (IntKind.u64.wrap d))) /
            18446744073709551616),
        AV.int IntKind.u64
          (absI c * IntKind.u64.wrap ((IntKind.u64.wrap b).tdiv (gcdI (IntKind.u64.wrap b) (IntKind.u64.wrap d))) %
            18446744073709551616)]
      49,
    Ob.cells
      [AV.int IntKind.u64
          ((wV
                (absI a *
                    IntKind.u64.wrap ((IntKind.u64.wrap d).tdiv (gcdI (IntKind.u64.wrap b) (IntKind.u64.wrap d))) /
                  18446744073709551616)
                (absI a *
                    IntKind.u64.wrap ((IntKind.u64.wrap d).tdiv (gcdI (IntKind.u64.wrap b) (IntKind.u64.wrap d))) %
                  18446744073709551616) -
              wV
                (absI c *
                    IntKind.u64.wrap ((IntKind.u64.wrap b).tdiv (gcdI (IntKind.u64.wrap b) (IntKind.u64.wrap d))) /
                  18446744073709551616)
                (absI c *
                    IntKind.u64.wrap ((IntKind.u64.wrap b).tdiv (gcdI (IntKind.u64.wrap b) (IntKind.u64.wrap d))) %
                  18446744073709551616)) /
            18446744073709551616),
        AV.int IntKind.u64
          ((wV
                (absI a *
                    IntKind.u64.wrap ((IntKind.u64.wrap d).tdiv (gcdI (IntKind.u64.wrap b) (IntKind.u64.wrap d))) /
                  18446744073709551616)
                (absI a *
                    IntKind.u64.wrap ((IntKind.u64.wrap d).tdiv (gcdI (IntKind.u64.wrap b) (IntKind.u64.wrap d))) %
                  18446744073709551616) -
              wV
                (absI c *
                    IntKind.u64.wrap ((IntKind.u64.wrap b).tdiv (gcdI (IntKind.u64.wrap b) (IntKind.u64.wrap d))) /
                  18446744073709551616)
                (absI c *
                    IntKind.u64.wrap ((IntKind.u64.wrap b).tdiv (gcdI (IntKind.u64.wrap b) (IntKind.u64.wrap d))) %
                  18446744073709551616)) %
            18446744073709551616)]
      49]) : Ex × List AV × List Ob) := way (gs := [true, true, true, true, true, false, false, false, true, false, false, false, false, false, false, true]) (show Tr.path _ _ = nestB (h46_ft_3 a b c d) (some ((Ex.normal,
  [AV.ptr 0 0, AV.ptr 1 0, AV.ptr 2 0, AV.int IntKind.u64 (gcdI (IntKind.u64.wrap b) (IntKind.u64.wrap d)),
    AV.bool false, AV.ptr 23 0],
  [Ob.cells [AV.int IntKind.i64 a, AV.int IntKind.i64 b] 23, Ob.cells [AV.int IntKind.i64 c, AV.int IntKind.i64 d] 23,
    Ob.cells [AV.int IntKind.i64 0, AV.int IntKind.i64 0] 23, Ob.free, Ob.free, Ob.free, Ob.free, Ob.free, Ob.free,
    Ob.free, Ob.free, Ob.free,
    Ob.cells
      [AV.int IntKind.u64
          (absI a * IntKind.u64.wrap ((IntKind.u64.wrap d).tdiv (gcdI (IntKind.u64.wrap b) (IntKind.u64.wrap d))) /
            18446744073709551616),
        AV.int IntKind.u64
          (absI a * IntKind.u64.wrap ((IntKind.u64.wrap d).tdiv (gcdI (IntKind.u64.wrap b) (IntKind.u64.wrap d))) %
            18446744073709551616)]
      49,
    Ob.free, Ob.free, Ob.free, Ob.free, Ob.free, Ob.free, Ob.free, Ob.free, Ob.free,
    Ob.cells
      [AV.int IntKind.u64
          (absI c * IntKind.u64.wrap ((IntKind.u64.wrap b).tdiv (gcdI (IntKind.u64.wrap b) (IntKind.u64.wrap d))) /
            18446744073709551616),
        AV.int IntKind.u64
          (absI c * IntKind.u64.wrap ((IntKind.u64.wrap b).tdiv (gcdI (IntKind.u64.wrap b) (IntKind.u64.wrap d))) %
            18446744073709551616)]
      49,
    Ob.cells
      [AV.int IntKind.u64
          ((wV
                (absI a *
                    IntKind.u64.wrap ((IntKind.u64.wrap d).tdiv (gcdI (IntKind.u64.wrap b) (IntKind.u64.wrap d))) /
                  18446744073709551616)
                (absI a *
                    IntKind.u64.wrap ((IntKind.u64.wrap d).tdiv (gcdI (IntKind.u64.wrap b) (IntKind.u64.wrap d))) %
                  18446744073709551616) -
              wV
                (absI c *
                    IntKind.u64.wrap ((IntKind.u64.wrap b).tdiv (gcdI (IntKind.u64.wrap b) (IntKind.u64.wrap d))) /
                  18446744073709551616)
                (absI c *
                    IntKind.u64.wrap ((IntKind.u64.wrap b).tdiv (gcdI (IntKind.u64.wrap b) (IntKind.u64.wrap d))) %
                  18446744073709551616)) /
            18446744073709551616),
        AV.int IntKind.u64
          ((wV
                (absI a *
                    IntKind.u64.wrap ((IntKind.u64.wrap d).tdiv (gcdI (IntKind.u64.wrap b) (IntKind.u64.wrap d))) /
                  18446744073709551616)
                (absI a *
                    IntKind.u64.wrap ((IntKind.u64.wrap d).tdiv (gcdI (IntKind.u64.wrap b) (IntKind.u64.wrap d))) %
                  18446744073709551616) -
              wV
                (absI c *
                    IntKind.u64.wrap ((IntKind.u64.wrap b).tdiv (gcdI (IntKind.u64.wrap b) (IntKind.u64.wrap d))) /
                  18446744073709551616)
                (absI c *
                    IntKind.u64.wrap ((IntKind.u64.wrap b).tdiv (gcdI (IntKind.u64.wrap b) (IntKind.u64.wrap d))) %
                  18446744073709551616)) %
            18446744073709551616)]
      49]))) by kernel_rfl) h
def h46_ff_0 (a b c d : Int) : List (Bool × Bool) := [(decide (0 ≤ IntKind.u64.wrap b) && decide (0 ≤ IntKind.u64.wrap d), true), (decide (-9223372036854775808 ≤ a) && decide (a < 9223372036854775808), true), (!decide (gcdI (IntKind.u64.wrap b) (IntKind.u64.wrap d) = 0), true), (inU (absI a) && inU (IntKind.u64.wrap ((IntKind.u64.wrap d).tdiv (gcdI (IntKind.u64.wrap b) (IntKind.u64.wrap d)))), true), (decide (-9223372036854775808 ≤ c) && decide (c < 9223372036854775808), true), (!decide (gcdI (IntKind.u64.wrap b) (IntKind.u64.wrap d) = 0), true), (inU (absI c) && inU (IntKind.u64.wrap ((IntKind.u64.wrap b).tdiv (gcdI (IntKind.u64.wrap b) (IntKind.u64.wrap d)))), true), (decide (a < 0), false), (decide (a < 0), false), (decide (c < 0), false), (inU
          (absI a * IntKind.u64.wrap ((IntKind.u64.wrap d).tdiv (gcdI (IntKind.u64.wrap b) (IntKind.u64.wrap d))) /
            18446744073709551616) &&
        inU
          (absI a * IntKind.u64.wrap ((IntKind.u64.wrap d).tdiv (gcdI (IntKind.u64.wrap b) (IntKind.u64.wrap d))) %
            18446744073709551616) &&
      inU
        (absI c * IntKind.u64.wrap ((IntKind.u64.wrap b).tdiv (gcdI (IntKind.u64.wrap b) (IntKind.u64.wrap d))) /
          18446744073709551616) &&
    inU
      (absI c * IntKind.u64.wrap ((IntKind.u64.wrap b).tdiv (gcdI (IntKind.u64.wrap b) (IntKind.u64.wrap d))) %
        18446744073709551616) &&
  decide
    (absI a * IntKind.u64.wrap ((IntKind.u64.wrap d).tdiv (gcdI (IntKind.u64.wrap b) (IntKind.u64.wrap d))) /
          18446744073709551616 +
        absI c * IntKind.u64.wrap ((IntKind.u64.wrap b).tdiv (gcdI (IntKind.u64.wrap b) (IntKind.u64.wrap d))) /
          18446744073709551616 <
      18446744073709551615), true)]
theorem h46_ff_0_ok (a b c d : Int) (h : allB (h46_ff_0 a b c d) = true) : (evPart Tryd.prog (spOf [e36, e37, e38, e53, e54, e65, e66, e67, e68]) (inlOf []) extD (cKD [e36, e37, e38, e53, e54, e65, e66, e67, e68] []) lp46 7 (codeOf Tryd.prog 46) keep46 ⟨frame0 Tryd.f46 [.agg [.int .i64 a, .int .i64 b], .agg [.int .i64 c, .int .i64 d]], []⟩).run = some ((Ex.normal,
  [AV.ptr 0 0, AV.ptr 1 0, AV.ptr 2 0, AV.int IntKind.u64 (gcdI (IntKind.u64.wrap b) (IntKind.u64.wrap d)),
    AV.bool false, AV.ptr 23 0],
  [Ob.cells [AV.int IntKind.i64 a, AV.int IntKind.i64 b] 23, Ob.cells [AV.int IntKind.i64 c, AV.int IntKind.i64 d] 23,
    Ob.cells [AV.int IntKind.i64 0, AV.int IntKind.i64 0] 23, Ob.free, Ob.free, Ob.free, Ob.free, Ob.free, Ob.free,
    Ob.free, Ob.free, Ob.free,
    Ob.cells
      [AV.int IntKind.u64
          (absI a * IntKind.u64.wrap ((IntKind.u64.wrap d).tdiv (gcdI (IntKind.u64.wrap b) (IntKind.u64.wrap d))) /
            18446744073709551616),
        AV.int IntKind.u64
          (absI a * IntKind.u64.wrap ((IntKind.u64.wrap d).tdiv (gcdI (IntKind.u64.wrap b) (IntKind.u64.wrap d))) %
            18446744073709551616)]
      49,
    Ob.free, Ob.free, Ob.free, Ob.free, Ob.free, Ob.free, Ob.free, Ob.free, Ob.free,
    Ob.cells
      [AV.int IntKind.u64
          (absI c * IntKind.u64.wrap ((IntKind.u64.wrap b).tdiv (gcdI (IntKind.u64.wrap b) (IntKind.u64.wrap d))) /
            18446744073709551616),
        AV.int IntKind.u64
          (absI c * IntKind.u64.wrap ((IntKind.u64.wrap b).tdiv (gcdI (IntKind.u64.wrap b) (IntKind.u64.wrap d))) %
            18446744073709551616)]
      49,
    Ob.cells
      [AV.int IntKind.u64
          ((wV
                (absI a *
                    IntKind.u64.wrap ((IntKind.u64.wrap d).tdiv (gcdI (IntKind.u64.wrap b) (IntKind.u64.wrap d))) /
                  18446744073709551616)
                (absI a *
                    IntKind.u64.wrap ((IntKind.u64.wrap d).tdiv (gcdI (IntKind.u64.wrap b) (IntKind.u64.wrap d))) %
                  18446744073709551616) +
              wV
                (absI c *
                    IntKind.u64.wrap ((IntKind.u64.wrap b).tdiv (gcdI (IntKind.u64.wrap b) (IntKind.u64.wrap d))) /
                  18446744073709551616)
                (absI c *
                    IntKind.u64.wrap ((IntKind.u64.wrap b).tdiv (gcdI (IntKind.u64.wrap b) (IntKind.u64.wrap d))) %
                  18446744073709551616)) /
            18446744073709551616),
        AV.int IntKind.u64
          ((wV
                (absI a *
                    IntKind.u64.wrap ((IntKind.u64.wrap d).tdiv (gcdI (IntKind.u64.wrap b) (IntKind.u64.wrap d))) /
                  18446744073709551616)
                (absI a *
                    IntKind.u64.wrap ((IntKind.u64.wrap d).tdiv (gcdI (IntKind.u64.wrap b) (IntKind.u64.wrap d))) %
                  18446744073709551616) +
              wV
                (absI c *
                    IntKind.u64.wrap ((IntKind.u64.wrap b).tdiv (gcdI (IntKind.u64.wrap b) (IntKind.u64.wrap d))) /
                  18446744073709551616)
                (absI c *
                    IntKind.u64.wrap ((IntKind.u64.wrap b).tdiv (gcdI (IntKind.u64.wrap b) (IntKind.u64.wrap d))) %
                  18446744073709551616)) %
            18446744073709551616)]
      49]) : Ex × List AV × List Ob) := way (gs := [true, true, true, true, true, false, false, false, false, true, true, true]) (show Tr.path _ _ = nestB (h46_ff_0 a b c d) (some ((Ex.normal,
  [AV.ptr 0 0, AV.ptr 1 0, AV.ptr 2 0, AV.int IntKind.u64 (gcdI (IntKind.u64.wrap b) (IntKind.u64.wrap d)),
    AV.bool false, AV.ptr 23 0],
  [Ob.cells [AV.int IntKind.i64 a, AV.int IntKind.i64 b] 23, Ob.cells [AV.int IntKind.i64 c, AV.int IntKind.i64 d] 23,
    Ob.cells [AV.int IntKind.i64 0, AV.int IntKind.i64 0] 23, Ob.free, Ob.free, Ob.free, Ob.free, Ob.free, Ob.free,
    Ob.free, Ob.free, Ob.free,
    Ob.cells
      [AV.int IntKind.u64
          (absI a * IntKind.u64.wrap ((IntKind.u64.wrap d).tdiv (gcdI (IntKind.u64.wrap b) (IntKind.u64.wrap d))) /
            18446744073709551616),
        AV.int IntKind.u64
          (absI a * IntKind.u64.wrap ((IntKind.u64.wrap d).tdiv (gcdI (IntKind.u64.wrap b) (IntKind.u64.wrap d))) %
            18446744073709551616)]
      49,
    Ob.free, Ob.free, Ob.free, Ob.free, Ob.free, Ob.free, Ob.free, Ob.free, Ob.free,
    Ob.cells
      [AV.int IntKind.u64
          (absI c * IntKind.u64.wrap ((IntKind.u64.wrap b).tdiv (gcdI (IntKind.u64.wrap b) (IntKind.u64.wrap d))) /
            18446744073709551616),
        AV.int IntKind.u64
          (absI c * IntKind.u64.wrap ((IntKind.u64.wrap b).tdiv (gcdI (IntKind.u64.wrap b) (IntKind.u64.wrap d))) %
            18446744073709551616)]
      49,
    Ob.cells
      [AV.int IntKind.u64
          ((wV
                (absI a *
                    IntKind.u64.wrap ((IntKind.u64.wrap d).tdiv (gcdI (IntKind.u64.wrap b) (IntKind.u64.wrap d))) /
                  18446744073709551616)
                (absI a *
                    IntKind.u64.wrap ((IntKind.u64.wrap d).tdiv (gcdI (IntKind.u64.wrap b) (IntKind.u64.wrap d))) %
                  18446744073709551616) +
              wV
                (absI c *
                    IntKind.u64.wrap ((IntKind.u64.wrap b).tdiv (gcdI (IntKind.u64.wrap b) (IntKind.u64.wrap d))) /
                  18446744073709551616)
                (absI c *
                    IntKind.u64.wrap ((IntKind.u64.wrap b).tdiv (gcdI (IntKind.u64.wrap b) (IntKind.u64.wrap d))) %
                  18446744073709551616)) /
            18446744073709551616),
        AV.int IntKind.u64
          ((wV
                (absI a *
                    IntKind.u64.wrap ((IntKind.u64.wrap d).tdiv (gcdI (IntKind.u64.wrap b) (IntKind.u64.wrap d))) /
                  18446744073709551616)
                (absI a *
                    IntKind.u64.wrap ((IntKind.u64.wrap d).tdiv (gcdI (IntKind.u64.wrap b) (IntKind.u64.wrap d))) %
                  18446744073709551616) +
              wV
                (absI c *
                    IntKind.u64.wrap ((IntKind.u64.wrap b).tdiv (gcdI (IntKind.u64.wrap b) (IntKind.u64.wrap d))) /
                  18446744073709551616)
                (absI c *
                    IntKind.u64.wrap ((IntKind.u64.wrap b).tdiv (gcdI (IntKind.u64.wrap b) (IntKind.u64.wrap d))) %
                  18446744073709551616)) %
            18446744073709551616)]
      49]))) by kernel_rfl) h
end Go.Proofs.YtekkphoingjidaaDoor

/- The ways of sum behind its test for zero, and of multiple. No condition. -/
namespace Go.Proofs.YtekkphoingjidaaDoor
open Go.Evl Go.RowKit
def t46_t_0 (_a _b _c _d _g _p1 _p0 _q1 _q0 n1 n0 : Int) : List (Bool × Bool) := [(n1 == 0 && (n0 == 0 && true), true)]
theorem t46_t_0_ok (a b c d g p1 p0 q1 q0 n1 n0 : Int) (h : allB (t46_t_0 a b c d g p1 p0 q1 q0 n1 n0) = true) : (evRest Tryd.prog (spOf [e36, e37, e38, e53, e54, e65, e66, e67, e68]) (inlOf []) extD (cKD [e36, e37, e38, e53, e54, e65, e66, e67, e68] []) lp46 (dropSeq 7 (codeOf Tryd.prog 46)) 88 keep46 [.ptr 0 0, .ptr 1 0, .ptr 2 0, .int .u64 g, .bool true, .ptr 23 0] (heap46 a b c d p1 p0 q1 q0 n1 n0) (endKT Tryd.prog Tryd.f46 0 fun r _ => .ofOpt (some r))).run = some (Res.ret (AV.agg [AV.int IntKind.i64 0, AV.int IntKind.i64 1]) : Res) := way (gs := [true]) (by kernel_rfl) h
def t46_t_1 (_a b _c d g _p1 _p0 _q1 _q0 n1 n0 : Int) : List (Bool × Bool) := [(n1 == 0 && (n0 == 0 && true), false), (inU n1 && inU n0 && inU g && decide (0 < g), true), (decide (0 ≤ wV n1 n0 % g) && decide (0 ≤ g), true), (inU n1 && inU n0 && inU (gcdI (wV n1 n0 % g) g) && decide (0 < gcdI (wV n1 n0 % g) g), true), (!decide (g = 0), true), (!decide (gcdI (wV n1 n0 % g) g = 0), true), (inU (IntKind.u64.wrap ((IntKind.u64.wrap b).tdiv g)) &&
  inU (IntKind.u64.wrap ((IntKind.u64.wrap d).tdiv (gcdI (wV n1 n0 % g) g))), true), (inU (wV n1 n0 / gcdI (wV n1 n0 % g) g % 18446744073709551616) &&
  inU
    (IntKind.u64.wrap ((IntKind.u64.wrap b).tdiv g) *
        IntKind.u64.wrap ((IntKind.u64.wrap d).tdiv (gcdI (wV n1 n0 % g) g)) %
      18446744073709551616), true), (fitB (wV n1 n0 / gcdI (wV n1 n0 % g) g / 18446744073709551616) (wV n1 n0 / gcdI (wV n1 n0 % g) g % 18446744073709551616), true), (fitB
  (IntKind.u64.wrap ((IntKind.u64.wrap b).tdiv g) *
      IntKind.u64.wrap ((IntKind.u64.wrap d).tdiv (gcdI (wV n1 n0 % g) g)) /
    18446744073709551616)
  (IntKind.u64.wrap ((IntKind.u64.wrap b).tdiv g) *
      IntKind.u64.wrap ((IntKind.u64.wrap d).tdiv (gcdI (wV n1 n0 % g) g)) %
    18446744073709551616), true)]
theorem t46_t_1_ok (a b c d g p1 p0 q1 q0 n1 n0 : Int) (h : allB (t46_t_1 a b c d g p1 p0 q1 q0 n1 n0) = true) : (evRest Tryd.prog (spOf [e36, e37, e38, e53, e54, e65, e66, e67, e68]) (inlOf []) extD (cKD [e36, e37, e38, e53, e54, e65, e66, e67, e68] []) lp46 (dropSeq 7 (codeOf Tryd.prog 46)) 88 keep46 [.ptr 0 0, .ptr 1 0, .ptr 2 0, .int .u64 g, .bool true, .ptr 23 0] (heap46 a b c d p1 p0 q1 q0 n1 n0) (endKT Tryd.prog Tryd.f46 0 fun r _ => .ofOpt (some r))).run = some (Res.ret
  (AV.agg
    [AV.int IntKind.i64
        (bif true then -(wV n1 n0 / gcdI (wV n1 n0 % g) g % 18446744073709551616)
        else wV n1 n0 / gcdI (wV n1 n0 % g) g % 18446744073709551616),
      AV.int IntKind.i64
        (IntKind.u64.wrap ((IntKind.u64.wrap b).tdiv g) *
            IntKind.u64.wrap ((IntKind.u64.wrap d).tdiv (gcdI (wV n1 n0 % g) g)) %
          18446744073709551616)]) : Res) := way (gs := [false, true, true, true, true, true, true, true, true]) (by kernel_rfl) h
def t46_t_2 (_a b _c d g _p1 _p0 _q1 _q0 n1 n0 : Int) : List (Bool × Bool) := [(n1 == 0 && (n0 == 0 && true), false), (inU n1 && inU n0 && inU g && decide (0 < g), true), (decide (0 ≤ wV n1 n0 % g) && decide (0 ≤ g), true), (inU n1 && inU n0 && inU (gcdI (wV n1 n0 % g) g) && decide (0 < gcdI (wV n1 n0 % g) g), true), (!decide (g = 0), true), (!decide (gcdI (wV n1 n0 % g) g = 0), true), (inU (IntKind.u64.wrap ((IntKind.u64.wrap b).tdiv g)) &&
  inU (IntKind.u64.wrap ((IntKind.u64.wrap d).tdiv (gcdI (wV n1 n0 % g) g))), true), (inU (wV n1 n0 / gcdI (wV n1 n0 % g) g % 18446744073709551616) &&
  inU
    (IntKind.u64.wrap ((IntKind.u64.wrap b).tdiv g) *
        IntKind.u64.wrap ((IntKind.u64.wrap d).tdiv (gcdI (wV n1 n0 % g) g)) %
      18446744073709551616), true), (fitB (wV n1 n0 / gcdI (wV n1 n0 % g) g / 18446744073709551616) (wV n1 n0 / gcdI (wV n1 n0 % g) g % 18446744073709551616), true), (fitB
  (IntKind.u64.wrap ((IntKind.u64.wrap b).tdiv g) *
      IntKind.u64.wrap ((IntKind.u64.wrap d).tdiv (gcdI (wV n1 n0 % g) g)) /
    18446744073709551616)
  (IntKind.u64.wrap ((IntKind.u64.wrap b).tdiv g) *
      IntKind.u64.wrap ((IntKind.u64.wrap d).tdiv (gcdI (wV n1 n0 % g) g)) %
    18446744073709551616), false)]
theorem t46_t_2_ok (a b c d g p1 p0 q1 q0 n1 n0 : Int) (h : allB (t46_t_2 a b c d g p1 p0 q1 q0 n1 n0) = true) : (evRest Tryd.prog (spOf [e36, e37, e38, e53, e54, e65, e66, e67, e68]) (inlOf []) extD (cKD [e36, e37, e38, e53, e54, e65, e66, e67, e68] []) lp46 (dropSeq 7 (codeOf Tryd.prog 46)) 88 keep46 [.ptr 0 0, .ptr 1 0, .ptr 2 0, .int .u64 g, .bool true, .ptr 23 0] (heap46 a b c d p1 p0 q1 q0 n1 n0) (endKT Tryd.prog Tryd.f46 0 fun r _ => .ofOpt (some r))).run = some (Res.pan : Res) := way (gs := [false, true, true, true, true, true, true, true, false]) (by kernel_rfl) h
def t46_t_3 (_a b _c d g _p1 _p0 _q1 _q0 n1 n0 : Int) : List (Bool × Bool) := [(n1 == 0 && (n0 == 0 && true), false), (inU n1 && inU n0 && inU g && decide (0 < g), true), (decide (0 ≤ wV n1 n0 % g) && decide (0 ≤ g), true), (inU n1 && inU n0 && inU (gcdI (wV n1 n0 % g) g) && decide (0 < gcdI (wV n1 n0 % g) g), true), (!decide (g = 0), true), (!decide (gcdI (wV n1 n0 % g) g = 0), true), (inU (IntKind.u64.wrap ((IntKind.u64.wrap b).tdiv g)) &&
  inU (IntKind.u64.wrap ((IntKind.u64.wrap d).tdiv (gcdI (wV n1 n0 % g) g))), true), (inU (wV n1 n0 / gcdI (wV n1 n0 % g) g % 18446744073709551616) &&
  inU
    (IntKind.u64.wrap ((IntKind.u64.wrap b).tdiv g) *
        IntKind.u64.wrap ((IntKind.u64.wrap d).tdiv (gcdI (wV n1 n0 % g) g)) %
      18446744073709551616), true), (fitB (wV n1 n0 / gcdI (wV n1 n0 % g) g / 18446744073709551616) (wV n1 n0 / gcdI (wV n1 n0 % g) g % 18446744073709551616), false)]
theorem t46_t_3_ok (a b c d g p1 p0 q1 q0 n1 n0 : Int) (h : allB (t46_t_3 a b c d g p1 p0 q1 q0 n1 n0) = true) : (evRest Tryd.prog (spOf [e36, e37, e38, e53, e54, e65, e66, e67, e68]) (inlOf []) extD (cKD [e36, e37, e38, e53, e54, e65, e66, e67, e68] []) lp46 (dropSeq 7 (codeOf Tryd.prog 46)) 88 keep46 [.ptr 0 0, .ptr 1 0, .ptr 2 0, .int .u64 g, .bool true, .ptr 23 0] (heap46 a b c d p1 p0 q1 q0 n1 n0) (endKT Tryd.prog Tryd.f46 0 fun r _ => .ofOpt (some r))).run = some (Res.pan : Res) := way (gs := [false, true, true, true, true, true, true, false]) (by kernel_rfl) h
def t46_f_0 (_a _b _c _d _g _p1 _p0 _q1 _q0 n1 n0 : Int) : List (Bool × Bool) := [(n1 == 0 && (n0 == 0 && true), true)]
theorem t46_f_0_ok (a b c d g p1 p0 q1 q0 n1 n0 : Int) (h : allB (t46_f_0 a b c d g p1 p0 q1 q0 n1 n0) = true) : (evRest Tryd.prog (spOf [e36, e37, e38, e53, e54, e65, e66, e67, e68]) (inlOf []) extD (cKD [e36, e37, e38, e53, e54, e65, e66, e67, e68] []) lp46 (dropSeq 7 (codeOf Tryd.prog 46)) 88 keep46 [.ptr 0 0, .ptr 1 0, .ptr 2 0, .int .u64 g, .bool false, .ptr 23 0] (heap46 a b c d p1 p0 q1 q0 n1 n0) (endKT Tryd.prog Tryd.f46 0 fun r _ => .ofOpt (some r))).run = some (Res.ret (AV.agg [AV.int IntKind.i64 0, AV.int IntKind.i64 1]) : Res) := way (gs := [true]) (by kernel_rfl) h
def t46_f_1 (_a b _c d g _p1 _p0 _q1 _q0 n1 n0 : Int) : List (Bool × Bool) := [(n1 == 0 && (n0 == 0 && true), false), (inU n1 && inU n0 && inU g && decide (0 < g), true), (decide (0 ≤ wV n1 n0 % g) && decide (0 ≤ g), true), (inU n1 && inU n0 && inU (gcdI (wV n1 n0 % g) g) && decide (0 < gcdI (wV n1 n0 % g) g), true), (!decide (g = 0), true), (!decide (gcdI (wV n1 n0 % g) g = 0), true), (inU (IntKind.u64.wrap ((IntKind.u64.wrap b).tdiv g)) &&
  inU (IntKind.u64.wrap ((IntKind.u64.wrap d).tdiv (gcdI (wV n1 n0 % g) g))), true), (inU (wV n1 n0 / gcdI (wV n1 n0 % g) g % 18446744073709551616) &&
  inU
    (IntKind.u64.wrap ((IntKind.u64.wrap b).tdiv g) *
        IntKind.u64.wrap ((IntKind.u64.wrap d).tdiv (gcdI (wV n1 n0 % g) g)) %
      18446744073709551616), true), (fitB (wV n1 n0 / gcdI (wV n1 n0 % g) g / 18446744073709551616) (wV n1 n0 / gcdI (wV n1 n0 % g) g % 18446744073709551616), true), (fitB
  (IntKind.u64.wrap ((IntKind.u64.wrap b).tdiv g) *
      IntKind.u64.wrap ((IntKind.u64.wrap d).tdiv (gcdI (wV n1 n0 % g) g)) /
    18446744073709551616)
  (IntKind.u64.wrap ((IntKind.u64.wrap b).tdiv g) *
      IntKind.u64.wrap ((IntKind.u64.wrap d).tdiv (gcdI (wV n1 n0 % g) g)) %
    18446744073709551616), true)]
theorem t46_f_1_ok (a b c d g p1 p0 q1 q0 n1 n0 : Int) (h : allB (t46_f_1 a b c d g p1 p0 q1 q0 n1 n0) = true) : (evRest Tryd.prog (spOf [e36, e37, e38, e53, e54, e65, e66, e67, e68]) (inlOf []) extD (cKD [e36, e37, e38, e53, e54, e65, e66, e67, e68] []) lp46 (dropSeq 7 (codeOf Tryd.prog 46)) 88 keep46 [.ptr 0 0, .ptr 1 0, .ptr 2 0, .int .u64 g, .bool false, .ptr 23 0] (heap46 a b c d p1 p0 q1 q0 n1 n0) (endKT Tryd.prog Tryd.f46 0 fun r _ => .ofOpt (some r))).run = some (Res.ret
  (AV.agg
    [AV.int IntKind.i64
        (bif false then -(wV n1 n0 / gcdI (wV n1 n0 % g) g % 18446744073709551616)
        else wV n1 n0 / gcdI (wV n1 n0 % g) g % 18446744073709551616),
      AV.int IntKind.i64
        (IntKind.u64.wrap ((IntKind.u64.wrap b).tdiv g) *
            IntKind.u64.wrap ((IntKind.u64.wrap d).tdiv (gcdI (wV n1 n0 % g) g)) %
          18446744073709551616)]) : Res) := way (gs := [false, true, true, false, true, true, true, true, true]) (by kernel_rfl) h
def t46_f_2 (_a b _c d g _p1 _p0 _q1 _q0 n1 n0 : Int) : List (Bool × Bool) := [(n1 == 0 && (n0 == 0 && true), false), (inU n1 && inU n0 && inU g && decide (0 < g), true), (decide (0 ≤ wV n1 n0 % g) && decide (0 ≤ g), true), (inU n1 && inU n0 && inU (gcdI (wV n1 n0 % g) g) && decide (0 < gcdI (wV n1 n0 % g) g), true), (!decide (g = 0), true), (!decide (gcdI (wV n1 n0 % g) g = 0), true), (inU (IntKind.u64.wrap ((IntKind.u64.wrap b).tdiv g)) &&
  inU (IntKind.u64.wrap ((IntKind.u64.wrap d).tdiv (gcdI (wV n1 n0 % g) g))), true), (inU (wV n1 n0 / gcdI (wV n1 n0 % g) g % 18446744073709551616) &&
  inU
    (IntKind.u64.wrap ((IntKind.u64.wrap b).tdiv g) *
        IntKind.u64.wrap ((IntKind.u64.wrap d).tdiv (gcdI (wV n1 n0 % g) g)) %
      18446744073709551616), true), (fitB (wV n1 n0 / gcdI (wV n1 n0 % g) g / 18446744073709551616) (wV n1 n0 / gcdI (wV n1 n0 % g) g % 18446744073709551616), true), (fitB
  (IntKind.u64.wrap ((IntKind.u64.wrap b).tdiv g) *
      IntKind.u64.wrap ((IntKind.u64.wrap d).tdiv (gcdI (wV n1 n0 % g) g)) /
    18446744073709551616)
  (IntKind.u64.wrap ((IntKind.u64.wrap b).tdiv g) *
      IntKind.u64.wrap ((IntKind.u64.wrap d).tdiv (gcdI (wV n1 n0 % g) g)) %
    18446744073709551616), false)]
theorem t46_f_2_ok (a b c d g p1 p0 q1 q0 n1 n0 : Int) (h : allB (t46_f_2 a b c d g p1 p0 q1 q0 n1 n0) = true) : (evRest Tryd.prog (spOf [e36, e37, e38, e53, e54, e65, e66, e67, e68]) (inlOf []) extD (cKD [e36, e37, e38, e53, e54, e65, e66, e67, e68] []) lp46 (dropSeq 7 (codeOf Tryd.prog 46)) 88 keep46 [.ptr 0 0, .ptr 1 0, .ptr 2 0, .int .u64 g, .bool false, .ptr 23 0] (heap46 a b c d p1 p0 q1 q0 n1 n0) (endKT Tryd.prog Tryd.f46 0 fun r _ => .ofOpt (some r))).run = some (Res.pan : Res) := way (gs := [false, true, true, false, true, true, true, true, false]) (by kernel_rfl) h
def t46_f_3 (_a b _c d g _p1 _p0 _q1 _q0 n1 n0 : Int) : List (Bool × Bool) := [(n1 == 0 && (n0 == 0 && true), false), (inU n1 && inU n0 && inU g && decide (0 < g), true), (decide (0 ≤ wV n1 n0 % g) && decide (0 ≤ g), true), (inU n1 && inU n0 && inU (gcdI (wV n1 n0 % g) g) && decide (0 < gcdI (wV n1 n0 % g) g), true), (!decide (g = 0), true), (!decide (gcdI (wV n1 n0 % g) g = 0), true), (inU (IntKind.u64.wrap ((IntKind.u64.wrap b).tdiv g)) &&
  inU (IntKind.u64.wrap ((IntKind.u64.wrap d).tdiv (gcdI (wV n1 n0 % g) g))), true), (inU (wV n1 n0 / gcdI (wV n1 n0 % g) g % 18446744073709551616) &&
  inU
    (IntKind.u64.wrap ((IntKind.u64.wrap b).tdiv g) *
        IntKind.u64.wrap ((IntKind.u64.wrap d).tdiv (gcdI (wV n1 n0 % g) g)) %
      18446744073709551616), true), (fitB (wV n1 n0 / gcdI (wV n1 n0 % g) g / 18446744073709551616) (wV n1 n0 / gcdI (wV n1 n0 % g) g % 18446744073709551616), false)]
theorem t46_f_3_ok (a b c d g p1 p0 q1 q0 n1 n0 : Int) (h : allB (t46_f_3 a b c d g p1 p0 q1 q0 n1 n0) = true) : (evRest Tryd.prog (spOf [e36, e37, e38, e53, e54, e65, e66, e67, e68]) (inlOf []) extD (cKD [e36, e37, e38, e53, e54, e65, e66, e67, e68] []) lp46 (dropSeq 7 (codeOf Tryd.prog 46)) 88 keep46 [.ptr 0 0, .ptr 1 0, .ptr 2 0, .int .u64 g, .bool false, .ptr 23 0] (heap46 a b c d p1 p0 q1 q0 n1 n0) (endKT Tryd.prog Tryd.f46 0 fun r _ => .ofOpt (some r))).run = some (Res.pan : Res) := way (gs := [false, true, true, false, true, true, true, false]) (by kernel_rfl) h
def w48_0 (a b c d : Int) : List (Bool × Bool) := [(decide (-9223372036854775808 ≤ a) && decide (a < 9223372036854775808), true), (decide (0 ≤ absI a) && decide (0 ≤ IntKind.u64.wrap d), true), (decide (-9223372036854775808 ≤ c) && decide (c < 9223372036854775808), true), (decide (0 ≤ absI c) && decide (0 ≤ IntKind.u64.wrap b), true), (decide (-9223372036854775808 ≤ a) && decide (a < 9223372036854775808), true), (!decide (gcdI (absI a) (IntKind.u64.wrap d) = 0), true), (decide (-9223372036854775808 ≤ c) && decide (c < 9223372036854775808), true), (!decide (gcdI (absI c) (IntKind.u64.wrap b) = 0), true), (inU (IntKind.u64.wrap ((absI a).tdiv (gcdI (absI a) (IntKind.u64.wrap d)))) &&
  inU (IntKind.u64.wrap ((absI c).tdiv (gcdI (absI c) (IntKind.u64.wrap b)))), true), (!decide (gcdI (absI c) (IntKind.u64.wrap b) = 0), true), (!decide (gcdI (absI a) (IntKind.u64.wrap d) = 0), true), (inU (IntKind.u64.wrap ((IntKind.u64.wrap b).tdiv (gcdI (absI c) (IntKind.u64.wrap b)))) &&
  inU (IntKind.u64.wrap ((IntKind.u64.wrap d).tdiv (gcdI (absI a) (IntKind.u64.wrap d)))), true), (decide (a < 0), true), (decide (c < 0), true), (inU
    (IntKind.u64.wrap ((absI a).tdiv (gcdI (absI a) (IntKind.u64.wrap d))) *
        IntKind.u64.wrap ((absI c).tdiv (gcdI (absI c) (IntKind.u64.wrap b))) %
      18446744073709551616) &&
  inU
    (IntKind.u64.wrap ((IntKind.u64.wrap b).tdiv (gcdI (absI c) (IntKind.u64.wrap b))) *
        IntKind.u64.wrap ((IntKind.u64.wrap d).tdiv (gcdI (absI a) (IntKind.u64.wrap d))) %
      18446744073709551616), true), (fitB
  (IntKind.u64.wrap ((absI a).tdiv (gcdI (absI a) (IntKind.u64.wrap d))) *
      IntKind.u64.wrap ((absI c).tdiv (gcdI (absI c) (IntKind.u64.wrap b))) /
    18446744073709551616)
  (IntKind.u64.wrap ((absI a).tdiv (gcdI (absI a) (IntKind.u64.wrap d))) *
      IntKind.u64.wrap ((absI c).tdiv (gcdI (absI c) (IntKind.u64.wrap b))) %
    18446744073709551616), true), (fitB
  (IntKind.u64.wrap ((IntKind.u64.wrap b).tdiv (gcdI (absI c) (IntKind.u64.wrap b))) *
      IntKind.u64.wrap ((IntKind.u64.wrap d).tdiv (gcdI (absI a) (IntKind.u64.wrap d))) /
    18446744073709551616)
  (IntKind.u64.wrap ((IntKind.u64.wrap b).tdiv (gcdI (absI c) (IntKind.u64.wrap b))) *
      IntKind.u64.wrap ((IntKind.u64.wrap d).tdiv (gcdI (absI a) (IntKind.u64.wrap d))) %
    18446744073709551616), true)]
theorem w48_0_ok (a b c d : Int) (h : allB (w48_0 a b c d) = true) : (evFnT Tryd.prog (spOf [e36, e37, e38, e53]) (inlOf []) extD (cKD [e36, e37, e38, e53] []) (fun _ => .unroll 0) Tryd.f48 [.agg [.int .i64 a, .int .i64 b], .agg [.int .i64 c, .int .i64 d]] [] (fun r _ => .ofOpt (some r))).run = some (Res.ret
  (AV.agg
    [AV.int IntKind.i64
        (bif false then
          -(IntKind.u64.wrap ((absI a).tdiv (gcdI (absI a) (IntKind.u64.wrap d))) *
                IntKind.u64.wrap ((absI c).tdiv (gcdI (absI c) (IntKind.u64.wrap b))) %
              18446744073709551616)
        else
          IntKind.u64.wrap ((absI a).tdiv (gcdI (absI a) (IntKind.u64.wrap d))) *
              IntKind.u64.wrap ((absI c).tdiv (gcdI (absI c) (IntKind.u64.wrap b))) %
            18446744073709551616),
      AV.int IntKind.i64
        (IntKind.u64.wrap ((IntKind.u64.wrap b).tdiv (gcdI (absI c) (IntKind.u64.wrap b))) *
            IntKind.u64.wrap ((IntKind.u64.wrap d).tdiv (gcdI (absI a) (IntKind.u64.wrap d))) %
          18446744073709551616)]) : Res) := way (gs := [true, true, true, true, true, true, true, true, true, true, false, true, true, true]) (by kernel_rfl) h
def w48_1 (a b c d : Int) : List (Bool × Bool) := [(decide (-9223372036854775808 ≤ a) && decide (a < 9223372036854775808), true), (decide (0 ≤ absI a) && decide (0 ≤ IntKind.u64.wrap d), true), (decide (-9223372036854775808 ≤ c) && decide (c < 9223372036854775808), true), (decide (0 ≤ absI c) && decide (0 ≤ IntKind.u64.wrap b), true), (decide (-9223372036854775808 ≤ a) && decide (a < 9223372036854775808), true), (!decide (gcdI (absI a) (IntKind.u64.wrap d) = 0), true), (decide (-9223372036854775808 ≤ c) && decide (c < 9223372036854775808), true), (!decide (gcdI (absI c) (IntKind.u64.wrap b) = 0), true), (inU (IntKind.u64.wrap ((absI a).tdiv (gcdI (absI a) (IntKind.u64.wrap d)))) &&
  inU (IntKind.u64.wrap ((absI c).tdiv (gcdI (absI c) (IntKind.u64.wrap b)))), true), (!decide (gcdI (absI c) (IntKind.u64.wrap b) = 0), true), (!decide (gcdI (absI a) (IntKind.u64.wrap d) = 0), true), (inU (IntKind.u64.wrap ((IntKind.u64.wrap b).tdiv (gcdI (absI c) (IntKind.u64.wrap b)))) &&
  inU (IntKind.u64.wrap ((IntKind.u64.wrap d).tdiv (gcdI (absI a) (IntKind.u64.wrap d)))), true), (decide (a < 0), true), (decide (c < 0), true), (inU
    (IntKind.u64.wrap ((absI a).tdiv (gcdI (absI a) (IntKind.u64.wrap d))) *
        IntKind.u64.wrap ((absI c).tdiv (gcdI (absI c) (IntKind.u64.wrap b))) %
      18446744073709551616) &&
  inU
    (IntKind.u64.wrap ((IntKind.u64.wrap b).tdiv (gcdI (absI c) (IntKind.u64.wrap b))) *
        IntKind.u64.wrap ((IntKind.u64.wrap d).tdiv (gcdI (absI a) (IntKind.u64.wrap d))) %
      18446744073709551616), true), (fitB
  (IntKind.u64.wrap ((absI a).tdiv (gcdI (absI a) (IntKind.u64.wrap d))) *
      IntKind.u64.wrap ((absI c).tdiv (gcdI (absI c) (IntKind.u64.wrap b))) /
    18446744073709551616)
  (IntKind.u64.wrap ((absI a).tdiv (gcdI (absI a) (IntKind.u64.wrap d))) *
      IntKind.u64.wrap ((absI c).tdiv (gcdI (absI c) (IntKind.u64.wrap b))) %
    18446744073709551616), true), (fitB
  (IntKind.u64.wrap ((IntKind.u64.wrap b).tdiv (gcdI (absI c) (IntKind.u64.wrap b))) *
      IntKind.u64.wrap ((IntKind.u64.wrap d).tdiv (gcdI (absI a) (IntKind.u64.wrap d))) /
    18446744073709551616)
  (IntKind.u64.wrap ((IntKind.u64.wrap b).tdiv (gcdI (absI c) (IntKind.u64.wrap b))) *
      IntKind.u64.wrap ((IntKind.u64.wrap d).tdiv (gcdI (absI a) (IntKind.u64.wrap d))) %
    18446744073709551616), false)]
theorem w48_1_ok (a b c d : Int) (h : allB (w48_1 a b c d) = true) : (evFnT Tryd.prog (spOf [e36, e37, e38, e53]) (inlOf []) extD (cKD [e36, e37, e38, e53] []) (fun _ => .unroll 0) Tryd.f48 [.agg [.int .i64 a, .int .i64 b], .agg [.int .i64 c, .int .i64 d]] [] (fun r _ => .ofOpt (some r))).run = some (Res.pan : Res) := way (gs := [true, true, true, true, true, true, true, true, true, true, false, true, true, false]) (by kernel_rfl) h
def w48_2 (a b c d : Int) : List (Bool × Bool) := [(decide (-9223372036854775808 ≤ a) && decide (a < 9223372036854775808), true), (decide (0 ≤ absI a) && decide (0 ≤ IntKind.u64.wrap d), true), (decide (-9223372036854775808 ≤ c) && decide (c < 9223372036854775808), true), (decide (0 ≤ absI c) && decide (0 ≤ IntKind.u64.wrap b), true), (decide (-9223372036854775808 ≤ a) && decide (a < 9223372036854775808), true), (!decide (gcdI (absI a) (IntKind.u64.wrap d) = 0), true), (decide (-9223372036854775808 ≤ c) && decide (c < 9223372036854775808), true), (!decide (gcdI (absI c) (IntKind.u64.wrap b) = 0), true), (inU (IntKind.u64.wrap ((absI a).tdiv (gcdI (absI a) (IntKind.u64.wrap d)))) &&
  inU (IntKind.u64.wrap ((absI c).tdiv (gcdI (absI c) (IntKind.u64.wrap b)))), true), (!decide (gcdI (absI c) (IntKind.u64.wrap b) = 0), true), (!decide (gcdI (absI a) (IntKind.u64.wrap d) = 0), true), (inU (IntKind.u64.wrap ((IntKind.u64.wrap b).tdiv (gcdI (absI c) (IntKind.u64.wrap b)))) &&
  inU (IntKind.u64.wrap ((IntKind.u64.wrap d).tdiv (gcdI (absI a) (IntKind.u64.wrap d)))), true), (decide (a < 0), true), (decide (c < 0), true), (inU
    (IntKind.u64.wrap ((absI a).tdiv (gcdI (absI a) (IntKind.u64.wrap d))) *
        IntKind.u64.wrap ((absI c).tdiv (gcdI (absI c) (IntKind.u64.wrap b))) %
      18446744073709551616) &&
  inU
    (IntKind.u64.wrap ((IntKind.u64.wrap b).tdiv (gcdI (absI c) (IntKind.u64.wrap b))) *
        IntKind.u64.wrap ((IntKind.u64.wrap d).tdiv (gcdI (absI a) (IntKind.u64.wrap d))) %
      18446744073709551616), true), (fitB
  (IntKind.u64.wrap ((absI a).tdiv (gcdI (absI a) (IntKind.u64.wrap d))) *
      IntKind.u64.wrap ((absI c).tdiv (gcdI (absI c) (IntKind.u64.wrap b))) /
    18446744073709551616)
  (IntKind.u64.wrap ((absI a).tdiv (gcdI (absI a) (IntKind.u64.wrap d))) *
      IntKind.u64.wrap ((absI c).tdiv (gcdI (absI c) (IntKind.u64.wrap b))) %
    18446744073709551616), false)]
theorem w48_2_ok (a b c d : Int) (h : allB (w48_2 a b c d) = true) : (evFnT Tryd.prog (spOf [e36, e37, e38, e53]) (inlOf []) extD (cKD [e36, e37, e38, e53] []) (fun _ => .unroll 0) Tryd.f48 [.agg [.int .i64 a, .int .i64 b], .agg [.int .i64 c, .int .i64 d]] [] (fun r _ => .ofOpt (some r))).run = some (Res.pan : Res) := way (gs := [true, true, true, true, true, true, true, true, true, true, false, true, false]) (by kernel_rfl) h
def w48_3 (a b c d : Int) : List (Bool × Bool) := [(decide (-9223372036854775808 ≤ a) && decide (a < 9223372036854775808), true), (decide (0 ≤ absI a) && decide (0 ≤ IntKind.u64.wrap d), true), (decide (-9223372036854775808 ≤ c) && decide (c < 9223372036854775808), true), (decide (0 ≤ absI c) && decide (0 ≤ IntKind.u64.wrap b), true), (decide (-9223372036854775808 ≤ a) && decide (a < 9223372036854775808), true), (!decide (gcdI (absI a) (IntKind.u64.wrap d) = 0), true), (decide (-9223372036854775808 ≤ c) && decide (c < 9223372036854775808), true), (!decide (gcdI (absI c) (IntKind.u64.wrap b) = 0), true), (inU (IntKind.u64.wrap ((absI a).tdiv (gcdI (absI a) (IntKind.u64.wrap d)))) &&
  inU (IntKind.u64.wrap ((absI c).tdiv (gcdI (absI c) (IntKind.u64.wrap b)))), true), (!decide (gcdI (absI c) (IntKind.u64.wrap b) = 0), true), (!decide (gcdI (absI a) (IntKind.u64.wrap d) = 0), true), (inU (IntKind.u64.wrap ((IntKind.u64.wrap b).tdiv (gcdI (absI c) (IntKind.u64.wrap b)))) &&
  inU (IntKind.u64.wrap ((IntKind.u64.wrap d).tdiv (gcdI (absI a) (IntKind.u64.wrap d)))), true), (decide (a < 0), true), (decide (c < 0), false), (inU
    (IntKind.u64.wrap ((absI a).tdiv (gcdI (absI a) (IntKind.u64.wrap d))) *
        IntKind.u64.wrap ((absI c).tdiv (gcdI (absI c) (IntKind.u64.wrap b))) %
      18446744073709551616) &&
  inU
    (IntKind.u64.wrap ((IntKind.u64.wrap b).tdiv (gcdI (absI c) (IntKind.u64.wrap b))) *
        IntKind.u64.wrap ((IntKind.u64.wrap d).tdiv (gcdI (absI a) (IntKind.u64.wrap d))) %
      18446744073709551616), true), (fitB
  (IntKind.u64.wrap ((absI a).tdiv (gcdI (absI a) (IntKind.u64.wrap d))) *
      IntKind.u64.wrap ((absI c).tdiv (gcdI (absI c) (IntKind.u64.wrap b))) /
    18446744073709551616)
  (IntKind.u64.wrap ((absI a).tdiv (gcdI (absI a) (IntKind.u64.wrap d))) *
      IntKind.u64.wrap ((absI c).tdiv (gcdI (absI c) (IntKind.u64.wrap b))) %
    18446744073709551616), true), (fitB
  (IntKind.u64.wrap ((IntKind.u64.wrap b).tdiv (gcdI (absI c) (IntKind.u64.wrap b))) *
      IntKind.u64.wrap ((IntKind.u64.wrap d).tdiv (gcdI (absI a) (IntKind.u64.wrap d))) /
    18446744073709551616)
  (IntKind.u64.wrap ((IntKind.u64.wrap b).tdiv (gcdI (absI c) (IntKind.u64.wrap b))) *
      IntKind.u64.wrap ((IntKind.u64.wrap d).tdiv (gcdI (absI a) (IntKind.u64.wrap d))) %
    18446744073709551616), true)]
theorem w48_3_ok (a b c d : Int) (h : allB (w48_3 a b c d) = true) : (evFnT Tryd.prog (spOf [e36, e37, e38, e53]) (inlOf []) extD (cKD [e36, e37, e38, e53] []) (fun _ => .unroll 0) Tryd.f48 [.agg [.int .i64 a, .int .i64 b], .agg [.int .i64 c, .int .i64 d]] [] (fun r _ => .ofOpt (some r))).run = some (Res.ret
  (AV.agg
    [AV.int IntKind.i64
        (bif true then
          -(IntKind.u64.wrap ((absI a).tdiv (gcdI (absI a) (IntKind.u64.wrap d))) *
                IntKind.u64.wrap ((absI c).tdiv (gcdI (absI c) (IntKind.u64.wrap b))) %
              18446744073709551616)
        else
          IntKind.u64.wrap ((absI a).tdiv (gcdI (absI a) (IntKind.u64.wrap d))) *
              IntKind.u64.wrap ((absI c).tdiv (gcdI (absI c) (IntKind.u64.wrap b))) %
            18446744073709551616),
      AV.int IntKind.i64
        (IntKind.u64.wrap ((IntKind.u64.wrap b).tdiv (gcdI (absI c) (IntKind.u64.wrap b))) *
            IntKind.u64.wrap ((IntKind.u64.wrap d).tdiv (gcdI (absI a) (IntKind.u64.wrap d))) %
          18446744073709551616)]) : Res) := way (gs := [true, true, true, true, true, true, true, true, true, false, true, true, true, true]) (by kernel_rfl) h
def w48_4 (a b c d : Int) : List (Bool × Bool) := [(decide (-9223372036854775808 ≤ a) && decide (a < 9223372036854775808), true), (decide (0 ≤ absI a) && decide (0 ≤ IntKind.u64.wrap d), true), (decide (-9223372036854775808 ≤ c) && decide (c < 9223372036854775808), true), (decide (0 ≤ absI c) && decide (0 ≤ IntKind.u64.wrap b), true), (decide (-9223372036854775808 ≤ a) && decide (a < 9223372036854775808), true), (!decide (gcdI (absI a) (IntKind.u64.wrap d) = 0), true), (decide (-9223372036854775808 ≤ c) && decide (c < 9223372036854775808), true), (!decide (gcdI (absI c) (IntKind.u64.wrap b) = 0), true), (inU (IntKind.u64.wrap ((absI a).tdiv (gcdI (absI a) (IntKind.u64.wrap d)))) &&
  inU (IntKind.u64.wrap ((absI c).tdiv (gcdI (absI c) (IntKind.u64.wrap b)))), true), (!decide (gcdI (absI c) (IntKind.u64.wrap b) = 0), true), (!decide (gcdI (absI a) (IntKind.u64.wrap d) = 0), true), (inU (IntKind.u64.wrap ((IntKind.u64.wrap b).tdiv (gcdI (absI c) (IntKind.u64.wrap b)))) &&
  inU (IntKind.u64.wrap ((IntKind.u64.wrap d).tdiv (gcdI (absI a) (IntKind.u64.wrap d)))), true), (decide (a < 0), true), (decide (c < 0), false), (inU
    (IntKind.u64.wrap ((absI a).tdiv (gcdI (absI a) (IntKind.u64.wrap d))) *
        IntKind.u64.wrap ((absI c).tdiv (gcdI (absI c) (IntKind.u64.wrap b))) %
      18446744073709551616) &&
  inU
    (IntKind.u64.wrap ((IntKind.u64.wrap b).tdiv (gcdI (absI c) (IntKind.u64.wrap b))) *
        IntKind.u64.wrap ((IntKind.u64.wrap d).tdiv (gcdI (absI a) (IntKind.u64.wrap d))) %
      18446744073709551616), true), (fitB
  (IntKind.u64.wrap ((absI a).tdiv (gcdI (absI a) (IntKind.u64.wrap d))) *
      IntKind.u64.wrap ((absI c).tdiv (gcdI (absI c) (IntKind.u64.wrap b))) /
    18446744073709551616)
  (IntKind.u64.wrap ((absI a).tdiv (gcdI (absI a) (IntKind.u64.wrap d))) *
      IntKind.u64.wrap ((absI c).tdiv (gcdI (absI c) (IntKind.u64.wrap b))) %
    18446744073709551616), true), (fitB
  (IntKind.u64.wrap ((IntKind.u64.wrap b).tdiv (gcdI (absI c) (IntKind.u64.wrap b))) *
      IntKind.u64.wrap ((IntKind.u64.wrap d).tdiv (gcdI (absI a) (IntKind.u64.wrap d))) /
    18446744073709551616)
  (IntKind.u64.wrap ((IntKind.u64.wrap b).tdiv (gcdI (absI c) (IntKind.u64.wrap b))) *
      IntKind.u64.wrap ((IntKind.u64.wrap d).tdiv (gcdI (absI a) (IntKind.u64.wrap d))) %
    18446744073709551616), false)]
theorem w48_4_ok (a b c d : Int) (h : allB (w48_4 a b c d) = true) : (evFnT Tryd.prog (spOf [e36, e37, e38, e53]) (inlOf []) extD (cKD [e36, e37, e38, e53] []) (fun _ => .unroll 0) Tryd.f48 [.agg [.int .i64 a, .int .i64 b], .agg [.int .i64 c, .int .i64 d]] [] (fun r _ => .ofOpt (some r))).run = some (Res.pan : Res) := way (gs := [true, true, true, true, true, true, true, true, true, false, true, true, true, false]) (by kernel_rfl) h
def w48_5 (a b c d : Int) : List (Bool × Bool) := [(decide (-9223372036854775808 ≤ a) && decide (a < 9223372036854775808), true), (decide (0 ≤ absI a) && decide (0 ≤ IntKind.u64.wrap d), true), (decide (-9223372036854775808 ≤ c) && decide (c < 9223372036854775808), true), (decide (0 ≤ absI c) && decide (0 ≤ IntKind.u64.wrap b), true), (decide (-9223372036854775808 ≤ a) && decide (a < 9223372036854775808), true), (!decide (gcdI (absI a) (IntKind.u64.wrap d) = 0), true), (decide (-9223372036854775808 ≤ c) && decide (c < 9223372036854775808), true), (!decide (gcdI (absI c) (IntKind.u64.wrap b) = 0), true), (inU (IntKind.u64.wrap ((absI a).tdiv (gcdI (absI a) (IntKind.u64.wrap d)))) &&
  inU (IntKind.u64.wrap ((absI c).tdiv (gcdI (absI c) (IntKind.u64.wrap b)))), true), (!decide (gcdI (absI c) (IntKind.u64.wrap b) = 0), true), (!decide (gcdI (absI a) (IntKind.u64.wrap d) = 0), true), (inU (IntKind.u64.wrap ((IntKind.u64.wrap b).tdiv (gcdI (absI c) (IntKind.u64.wrap b)))) &&
  inU (IntKind.u64.wrap ((IntKind.u64.wrap d).tdiv (gcdI (absI a) (IntKind.u64.wrap d)))), true), (decide (a < 0), true), (decide (c < 0), false), (inU
    (IntKind.u64.wrap ((absI a).tdiv (gcdI (absI a) (IntKind.u64.wrap d))) *
        IntKind.u64.wrap ((absI c).tdiv (gcdI (absI c) (IntKind.u64.wrap b))) %
      18446744073709551616) &&
  inU
    (IntKind.u64.wrap ((IntKind.u64.wrap b).tdiv (gcdI (absI c) (IntKind.u64.wrap b))) *
        IntKind.u64.wrap ((IntKind.u64.wrap d).tdiv (gcdI (absI a) (IntKind.u64.wrap d))) %
      18446744073709551616), true), (fitB
  (IntKind.u64.wrap ((absI a).tdiv (gcdI (absI a) (IntKind.u64.wrap d))) *
      IntKind.u64.wrap ((absI c).tdiv (gcdI (absI c) (IntKind.u64.wrap b))) /
    18446744073709551616)
  (IntKind.u64.wrap ((absI a).tdiv (gcdI (absI a) (IntKind.u64.wrap d))) *
      IntKind.u64.wrap ((absI c).tdiv (gcdI (absI c) (IntKind.u64.wrap b))) %
    18446744073709551616), false)]
theorem w48_5_ok (a b c d : Int) (h : allB (w48_5 a b c d) = true) : (evFnT Tryd.prog (spOf [e36, e37, e38, e53]) (inlOf []) extD (cKD [e36, e37, e38, e53] []) (fun _ => .unroll 0) Tryd.f48 [.agg [.int .i64 a, .int .i64 b], .agg [.int .i64 c, .int .i64 d]] [] (fun r _ => .ofOpt (some r))).run = some (Res.pan : Res) := way (gs := [true, true, true, true, true, true, true, true, true, false, true, true, false]) (by kernel_rfl) h
def w48_6 (a b c d : Int) : List (Bool × Bool) := [(decide (-9223372036854775808 ≤ a) && decide (a < 9223372036854775808), true), (decide (0 ≤ absI a) && decide (0 ≤ IntKind.u64.wrap d), true), (decide (-9223372036854775808 ≤ c) && decide (c < 9223372036854775808), true), (decide (0 ≤ absI c) && decide (0 ≤ IntKind.u64.wrap b), true), (decide (-9223372036854775808 ≤ a) && decide (a < 9223372036854775808), true), (!decide (gcdI (absI a) (IntKind.u64.wrap d) = 0), true), (decide (-9223372036854775808 ≤ c) && decide (c < 9223372036854775808), true), (!decide (gcdI (absI c) (IntKind.u64.wrap b) = 0), true), (inU (IntKind.u64.wrap ((absI a).tdiv (gcdI (absI a) (IntKind.u64.wrap d)))) &&
  inU (IntKind.u64.wrap ((absI c).tdiv (gcdI (absI c) (IntKind.u64.wrap b)))), true), (!decide (gcdI (absI c) (IntKind.u64.wrap b) = 0), true), (!decide (gcdI (absI a) (IntKind.u64.wrap d) = 0), true), (inU (IntKind.u64.wrap ((IntKind.u64.wrap b).tdiv (gcdI (absI c) (IntKind.u64.wrap b)))) &&
  inU (IntKind.u64.wrap ((IntKind.u64.wrap d).tdiv (gcdI (absI a) (IntKind.u64.wrap d)))), true), (decide (a < 0), false), (decide (c < 0), true), (inU
    (IntKind.u64.wrap ((absI a).tdiv (gcdI (absI a) (IntKind.u64.wrap d))) *
        IntKind.u64.wrap ((absI c).tdiv (gcdI (absI c) (IntKind.u64.wrap b))) %
      18446744073709551616) &&
  inU
    (IntKind.u64.wrap ((IntKind.u64.wrap b).tdiv (gcdI (absI c) (IntKind.u64.wrap b))) *
        IntKind.u64.wrap ((IntKind.u64.wrap d).tdiv (gcdI (absI a) (IntKind.u64.wrap d))) %
      18446744073709551616), true), (fitB
  (IntKind.u64.wrap ((absI a).tdiv (gcdI (absI a) (IntKind.u64.wrap d))) *
      IntKind.u64.wrap ((absI c).tdiv (gcdI (absI c) (IntKind.u64.wrap b))) /
    18446744073709551616)
  (IntKind.u64.wrap ((absI a).tdiv (gcdI (absI a) (IntKind.u64.wrap d))) *
      IntKind.u64.wrap ((absI c).tdiv (gcdI (absI c) (IntKind.u64.wrap b))) %
    18446744073709551616), true), (fitB
  (IntKind.u64.wrap ((IntKind.u64.wrap b).tdiv (gcdI (absI c) (IntKind.u64.wrap b))) *
      IntKind.u64.wrap ((IntKind.u64.wrap d).tdiv (gcdI (absI a) (IntKind.u64.wrap d))) /
    18446744073709551616)
  (IntKind.u64.wrap ((IntKind.u64.wrap b).tdiv (gcdI (absI c) (IntKind.u64.wrap b))) *
      IntKind.u64.wrap ((IntKind.u64.wrap d).tdiv (gcdI (absI a) (IntKind.u64.wrap d))) %
    18446744073709551616), true)]
theorem w48_6_ok (a b c d : Int) (h : allB (w48_6 a b c d) = true) : (evFnT Tryd.prog (spOf [e36, e37, e38, e53]) (inlOf []) extD (cKD [e36, e37, e38, e53] []) (fun _ => .unroll 0) Tryd.f48 [.agg [.int .i64 a, .int .i64 b], .agg [.int .i64 c, .int .i64 d]] [] (fun r _ => .ofOpt (some r))).run = some (Res.ret
  (AV.agg
    [AV.int IntKind.i64
        (bif true then
          -(IntKind.u64.wrap ((absI a).tdiv (gcdI (absI a) (IntKind.u64.wrap d))) *
                IntKind.u64.wrap ((absI c).tdiv (gcdI (absI c) (IntKind.u64.wrap b))) %
              18446744073709551616)
        else
          IntKind.u64.wrap ((absI a).tdiv (gcdI (absI a) (IntKind.u64.wrap d))) *
              IntKind.u64.wrap ((absI c).tdiv (gcdI (absI c) (IntKind.u64.wrap b))) %
            18446744073709551616),
      AV.int IntKind.i64
        (IntKind.u64.wrap ((IntKind.u64.wrap b).tdiv (gcdI (absI c) (IntKind.u64.wrap b))) *
            IntKind.u64.wrap ((IntKind.u64.wrap d).tdiv (gcdI (absI a) (IntKind.u64.wrap d))) %
          18446744073709551616)]) : Res) := way (gs := [true, true, true, true, true, true, true, true, false, true, true, true, true, true]) (by kernel_rfl) h
def w48_7 (a b c d : Int) : List (Bool × Bool) := [(decide (-9223372036854775808 ≤ a) && decide (a < 9223372036854775808), true), (decide (0 ≤ absI a) && decide (0 ≤ IntKind.u64.wrap d), true), (decide (-9223372036854775808 ≤ c) && decide (c < 9223372036854775808), true), (decide (0 ≤ absI c) && decide (0 ≤ IntKind.u64.wrap b), true), (decide (-9223372036854775808 ≤ a) && decide (a < 9223372036854775808), true), (!decide (gcdI (absI a) (IntKind.u64.wrap d) = 0), true), (decide (-9223372036854775808 ≤ c) && decide (c < 9223372036854775808), true), (!decide (gcdI (absI c) (IntKind.u64.wrap b) = 0), true), (inU (IntKind.u64.wrap ((absI a).tdiv (gcdI (absI a) (IntKind.u64.wrap d)))) &&
  inU (IntKind.u64.wrap ((absI c).tdiv (gcdI (absI c) (IntKind.u64.wrap b)))), true), (!decide (gcdI (absI c) (IntKind.u64.wrap b) = 0), true), (!decide (gcdI (absI a) (IntKind.u64.wrap d) = 0), true), (inU (IntKind.u64.wrap ((IntKind.u64.wrap b).tdiv (gcdI (absI c) (IntKind.u64.wrap b)))) &&
  inU (IntKind.u64.wrap ((IntKind.u64.wrap d).tdiv (gcdI (absI a) (IntKind.u64.wrap d)))), true), (decide (a < 0), false), (decide (c < 0), true), (inU
    (IntKind.u64.wrap ((absI a).tdiv (gcdI (absI a) (IntKind.u64.wrap d))) *
        IntKind.u64.wrap ((absI c).tdiv (gcdI (absI c) (IntKind.u64.wrap b))) %
      18446744073709551616) &&
  inU
    (IntKind.u64.wrap ((IntKind.u64.wrap b).tdiv (gcdI (absI c) (IntKind.u64.wrap b))) *
        IntKind.u64.wrap ((IntKind.u64.wrap d).tdiv (gcdI (absI a) (IntKind.u64.wrap d))) %
      18446744073709551616), true), (fitB
  (IntKind.u64.wrap ((absI a).tdiv (gcdI (absI a) (IntKind.u64.wrap d))) *
      IntKind.u64.wrap ((absI c).tdiv (gcdI (absI c) (IntKind.u64.wrap b))) /
    18446744073709551616)
  (IntKind.u64.wrap ((absI a).tdiv (gcdI (absI a) (IntKind.u64.wrap d))) *
      IntKind.u64.wrap ((absI c).tdiv (gcdI (absI c) (IntKind.u64.wrap b))) %
    18446744073709551616), true), (fitB
  (IntKind.u64.wrap ((IntKind.u64.wrap b).tdiv (gcdI (absI c) (IntKind.u64.wrap b))) *
      IntKind.u64.wrap ((IntKind.u64.wrap d).tdiv (gcdI (absI a) (IntKind.u64.wrap d))) /
    18446744073709551616)
  (IntKind.u64.wrap ((IntKind.u64.wrap b).tdiv (gcdI (absI c) (IntKind.u64.wrap b))) *
      IntKind.u64.wrap ((IntKind.u64.wrap d).tdiv (gcdI (absI a) (IntKind.u64.wrap d))) %
    18446744073709551616), false)]
theorem w48_7_ok (a b c d : Int) (h : allB (w48_7 a b c d) = true) : (evFnT Tryd.prog (spOf [e36, e37, e38, e53]) (inlOf []) extD (cKD [e36, e37, e38, e53] []) (fun _ => .unroll 0) Tryd.f48 [.agg [.int .i64 a, .int .i64 b], .agg [.int .i64 c, .int .i64 d]] [] (fun r _ => .ofOpt (some r))).run = some (Res.pan : Res) := way (gs := [true, true, true, true, true, true, true, true, false, true, true, true, true, false]) (by kernel_rfl) h
def w48_8 (a b c d : Int) : List (Bool × Bool) := [(decide (-9223372036854775808 ≤ a) && decide (a < 9223372036854775808), true), (decide (0 ≤ absI a) && decide (0 ≤ IntKind.u64.wrap d), true), (decide (-9223372036854775808 ≤ c) && decide (c < 9223372036854775808), true), (decide (0 ≤ absI c) && decide (0 ≤ IntKind.u64.wrap b), true), (decide (-9223372036854775808 ≤ a) && decide (a < 9223372036854775808), true), (!decide (gcdI (absI a) (IntKind.u64.wrap d) = 0), true), (decide (-9223372036854775808 ≤ c) && decide (c < 9223372036854775808), true), (!decide (gcdI (absI c) (IntKind.u64.wrap b) = 0), true), (inU (IntKind.u64.wrap ((absI a).tdiv (gcdI (absI a) (IntKind.u64.wrap d)))) &&
  inU (IntKind.u64.wrap ((absI c).tdiv (gcdI (absI c) (IntKind.u64.wrap b)))), true), (!decide (gcdI (absI c) (IntKind.u64.wrap b) = 0), true), (!decide (gcdI (absI a) (IntKind.u64.wrap d) = 0), true), (inU (IntKind.u64.wrap ((IntKind.u64.wrap b).tdiv (gcdI (absI c) (IntKind.u64.wrap b)))) &&
  inU (IntKind.u64.wrap ((IntKind.u64.wrap d).tdiv (gcdI (absI a) (IntKind.u64.wrap d)))), true), (decide (a < 0), false), (decide (c < 0), true), (inU
    (IntKind.u64.wrap ((absI a).tdiv (gcdI (absI a) (IntKind.u64.wrap d))) *
        IntKind.u64.wrap ((absI c).tdiv (gcdI (absI c) (IntKind.u64.wrap b))) %
      18446744073709551616) &&
  inU
    (IntKind.u64.wrap ((IntKind.u64.wrap b).tdiv (gcdI (absI c) (IntKind.u64.wrap b))) *
        IntKind.u64.wrap ((IntKind.u64.wrap d).tdiv (gcdI (absI a) (IntKind.u64.wrap d))) %
      18446744073709551616), true), (fitB
  (IntKind.u64.wrap ((absI a).tdiv (gcdI (absI a) (IntKind.u64.wrap d))) *
      IntKind.u64.wrap ((absI c).tdiv (gcdI (absI c) (IntKind.u64.wrap b))) /
    18446744073709551616)
  (IntKind.u64.wrap ((absI a).tdiv (gcdI (absI a) (IntKind.u64.wrap d))) *
      IntKind.u64.wrap ((absI c).tdiv (gcdI (absI c) (IntKind.u64.wrap b))) %
    18446744073709551616), false)]
theorem w48_8_ok (a b c d : Int) (h : allB (w48_8 a b c d) = true) : (evFnT Tryd.prog (spOf [e36, e37, e38, e53]) (inlOf []) extD (cKD [e36, e37, e38, e53] []) (fun _ => .unroll 0) Tryd.f48 [.agg [.int .i64 a, .int .i64 b], .agg [.int .i64 c, .int .i64 d]] [] (fun r _ => .ofOpt (some r))).run = some (Res.pan : Res) := way (gs := [true, true, true, true, true, true, true, true, false, true, true, true, false]) (by kernel_rfl) h
def w48_9 (a b c d : Int) : List (Bool × Bool) := [(decide (-9223372036854775808 ≤ a) && decide (a < 9223372036854775808), true), (decide (0 ≤ absI a) && decide (0 ≤ IntKind.u64.wrap d), true), (decide (-9223372036854775808 ≤ c) && decide (c < 9223372036854775808), true), (decide (0 ≤ absI c) && decide (0 ≤ IntKind.u64.wrap b), true), (decide (-9223372036854775808 ≤ a) && decide (a < 9223372036854775808), true), (!decide (gcdI (absI a) (IntKind.u64.wrap d) = 0), true), (decide (-9223372036854775808 ≤ c) && decide (c < 9223372036854775808), true), (!decide (gcdI (absI c) (IntKind.u64.wrap b) = 0), true), (inU (IntKind.u64.wrap ((absI a).tdiv (gcdI (absI a) (IntKind.u64.wrap d)))) &&
  inU (IntKind.u64.wrap ((absI c).tdiv (gcdI (absI c) (IntKind.u64.wrap b)))), true), (!decide (gcdI (absI c) (IntKind.u64.wrap b) = 0), true), (!decide (gcdI (absI a) (IntKind.u64.wrap d) = 0), true), (inU (IntKind.u64.wrap ((IntKind.u64.wrap b).tdiv (gcdI (absI c) (IntKind.u64.wrap b)))) &&
  inU (IntKind.u64.wrap ((IntKind.u64.wrap d).tdiv (gcdI (absI a) (IntKind.u64.wrap d)))), true), (decide (a < 0), false), (decide (c < 0), false), (inU
    (IntKind.u64.wrap ((absI a).tdiv (gcdI (absI a) (IntKind.u64.wrap d))) *
        IntKind.u64.wrap ((absI c).tdiv (gcdI (absI c) (IntKind.u64.wrap b))) %
      18446744073709551616) &&
  inU
    (IntKind.u64.wrap ((IntKind.u64.wrap b).tdiv (gcdI (absI c) (IntKind.u64.wrap b))) *
        IntKind.u64.wrap ((IntKind.u64.wrap d).tdiv (gcdI (absI a) (IntKind.u64.wrap d))) %
      18446744073709551616), true), (fitB
  (IntKind.u64.wrap ((absI a).tdiv (gcdI (absI a) (IntKind.u64.wrap d))) *
      IntKind.u64.wrap ((absI c).tdiv (gcdI (absI c) (IntKind.u64.wrap b))) /
    18446744073709551616)
  (IntKind.u64.wrap ((absI a).tdiv (gcdI (absI a) (IntKind.u64.wrap d))) *
      IntKind.u64.wrap ((absI c).tdiv (gcdI (absI c) (IntKind.u64.wrap b))) %
    18446744073709551616), true), (fitB
  (IntKind.u64.wrap ((IntKind.u64.wrap b).tdiv (gcdI (absI c) (IntKind.u64.wrap b))) *
      IntKind.u64.wrap ((IntKind.u64.wrap d).tdiv (gcdI (absI a) (IntKind.u64.wrap d))) /
    18446744073709551616)
  (IntKind.u64.wrap ((IntKind.u64.wrap b).tdiv (gcdI (absI c) (IntKind.u64.wrap b))) *
      IntKind.u64.wrap ((IntKind.u64.wrap d).tdiv (gcdI (absI a) (IntKind.u64.wrap d))) %
    18446744073709551616), true)]
theorem w48_9_ok (a b c d : Int) (h : allB (w48_9 a b c d) = true) : (evFnT Tryd.prog (spOf [e36, e37, e38, e53]) (inlOf []) extD (cKD [e36, e37, e38, e53] []) (fun _ => .unroll 0) Tryd.f48 [.agg [.int .i64 a, .int .i64 b], .agg [.int .i64 c, .int .i64 d]] [] (fun r _ => .ofOpt (some r))).run = some (Res.ret
  (AV.agg
    [AV.int IntKind.i64
        (bif false then
          -(IntKind.u64.wrap ((absI a).tdiv (gcdI (absI a) (IntKind.u64.wrap d))) *
                IntKind.u64.wrap ((absI c).tdiv (gcdI (absI c) (IntKind.u64.wrap b))) %
              18446744073709551616)
        else
          IntKind.u64.wrap ((absI a).tdiv (gcdI (absI a) (IntKind.u64.wrap d))) *
              IntKind.u64.wrap ((absI c).tdiv (gcdI (absI c) (IntKind.u64.wrap b))) %
            18446744073709551616),
      AV.int IntKind.i64
        (IntKind.u64.wrap ((IntKind.u64.wrap b).tdiv (gcdI (absI c) (IntKind.u64.wrap b))) *
            IntKind.u64.wrap ((IntKind.u64.wrap d).tdiv (gcdI (absI a) (IntKind.u64.wrap d))) %
          18446744073709551616)]) : Res) := way (gs := [true, true, true, true, true, true, true, true, false, false, false, true, true, true]) (by kernel_rfl) h
def w48_10 (a b c d : Int) : List (Bool × Bool) := [(decide (-9223372036854775808 ≤ a) && decide (a < 9223372036854775808), true), (decide (0 ≤ absI a) && decide (0 ≤ IntKind.u64.wrap d), true), (decide (-9223372036854775808 ≤ c) && decide (c < 9223372036854775808), true), (decide (0 ≤ absI c) && decide (0 ≤ IntKind.u64.wrap b), true), (decide (-9223372036854775808 ≤ a) && decide (a < 9223372036854775808), true), (!decide (gcdI (absI a) (IntKind.u64.wrap d) = 0), true), (decide (-9223372036854775808 ≤ c) && decide (c < 9223372036854775808), true), (!decide (gcdI (absI c) (IntKind.u64.wrap b) = 0), true), (inU (IntKind.u64.wrap ((absI a).tdiv (gcdI (absI a) (IntKind.u64.wrap d)))) &&
  inU (IntKind.u64.wrap ((absI c).tdiv (gcdI (absI c) (IntKind.u64.wrap b)))), true), (!decide (gcdI (absI c) (IntKind.u64.wrap b) = 0), true), (!decide (gcdI (absI a) (IntKind.u64.wrap d) = 0), true), (inU (IntKind.u64.wrap ((IntKind.u64.wrap b).tdiv (gcdI (absI c) (IntKind.u64.wrap b)))) &&
  inU (IntKind.u64.wrap ((IntKind.u64.wrap d).tdiv (gcdI (absI a) (IntKind.u64.wrap d)))), true), (decide (a < 0), false), (decide (c < 0), false), (inU
    (IntKind.u64.wrap ((absI a).tdiv (gcdI (absI a) (IntKind.u64.wrap d))) *
        IntKind.u64.wrap ((absI c).tdiv (gcdI (absI c) (IntKind.u64.wrap b))) %
      18446744073709551616) &&
  inU
    (IntKind.u64.wrap ((IntKind.u64.wrap b).tdiv (gcdI (absI c) (IntKind.u64.wrap b))) *
        IntKind.u64.wrap ((IntKind.u64.wrap d).tdiv (gcdI (absI a) (IntKind.u64.wrap d))) %
      18446744073709551616), true), (fitB
  (IntKind.u64.wrap ((absI a).tdiv (gcdI (absI a) (IntKind.u64.wrap d))) *
      IntKind.u64.wrap ((absI c).tdiv (gcdI (absI c) (IntKind.u64.wrap b))) /
    18446744073709551616)
  (IntKind.u64.wrap ((absI a).tdiv (gcdI (absI a) (IntKind.u64.wrap d))) *
      IntKind.u64.wrap ((absI c).tdiv (gcdI (absI c) (IntKind.u64.wrap b))) %
    18446744073709551616), true), (fitB
  (IntKind.u64.wrap ((IntKind.u64.wrap b).tdiv (gcdI (absI c) (IntKind.u64.wrap b))) *
      IntKind.u64.wrap ((IntKind.u64.wrap d).tdiv (gcdI (absI a) (IntKind.u64.wrap d))) /
    18446744073709551616)
  (IntKind.u64.wrap ((IntKind.u64.wrap b).tdiv (gcdI (absI c) (IntKind.u64.wrap b))) *
      IntKind.u64.wrap ((IntKind.u64.wrap d).tdiv (gcdI (absI a) (IntKind.u64.wrap d))) %
    18446744073709551616), false)]
theorem w48_10_ok (a b c d : Int) (h : allB (w48_10 a b c d) = true) : (evFnT Tryd.prog (spOf [e36, e37, e38, e53]) (inlOf []) extD (cKD [e36, e37, e38, e53] []) (fun _ => .unroll 0) Tryd.f48 [.agg [.int .i64 a, .int .i64 b], .agg [.int .i64 c, .int .i64 d]] [] (fun r _ => .ofOpt (some r))).run = some (Res.pan : Res) := way (gs := [true, true, true, true, true, true, true, true, false, false, false, true, true, false]) (by kernel_rfl) h
def w48_11 (a b c d : Int) : List (Bool × Bool) := [(decide (-9223372036854775808 ≤ a) && decide (a < 9223372036854775808), true), (decide (0 ≤ absI a) && decide (0 ≤ IntKind.u64.wrap d), true), (decide (-9223372036854775808 ≤ c) && decide (c < 9223372036854775808), true), (decide (0 ≤ absI c) && decide (0 ≤ IntKind.u64.wrap b), true), (decide (-9223372036854775808 ≤ a) && decide (a < 9223372036854775808), true), (!decide (gcdI (absI a) (IntKind.u64.wrap d) = 0), true), (decide (-9223372036854775808 ≤ c) && decide (c < 9223372036854775808), true), (!decide (gcdI (absI c) (IntKind.u64.wrap b) = 0), true), (inU (IntKind.u64.wrap ((absI a).tdiv (gcdI (absI a) (IntKind.u64.wrap d)))) &&
  inU (IntKind.u64.wrap ((absI c).tdiv (gcdI (absI c) (IntKind.u64.wrap b)))), true), (!decide (gcdI (absI c) (IntKind.u64.wrap b) = 0), true), (!decide (gcdI (absI a) (IntKind.u64.wrap d) = 0), true), (inU (IntKind.u64.wrap ((IntKind.u64.wrap b).tdiv (gcdI (absI c) (IntKind.u64.wrap b)))) &&
  inU (IntKind.u64.wrap ((IntKind.u64.wrap d).tdiv (gcdI (absI a) (IntKind.u64.wrap d)))), true), (decide (a < 0), false), (decide (c < 0), false), (inU
    (IntKind.u64.wrap ((absI a).tdiv (gcdI (absI a) (IntKind.u64.wrap d))) *
        IntKind.u64.wrap ((absI c).tdiv (gcdI (absI c) (IntKind.u64.wrap b))) %
      18446744073709551616) &&
  inU
    (IntKind.u64.wrap ((IntKind.u64.wrap b).tdiv (gcdI (absI c) (IntKind.u64.wrap b))) *
        IntKind.u64.wrap ((IntKind.u64.wrap d).tdiv (gcdI (absI a) (IntKind.u64.wrap d))) %
      18446744073709551616), true), (fitB
  (IntKind.u64.wrap ((absI a).tdiv (gcdI (absI a) (IntKind.u64.wrap d))) *
      IntKind.u64.wrap ((absI c).tdiv (gcdI (absI c) (IntKind.u64.wrap b))) /
    18446744073709551616)
  (IntKind.u64.wrap ((absI a).tdiv (gcdI (absI a) (IntKind.u64.wrap d))) *
      IntKind.u64.wrap ((absI c).tdiv (gcdI (absI c) (IntKind.u64.wrap b))) %
    18446744073709551616), false)]
theorem w48_11_ok (a b c d : Int) (h : allB (w48_11 a b c d) = true) : (evFnT Tryd.prog (spOf [e36, e37, e38, e53]) (inlOf []) extD (cKD [e36, e37, e38, e53] []) (fun _ => .unroll 0) Tryd.f48 [.agg [.int .i64 a, .int .i64 b], .agg [.int .i64 c, .int .i64 d]] [] (fun r _ => .ofOpt (some r))).run = some (Res.pan : Res) := way (gs := [true, true, true, true, true, true, true, true, false, false, false, true, false]) (by kernel_rfl) h
end Go.Proofs.YtekkphoingjidaaDoor

/- Contracts of sum and multiple. Conditions: none beyond the context's. -/
namespace Go.Proofs.YtekkphoingjidaaDoor
open Go.Evl Go.RowKit

def e46 : Ent := ⟨46, fun
  | [.agg [.int .i64 a, .int .i64 b], .agg [.int .i64 c, .int .i64 d]] => .chk (okB a b && okB c d) (.node (mkFits (a * d + c * b) (b * d)) (.leaf (.ret (.agg [.int .i64 (mkN (a * d + c * b) (b * d)), .int .i64 (mkD (a * d + c * b) (b * d))]))) (.leaf .pan))
  | _ => .non⟩
def e48 : Ent := ⟨48, fun
  | [.agg [.int .i64 a, .int .i64 b], .agg [.int .i64 c, .int .i64 d]] => .chk (okB a b && okB c d) (.node (mkFits (a * c) (b * d)) (.leaf (.ret (.agg [.int .i64 (mkN (a * c) (b * d)), .int .i64 (mkD (a * c) (b * d))]))) (.leaf .pan))
  | _ => .non⟩
theorem chk_run {α : Type} {b : Bool} {x : Tr α} {r : α} (h : (Tr.chk b x).run = some r) : b = true ∧ x.run = some r := by
  cases b with
  | true => exact ⟨rfl, h⟩
  | false => simp [Tr.run] at h
theorem mkN_neg {n m : Int} (hm : 0 < m) (hn : n ≤ 0) : mkN n m = -mkA n m := by
  unfold mkN
  have h2 : decide (m < 0) = false := by simp; omega
  rw [h2]
  by_cases h : n < 0
  · rw [decide_eq_true h]; rfl
  · have : n = 0 := by omega
    subst this
    have : mkA 0 m = 0 := by unfold mkA; rw [absI_eq]; simp
    rw [this]; rfl
theorem mkN_pos {n m : Int} (hm : 0 < m) (hn : 0 ≤ n) : mkN n m = mkA n m := by
  unfold mkN
  have h2 : decide (m < 0) = false := by simp; omega
  have h1 : decide (n < 0) = false := by simp; omega
  rw [h1, h2]; rfl
theorem fit_of {p : Int} (h : 0 ≤ p) : fitB (p / 18446744073709551616) (p % 18446744073709551616) = decide (p ≤ 1152921504606846976) := by
  rw [Bool.eq_iff_iff, fitB_iff, decide_eq_true_eq]; omega
theorem inU_mod (p : Int) : inU (p % 18446744073709551616) = true := by rw [inU_iff]; omega
theorem quo_pos {x p q : Int} (h : q * p = x) (hx : 0 < x) (hp : 0 < p) : 0 < q := by
  rcases Int.lt_or_le 0 q with h' | h'
  · exact h'
  · have := Int.mul_nonpos_of_nonpos_of_nonneg h' (show 0 ≤ p by omega); omega
theorem quo_le {x p q : Int} (h : q * p = x) (hx : 0 ≤ x) (hp : 0 < p) : 0 ≤ q ∧ q ≤ x := by
  have hq : 0 ≤ q := by
    rcases Int.lt_or_le q 0 with h' | h'
    · have := Int.mul_neg_of_neg_of_pos h' hp; omega
    · exact h'
  refine ⟨hq, ?_⟩
  have : q * 1 ≤ q * p := Int.mul_le_mul_of_nonneg_left (by omega) hq
  omega
theorem cx48 : (mkCx Tryd.prog (spOf [e36, e37, e38, e53]) (inlOf []) extD).Ok InvD := cx_of [] (by kernel_rfl) (by
  intro p hp
  simp only [List.mem_cons, List.not_mem_nil, or_false] at hp
  rcases hp with rfl | rfl | rfl | rfl
  · exact e36_ok
  · exact e37_ok
  · exact e38_ok
  · exact e53_ok)
theorem mul48 {a b c d : Int} (hok : okB a b = true) (hok2 : okB c d = true) : (evFnT Tryd.prog (spOf [e36, e37, e38, e53]) (inlOf []) extD (cKD [e36, e37, e38, e53] []) (fun _ => .unroll 0) Tryd.f48 [.agg [.int .i64 a, .int .i64 b], .agg [.int .i64 c, .int .i64 d]] [] (fun r _ => .ofOpt (some r))).run =
    (bif mkFits (a * c) (b * d) then some (.ret (.agg [.int .i64 (mkN (a * c) (b * d)), .int .i64 (mkD (a * c) (b * d))])) else some .pan) := by
  obtain ⟨h1, h2, h3, h4, h5⟩ := okB_iff.1 hok
  obtain ⟨k1, k2, k3, k4, k5⟩ := okB_iff.1 hok2
  obtain ⟨l1, l2, l3, l4, l5, l6, l7, l8⟩ := mul_law h1 k1 h5 k5
  have hm : 0 < b * d := Int.mul_pos (by omega) (by omega)
  have wb : IntKind.u64.wrap b = b := wrapU (by omega) (by omega)
  have wd : IntKind.u64.wrap d = d := wrapU (by omega) (by omega)
  have hA0 := absI_nonneg a
  have hC0 := absI_nonneg c
  have hA1 : absI a ≤ 1152921504606846976 := by rw [absI_eq]; omega
  have hC1 : absI c ≤ 1152921504606846976 := by rw [absI_eq]; omega
  have hf : mkFits (a * c) (b * d) = (decide (mkA (a * c) (b * d) ≤ 1152921504606846976) && decide (mkD (a * c) (b * d) ≤ 1152921504606846976)) := rfl
  have sgn : ∀ (x y : Bool), decide (a < 0) = x → decide (c < 0) = y → mkN (a * c) (b * d) = bif (x != y) then -mkA (a * c) (b * d) else mkA (a * c) (b * d) := by
    intro x y hx hy
    by_cases ha : a < 0 <;> by_cases hc : c < 0 <;> simp only [ha, hc, decide_true, decide_false] at hx hy <;> subst hx hy
    · exact mkN_pos hm (by have := Int.mul_pos_of_neg_of_neg ha hc; omega)
    · exact mkN_neg hm (Int.mul_nonpos_of_nonpos_of_nonneg (by omega) (by omega))
    · exact mkN_neg hm (Int.mul_nonpos_of_nonneg_of_nonpos (by omega) (by omega))
    · exact mkN_pos hm (Int.mul_nonneg (by omega) (by omega))
  rw [hf]
  generalize hmN : mkN (a * c) (b * d) = N at *
  rw [l7, l8] at *
  generalize hP : gcdI (absI a) d = P at *
  generalize hQ : gcdI (absI c) b = Q at *
  have tA : (absI a).tdiv P = absI a / P := Int.tdiv_eq_ediv_of_nonneg hA0
  have tC : (absI c).tdiv Q = absI c / Q := Int.tdiv_eq_ediv_of_nonneg hC0
  have tB : b.tdiv Q = b / Q := Int.tdiv_eq_ediv_of_nonneg (by omega)
  have tD : d.tdiv P = d / P := Int.tdiv_eq_ediv_of_nonneg (by omega)
  generalize hA' : absI a / P = A' at *
  generalize hC' : absI c / Q = C' at *
  generalize hB' : b / Q = B' at *
  generalize hD' : d / P = D' at *
  obtain ⟨a0, a1⟩ := quo_le l3 hA0 l1
  obtain ⟨c0, c1⟩ := quo_le l5 hC0 l2
  obtain ⟨b0, b1⟩ := quo_le l6 (by omega) l2
  obtain ⟨d0, d1⟩ := quo_le l4 (by omega) l1
  have wA : IntKind.u64.wrap A' = A' := wrapU a0 (by omega)
  have wC : IntKind.u64.wrap C' = C' := wrapU c0 (by omega)
  have wB : IntKind.u64.wrap B' = B' := wrapU b0 (by omega)
  have wD : IntKind.u64.wrap D' = D' := wrapU d0 (by omega)
  have f1 : (decide (-9223372036854775808 ≤ a) && decide (a < 9223372036854775808)) = true := by simp; omega
  have f2 : (decide (-9223372036854775808 ≤ c) && decide (c < 9223372036854775808)) = true := by simp; omega
  have f3 : (decide (0 ≤ absI a) && decide (0 ≤ d)) = true := by simp; omega
  have f4 : (decide (0 ≤ absI c) && decide (0 ≤ b)) = true := by simp; omega
  have f5 : (!decide (P = 0)) = true := by simp; omega
  have f6 : (!decide (Q = 0)) = true := by simp; omega
  have f7 : (inU A' && inU C') = true := by simp only [Bool.and_eq_true, inU_iff]; omega
  have f8 : (inU B' && inU D') = true := by simp only [Bool.and_eq_true, inU_iff]; omega
  have p0 : 0 ≤ A' * C' := Int.mul_nonneg a0 c0
  have q0 : 0 ≤ B' * D' := Int.mul_nonneg b0 d0
  have fn := fit_of p0
  have fd := fit_of q0
  generalize hp : A' * C' = p at *
  generalize hq : B' * D' = q at *
  by_cases hn : p ≤ 1152921504606846976
  · by_cases hdn : q ≤ 1152921504606846976
    · have ep : p % 18446744073709551616 = p := by omega
      have eq : q % 18446744073709551616 = q := by omega
      rw [decide_eq_true hn] at fn ⊢
      rw [decide_eq_true hdn] at fd ⊢
      by_cases ha : a < 0 <;> by_cases hc : c < 0
      · have ea := decide_eq_true ha
        have ec := decide_eq_true hc
        rw [w48_0_ok a b c d (by simp only [w48_0, allB, wb, wd, hP, hQ, tA, tB, tC, tD, wA, wB, wC, wD, f1, f2, f3, f4, f5, f6, f7, f8, hp, hq, inU_mod, fn, fd, ea, ec, Bool.and_self])]
        have es := sgn _ _ ea ec
        simp only [wb, wd, hP, hQ, tA, tB, tC, tD, wA, wB, wC, wD, hp, hq, ep, eq, es]
        rfl
      · have ea := decide_eq_true ha
        have ec := decide_eq_false hc
        rw [w48_3_ok a b c d (by simp only [w48_3, allB, wb, wd, hP, hQ, tA, tB, tC, tD, wA, wB, wC, wD, f1, f2, f3, f4, f5, f6, f7, f8, hp, hq, inU_mod, fn, fd, ea, ec, Bool.and_self, Bool.not_false])]
        have es := sgn _ _ ea ec
        simp only [wb, wd, hP, hQ, tA, tB, tC, tD, wA, wB, wC, wD, hp, hq, ep, eq, es]
        rfl
      · have ea := decide_eq_false ha
        have ec := decide_eq_true hc
        rw [w48_6_ok a b c d (by simp only [w48_6, allB, wb, wd, hP, hQ, tA, tB, tC, tD, wA, wB, wC, wD, f1, f2, f3, f4, f5, f6, f7, f8, hp, hq, inU_mod, fn, fd, ea, ec, Bool.and_self, Bool.not_false])]
        have es := sgn _ _ ea ec
        simp only [wb, wd, hP, hQ, tA, tB, tC, tD, wA, wB, wC, wD, hp, hq, ep, eq, es]
        rfl
      · have ea := decide_eq_false ha
        have ec := decide_eq_false hc
        rw [w48_9_ok a b c d (by simp only [w48_9, allB, wb, wd, hP, hQ, tA, tB, tC, tD, wA, wB, wC, wD, f1, f2, f3, f4, f5, f6, f7, f8, hp, hq, inU_mod, fn, fd, ea, ec, Bool.and_self, Bool.not_false])]
        have es := sgn _ _ ea ec
        simp only [wb, wd, hP, hQ, tA, tB, tC, tD, wA, wB, wC, wD, hp, hq, ep, eq, es]
        rfl
    · rw [decide_eq_true hn] at fn ⊢
      rw [decide_eq_false hdn] at fd ⊢
      by_cases ha : a < 0 <;> by_cases hc : c < 0
      · have ea := decide_eq_true ha
        have ec := decide_eq_true hc
        rw [w48_1_ok a b c d (by simp only [w48_1, allB, wb, wd, hP, hQ, tA, tB, tC, tD, wA, wB, wC, wD, f1, f2, f3, f4, f5, f6, f7, f8, hp, hq, inU_mod, fn, fd, ea, ec, Bool.and_self, Bool.not_false])]
        first | rfl | (cases decide (q ≤ 1152921504606846976) <;> rfl)
      · have ea := decide_eq_true ha
        have ec := decide_eq_false hc
        rw [w48_4_ok a b c d (by simp only [w48_4, allB, wb, wd, hP, hQ, tA, tB, tC, tD, wA, wB, wC, wD, f1, f2, f3, f4, f5, f6, f7, f8, hp, hq, inU_mod, fn, fd, ea, ec, Bool.and_self, Bool.not_false])]
        first | rfl | (cases decide (q ≤ 1152921504606846976) <;> rfl)
      · have ea := decide_eq_false ha
        have ec := decide_eq_true hc
        rw [w48_7_ok a b c d (by simp only [w48_7, allB, wb, wd, hP, hQ, tA, tB, tC, tD, wA, wB, wC, wD, f1, f2, f3, f4, f5, f6, f7, f8, hp, hq, inU_mod, fn, fd, ea, ec, Bool.and_self, Bool.not_false])]
        first | rfl | (cases decide (q ≤ 1152921504606846976) <;> rfl)
      · have ea := decide_eq_false ha
        have ec := decide_eq_false hc
        rw [w48_10_ok a b c d (by simp only [w48_10, allB, wb, wd, hP, hQ, tA, tB, tC, tD, wA, wB, wC, wD, f1, f2, f3, f4, f5, f6, f7, f8, hp, hq, inU_mod, fn, fd, ea, ec, Bool.and_self, Bool.not_false])]
        first | rfl | (cases decide (q ≤ 1152921504606846976) <;> rfl)
  · rw [decide_eq_false hn] at fn ⊢
    by_cases ha : a < 0 <;> by_cases hc : c < 0
    · have ea := decide_eq_true ha
      have ec := decide_eq_true hc
      rw [w48_2_ok a b c d (by simp only [w48_2, allB, wb, wd, hP, hQ, tA, tB, tC, tD, wA, wB, wC, wD, f1, f2, f3, f4, f5, f6, f7, f8, hp, hq, inU_mod, fn, ea, ec, Bool.and_self, Bool.not_false])]
      first | rfl | (cases decide (q ≤ 1152921504606846976) <;> rfl)
    · have ea := decide_eq_true ha
      have ec := decide_eq_false hc
      rw [w48_5_ok a b c d (by simp only [w48_5, allB, wb, wd, hP, hQ, tA, tB, tC, tD, wA, wB, wC, wD, f1, f2, f3, f4, f5, f6, f7, f8, hp, hq, inU_mod, fn, ea, ec, Bool.and_self, Bool.not_false])]
      first | rfl | (cases decide (q ≤ 1152921504606846976) <;> rfl)
    · have ea := decide_eq_false ha
      have ec := decide_eq_true hc
      rw [w48_8_ok a b c d (by simp only [w48_8, allB, wb, wd, hP, hQ, tA, tB, tC, tD, wA, wB, wC, wD, f1, f2, f3, f4, f5, f6, f7, f8, hp, hq, inU_mod, fn, ea, ec, Bool.and_self, Bool.not_false])]
      first | rfl | (cases decide (q ≤ 1152921504606846976) <;> rfl)
    · have ea := decide_eq_false ha
      have ec := decide_eq_false hc
      rw [w48_11_ok a b c d (by simp only [w48_11, allB, wb, wd, hP, hQ, tA, tB, tC, tD, wA, wB, wC, wD, f1, f2, f3, f4, f5, f6, f7, f8, hp, hq, inU_mod, fn, ea, ec, Bool.and_self, Bool.not_false])]
      first | rfl | (cases decide (q ≤ 1152921504606846976) <;> rfl)
theorem e48_ok : SpecHolds Tryd.prog InvD 48 fun a => (e48.2 a).run := by
  refine specD cx48 Tryd.func48 (c := codeOf Tryd.prog 48) (by kernel_rfl) (fun _ => .unroll 0) (fun _ _ => trivial) fun args r h => ?_
  simp only [e48] at h
  split at h
  · rename_i a b c d
    obtain ⟨hc, h⟩ := chk_run h
    simp only [Bool.and_eq_true] at hc
    refine ⟨by kernel_rfl, tr_ok (by rfl) h, ?_⟩
    show (evFnT Tryd.prog (spOf [e36, e37, e38, e53]) (inlOf []) extD (cKD [e36, e37, e38, e53] []) (fun _ => .unroll 0) Tryd.f48 [.agg [.int .i64 a, .int .i64 b], .agg [.int .i64 c, .int .i64 d]] [] (fun r _ => .ofOpt (some r))).run = some r
    rw [mul48 hc.1 hc.2]
    exact h
  · simp [Tr.run] at h
end Go.Proofs.YtekkphoingjidaaDoor

/- The contract of sum. Conditions: none beyond the context's. -/
namespace Go.Proofs.YtekkphoingjidaaDoor
open Go.Evl Go.RowKit

theorem wV_split (p : Int) : wV (p / 18446744073709551616) (p % 18446744073709551616) = p := by unfold wV; omega
theorem head46 {a b c d : Int} (hok : okB a b = true) (hok2 : okB c d = true) : ∃ (ng : Bool) (p1 p0 q1 q0 n : Int),
    (evPart Tryd.prog (spOf [e36, e37, e38, e53, e54, e65, e66, e67, e68]) (inlOf []) extD (cKD [e36, e37, e38, e53, e54, e65, e66, e67, e68] []) lp46 7 (codeOf Tryd.prog 46) keep46 ⟨frame0 Tryd.f46 [.agg [.int .i64 a, .int .i64 b], .agg [.int .i64 c, .int .i64 d]], []⟩).run =
      some (.normal, [.ptr 0 0, .ptr 1 0, .ptr 2 0, .int .u64 (gcdI b d), .bool ng, .ptr 23 0], heap46 a b c d p1 p0 q1 q0 (n / 18446744073709551616) (n % 18446744073709551616)) ∧
    n = absI (a * (d / gcdI b d) + c * (b / gcdI b d)) ∧ n ≤ 2658455991569831745807614120560689152 ∧ (ng = true → a * (d / gcdI b d) + c * (b / gcdI b d) ≤ 0) ∧ (ng = false → 0 ≤ a * (d / gcdI b d) + c * (b / gcdI b d)) := by
  obtain ⟨h1, h2, h3, h4, h5⟩ := okB_iff.1 hok
  obtain ⟨k1, k2, k3, k4, k5⟩ := okB_iff.1 hok2
  obtain ⟨l1, l2, l3, _, _, _, _, _⟩ := sum_law h1 k1 h5 k5 _ rfl
  have wb : IntKind.u64.wrap b = b := wrapU (by omega) (by omega)
  have wd : IntKind.u64.wrap d = d := wrapU (by omega) (by omega)
  have hA0 := absI_nonneg a
  have hC0 := absI_nonneg c
  have hA1 : absI a ≤ 1152921504606846976 := by rw [absI_eq]; omega
  have hC1 : absI c ≤ 1152921504606846976 := by rw [absI_eq]; omega
  generalize hG : gcdI b d = G at *
  have tB : b.tdiv G = b / G := Int.tdiv_eq_ediv_of_nonneg (by omega)
  have tD : d.tdiv G = d / G := Int.tdiv_eq_ediv_of_nonneg (by omega)
  generalize hB' : b / G = B' at *
  generalize hD' : d / G = D' at *
  obtain ⟨b0, b1⟩ := quo_le l2 (by omega) l1
  obtain ⟨d0, d1⟩ := quo_le l3 (by omega) l1
  have wB : IntKind.u64.wrap B' = B' := wrapU b0 (by omega)
  have wD : IntKind.u64.wrap D' = D' := wrapU d0 (by omega)
  have f1 : (decide (-9223372036854775808 ≤ a) && decide (a < 9223372036854775808)) = true := by simp; omega
  have f2 : (decide (-9223372036854775808 ≤ c) && decide (c < 9223372036854775808)) = true := by simp; omega
  have f3 : (decide (0 ≤ b) && decide (0 ≤ d)) = true := by simp; omega
  have f5 : (!decide (G = 0)) = true := by simp; omega
  have f7 : (inU (absI a) && inU D') = true := by simp only [Bool.and_eq_true, inU_iff]; omega
  have f8 : (inU (absI c) && inU B') = true := by simp only [Bool.and_eq_true, inU_iff]; omega
  have p0 : 0 ≤ absI a * D' := Int.mul_nonneg hA0 d0
  have q0 : 0 ≤ absI c * B' := Int.mul_nonneg hC0 b0
  have p1 : absI a * D' ≤ 1152921504606846976 * 1152921504606846976 := Int.le_trans (Int.mul_le_mul_of_nonneg_right hA1 d0) (Int.mul_le_mul_of_nonneg_left (by omega) (by omega))
  have q1 : absI c * B' ≤ 1152921504606846976 * 1152921504606846976 := Int.le_trans (Int.mul_le_mul_of_nonneg_right hC1 b0) (Int.mul_le_mul_of_nonneg_left (by omega) (by omega))
  have ap : a < 0 → a * D' = -(absI a * D') := fun h => by rw [absI_eq, show ((a.natAbs : Nat) : Int) = -a by omega, Int.neg_mul]; omega
  have an : ¬ a < 0 → a * D' = absI a * D' := fun h => by rw [absI_eq, show ((a.natAbs : Nat) : Int) = a by omega]
  have cp : c < 0 → c * B' = -(absI c * B') := fun h => by rw [absI_eq, show ((c.natAbs : Nat) : Int) = -c by omega, Int.neg_mul]; omega
  have cn : ¬ c < 0 → c * B' = absI c * B' := fun h => by rw [absI_eq, show ((c.natAbs : Nat) : Int) = c by omega]
  generalize hp : absI a * D' = p at *
  generalize hq : absI c * B' = q at *
  generalize a * D' = x at *
  generalize c * B' = y at *
  have up : ∀ {z : Int}, 0 ≤ z → z ≤ 1152921504606846976 * 1152921504606846976 → inU (z / 18446744073709551616) = true := fun h h' => inU_iff.2 (by omega)
  have u1 := up p0 p1
  have u2 := up q0 q1
  have u3 : decide (p / 18446744073709551616 + q / 18446744073709551616 < 18446744073709551615) = true := by simp; omega
  by_cases ha : a < 0 <;> by_cases hc : c < 0
  · have ea := decide_eq_true ha
    have ec := decide_eq_true hc
    have ex := ap ha
    have ey := cp hc
    refine ⟨true, p / 18446744073709551616, p % 18446744073709551616, q / 18446744073709551616, q % 18446744073709551616, p + q, ?_, ?_, ?_, ?_, ?_⟩
    · rw [h46_tt_0_ok a b c d (by simp only [h46_tt_0, allB, wb, wd, hG, tB, tD, wB, wD, f1, f2, f3, f5, f7, f8, hp, hq, u1, u2, u3, inU_mod, ea, ec, Bool.and_self])]
      simp only [wb, wd, hG, tB, tD, wB, wD, hp, hq, wV_split]
      rfl
    · rw [absI_eq]; omega
    · omega
    · intro h; first | omega | cases h
    · intro h; first | omega | cases h
  · have ea := decide_eq_true ha
    have ec := decide_eq_false hc
    have ex := ap ha
    have ey := cn hc
    by_cases g1 : p / 18446744073709551616 < q / 18446744073709551616
    · have e1 := decide_eq_true g1
      have g4 : decide (p ≤ q) = true := by simp; omega
      refine ⟨false, p / 18446744073709551616, p % 18446744073709551616, q / 18446744073709551616, q % 18446744073709551616, q - p, ?_, ?_, ?_, ?_, ?_⟩
      · rw [h46_tf_0_ok a b c d (by simp only [h46_tf_0, allB, wb, wd, hG, tB, tD, wB, wD, f1, f2, f3, f5, f7, f8, hp, hq, u1, u2, inU_mod, wV_split, ea, ec, e1, g4, Bool.and_self, Bool.not_false])]
        simp only [wb, wd, hG, tB, tD, wB, wD, hp, hq, wV_split]
        rfl
      · rw [absI_eq]; omega
      · omega
      · intro h; first | omega | cases h
      · intro h; first | omega | cases h
    · have e1 := decide_eq_false g1
      by_cases g2 : p / 18446744073709551616 = q / 18446744073709551616
      · have e2 : (p / 18446744073709551616 == q / 18446744073709551616) = true := beq_iff_eq.2 g2
        by_cases g3 : p % 18446744073709551616 < q % 18446744073709551616
        · have e3 := decide_eq_true g3
          have g4 : decide (p ≤ q) = true := by simp; omega
          refine ⟨false, p / 18446744073709551616, p % 18446744073709551616, q / 18446744073709551616, q % 18446744073709551616, q - p, ?_, ?_, ?_, ?_, ?_⟩
          · rw [h46_tf_1_ok a b c d (by simp only [h46_tf_1, allB, wb, wd, hG, tB, tD, wB, wD, f1, f2, f3, f5, f7, f8, hp, hq, u1, u2, inU_mod, wV_split, ea, ec, e1, e2, e3, g4, Bool.and_self, Bool.not_false])]
            simp only [wb, wd, hG, tB, tD, wB, wD, hp, hq, wV_split]
            rfl
          · rw [absI_eq]; omega
          · omega
          · intro h; first | omega | cases h
          · intro h; first | omega | cases h
        · have e3 := decide_eq_false g3
          have g4 : decide (q ≤ p) = true := by simp; omega
          refine ⟨true, p / 18446744073709551616, p % 18446744073709551616, q / 18446744073709551616, q % 18446744073709551616, p - q, ?_, ?_, ?_, ?_, ?_⟩
          · rw [h46_tf_2_ok a b c d (by simp only [h46_tf_2, allB, wb, wd, hG, tB, tD, wB, wD, f1, f2, f3, f5, f7, f8, hp, hq, u1, u2, inU_mod, wV_split, ea, ec, e1, e2, e3, g4, Bool.and_self, Bool.not_false])]
            simp only [wb, wd, hG, tB, tD, wB, wD, hp, hq, wV_split]
            rfl
          · rw [absI_eq]; omega
          · omega
          · intro h; first | omega | cases h
          · intro h; first | omega | cases h
      · have e2 : (p / 18446744073709551616 == q / 18446744073709551616) = false := beq_false_of_ne g2
        have g4 : decide (q ≤ p) = true := by simp; omega
        refine ⟨true, p / 18446744073709551616, p % 18446744073709551616, q / 18446744073709551616, q % 18446744073709551616, p - q, ?_, ?_, ?_, ?_, ?_⟩
        · rw [h46_tf_3_ok a b c d (by simp only [h46_tf_3, allB, wb, wd, hG, tB, tD, wB, wD, f1, f2, f3, f5, f7, f8, hp, hq, u1, u2, inU_mod, wV_split, ea, ec, e1, e2, g4, Bool.and_self, Bool.not_false])]
          simp only [wb, wd, hG, tB, tD, wB, wD, hp, hq, wV_split]
          rfl
        · rw [absI_eq]; omega
        · omega
        · intro h; first | omega | cases h
        · intro h; first | omega | cases h
  · have ea := decide_eq_false ha
    have ec := decide_eq_true hc
    have ex := an ha
    have ey := cp hc
    by_cases g1 : p / 18446744073709551616 < q / 18446744073709551616
    · have e1 := decide_eq_true g1
      have g4 : decide (p ≤ q) = true := by simp; omega
      refine ⟨true, p / 18446744073709551616, p % 18446744073709551616, q / 18446744073709551616, q % 18446744073709551616, q - p, ?_, ?_, ?_, ?_, ?_⟩
      · rw [h46_ft_0_ok a b c d (by simp only [h46_ft_0, allB, wb, wd, hG, tB, tD, wB, wD, f1, f2, f3, f5, f7, f8, hp, hq, u1, u2, inU_mod, wV_split, ea, ec, e1, g4, Bool.and_self, Bool.not_false])]
        simp only [wb, wd, hG, tB, tD, wB, wD, hp, hq, wV_split]
        rfl
      · rw [absI_eq]; omega
      · omega
      · intro h; first | omega | cases h
      · intro h; first | omega | cases h
    · have e1 := decide_eq_false g1
      by_cases g2 : p / 18446744073709551616 = q / 18446744073709551616
      · have e2 : (p / 18446744073709551616 == q / 18446744073709551616) = true := beq_iff_eq.2 g2
        by_cases g3 : p % 18446744073709551616 < q % 18446744073709551616
        · have e3 := decide_eq_true g3
          have g4 : decide (p ≤ q) = true := by simp; omega
          refine ⟨true, p / 18446744073709551616, p % 18446744073709551616, q / 18446744073709551616, q % 18446744073709551616, q - p, ?_, ?_, ?_, ?_, ?_⟩
          · rw [h46_ft_1_ok a b c d (by simp only [h46_ft_1, allB, wb, wd, hG, tB, tD, wB, wD, f1, f2, f3, f5, f7, f8, hp, hq, u1, u2, inU_mod, wV_split, ea, ec, e1, e2, e3, g4, Bool.and_self, Bool.not_false])]
            simp only [wb, wd, hG, tB, tD, wB, wD, hp, hq, wV_split]
            rfl
          · rw [absI_eq]; omega
          · omega
          · intro h; first | omega | cases h
          · intro h; first | omega | cases h
        · have e3 := decide_eq_false g3
          have g4 : decide (q ≤ p) = true := by simp; omega
          refine ⟨false, p / 18446744073709551616, p % 18446744073709551616, q / 18446744073709551616, q % 18446744073709551616, p - q, ?_, ?_, ?_, ?_, ?_⟩
          · rw [h46_ft_2_ok a b c d (by simp only [h46_ft_2, allB, wb, wd, hG, tB, tD, wB, wD, f1, f2, f3, f5, f7, f8, hp, hq, u1, u2, inU_mod, wV_split, ea, ec, e1, e2, e3, g4, Bool.and_self, Bool.not_false])]
            simp only [wb, wd, hG, tB, tD, wB, wD, hp, hq, wV_split]
            rfl
          · rw [absI_eq]; omega
          · omega
          · intro h; first | omega | cases h
          · intro h; first | omega | cases h
      · have e2 : (p / 18446744073709551616 == q / 18446744073709551616) = false := beq_false_of_ne g2
        have g4 : decide (q ≤ p) = true := by simp; omega
        refine ⟨false, p / 18446744073709551616, p % 18446744073709551616, q / 18446744073709551616, q % 18446744073709551616, p - q, ?_, ?_, ?_, ?_, ?_⟩
        · rw [h46_ft_3_ok a b c d (by simp only [h46_ft_3, allB, wb, wd, hG, tB, tD, wB, wD, f1, f2, f3, f5, f7, f8, hp, hq, u1, u2, inU_mod, wV_split, ea, ec, e1, e2, g4, Bool.and_self, Bool.not_false])]
          simp only [wb, wd, hG, tB, tD, wB, wD, hp, hq, wV_split]
          rfl
        · rw [absI_eq]; omega
        · omega
        · intro h; first | omega | cases h
        · intro h; first | omega | cases h
  · have ea := decide_eq_false ha
    have ec := decide_eq_false hc
    have ex := an ha
    have ey := cn hc
    refine ⟨false, p / 18446744073709551616, p % 18446744073709551616, q / 18446744073709551616, q % 18446744073709551616, p + q, ?_, ?_, ?_, ?_, ?_⟩
    · rw [h46_ff_0_ok a b c d (by simp only [h46_ff_0, allB, wb, wd, hG, tB, tD, wB, wD, f1, f2, f3, f5, f7, f8, hp, hq, u1, u2, u3, inU_mod, ea, ec, Bool.and_self, Bool.not_false])]
      simp only [wb, wd, hG, tB, tD, wB, wD, hp, hq, wV_split]
      rfl
    · rw [absI_eq]; omega
    · omega
    · intro h; first | omega | cases h
    · intro h; first | omega | cases h

theorem tail46 {a b c d p1 p0 q1 q0 n : Int} {ng : Bool} (hok : okB a b = true) (hok2 : okB c d = true) (hn : n = absI (a * (d / gcdI b d) + c * (b / gcdI b d))) (hn1 : n ≤ 2658455991569831745807614120560689152)
    (hng : ng = true → a * (d / gcdI b d) + c * (b / gcdI b d) ≤ 0) (hpo : ng = false → 0 ≤ a * (d / gcdI b d) + c * (b / gcdI b d)) :
    (evRest Tryd.prog (spOf [e36, e37, e38, e53, e54, e65, e66, e67, e68]) (inlOf []) extD (cKD [e36, e37, e38, e53, e54, e65, e66, e67, e68] []) lp46 (dropSeq 7 (codeOf Tryd.prog 46)) 88 keep46 [.ptr 0 0, .ptr 1 0, .ptr 2 0, .int .u64 (gcdI b d), .bool ng, .ptr 23 0] (heap46 a b c d p1 p0 q1 q0 (n / 18446744073709551616) (n % 18446744073709551616)) (endKT Tryd.prog Tryd.f46 0 fun r _ => .ofOpt (some r))).run =
    (bif mkFits (a * d + c * b) (b * d) then some (.ret (.agg [.int .i64 (mkN (a * d + c * b) (b * d)), .int .i64 (mkD (a * d + c * b) (b * d))])) else some .pan) := by
  obtain ⟨h1, h2, h3, h4, h5⟩ := okB_iff.1 hok
  obtain ⟨k1, k2, k3, k4, k5⟩ := okB_iff.1 hok2
  obtain ⟨l1, l2, l3, l4, l5, l6, l7, l8⟩ := sum_law h1 k1 h5 k5 _ rfl
  have hm : 0 < b * d := Int.mul_pos (by omega) (by omega)
  have wb : IntKind.u64.wrap b = b := wrapU (by omega) (by omega)
  have wd : IntKind.u64.wrap d = d := wrapU (by omega) (by omega)
  have hf : mkFits (a * d + c * b) (b * d) = (decide (mkA (a * d + c * b) (b * d) ≤ 1152921504606846976) && decide (mkD (a * d + c * b) (b * d) ≤ 1152921504606846976)) := rfl
  rw [hf]
  rw [← hn] at l4 l5 l7 l8
  have hgm : gcdI (n % gcdI b d) (gcdI b d) = gcdI n (gcdI b d) := by
    have hn0 : 0 ≤ n := by rw [hn]; exact absI_nonneg _
    obtain ⟨N, rfl⟩ := Int.eq_ofNat_of_zero_le hn0
    obtain ⟨g, hg⟩ := Int.eq_ofNat_of_zero_le (show 0 ≤ gcdI b d by omega)
    rw [hg]
    have e1 : ((N : Int) % (g : Int)) = ((N % g : Nat) : Int) := rfl
    rw [e1, gcdI_eq, gcdI_eq]
    congr 1
    rw [Nat.gcd_comm N g, Nat.gcd_rec g N]
  have hn0 : 0 ≤ n := by rw [hn]; exact absI_nonneg _
  generalize hT : a * (d / gcdI b d) + c * (b / gcdI b d) = T at *
  generalize hG : gcdI b d = G at *
  have hG1 : G ≤ b := (quo_le (x := b) (p := b / G) (q := G) (by rw [Int.mul_comm]; exact l2) (by omega) (quo_pos l2 (by omega) l1)).2
  have sgn : n ≠ 0 → mkN (a * d + c * b) (b * d) = bif ng then -mkA (a * d + c * b) (b * d) else mkA (a * d + c * b) (b * d) := by
    intro _
    rw [l6]
    cases ng with
    | true => exact mkN_neg hm (Int.mul_nonpos_of_nonpos_of_nonneg (hng rfl) (by omega))
    | false => exact mkN_pos hm (Int.mul_nonneg (hpo rfl) (by omega))
  have zer : n = 0 → mkN (a * d + c * b) (b * d) = 0 ∧ mkA (a * d + c * b) (b * d) = 0 ∧ mkD (a * d + c * b) (b * d) = 1 := by
    intro hz
    have hT0 : T = 0 := by rw [absI_eq] at hn; omega
    rw [l6, hT0, Int.zero_mul]
    refine ⟨?_, ?_, ?_⟩
    · rw [mkN_pos hm (by omega)]; unfold mkA; rw [absI_eq]; simp
    · unfold mkA; rw [absI_eq]; simp
    · unfold mkD mkG
      have e0 : absI 0 = 0 := by rw [absI_eq]; rfl
      obtain ⟨M, hM⟩ := Int.eq_ofNat_of_zero_le (show 0 ≤ b * d by omega)
      have e1 : absI (b * d) = (M : Int) := by rw [absI_eq]; omega
      rw [e0, e1]
      have := gcdI_eq 0 M
      rw [Nat.gcd_zero_left] at this
      have e2 : gcdI 0 (M : Int) = (M : Int) := this
      rw [e2]
      exact Int.ediv_self (by omega)
  generalize hmN : mkN (a * d + c * b) (b * d) = N at *
  generalize hmA : mkA (a * d + c * b) (b * d) = A at *
  generalize hmD : mkD (a * d + c * b) (b * d) = D at *
  generalize hR : gcdI n G = R at *
  have tB : b.tdiv G = b / G := Int.tdiv_eq_ediv_of_nonneg (by omega)
  have tD : d.tdiv R = d / R := Int.tdiv_eq_ediv_of_nonneg (by omega)
  generalize hB' : b / G = B' at *
  generalize hD' : d / R = D' at *
  obtain ⟨b0, b1⟩ := quo_le l2 (by omega) l1
  obtain ⟨d0, d1⟩ := quo_le l5 (by omega) l4
  have hR1 : R ≤ d := (quo_le (x := d) (p := D') (q := R) (by rw [Int.mul_comm]; exact l5) (by omega) (quo_pos l5 (by omega) l4)).2
  have wB : IntKind.u64.wrap B' = B' := wrapU b0 (by omega)
  have wD : IntKind.u64.wrap D' = D' := wrapU d0 (by omega)
  have i1 : inU (n / 18446744073709551616) = true := inU_iff.2 (by omega)
  have i2 : inU G = true := inU_iff.2 (by omega)
  have i3 : inU R = true := inU_iff.2 (by omega)
  have f1 : decide (0 < G) = true := decide_eq_true l1
  have f2 : decide (0 < R) = true := decide_eq_true l4
  have f3 : (!decide (G = 0)) = true := by simp; omega
  have f4 : (!decide (R = 0)) = true := by simp; omega
  have f5 : (decide (0 ≤ n % G) && decide (0 ≤ G)) = true := by
    have := Int.emod_nonneg n (show G ≠ 0 by omega)
    simp; omega
  have f6 : (inU B' && inU D') = true := by simp only [Bool.and_eq_true, inU_iff]; omega
  have z0 : 0 ≤ n / R := Int.ediv_nonneg hn0 (by omega)
  have q0 : 0 ≤ B' * D' := Int.mul_nonneg b0 d0
  have fn := fit_of z0
  have fd := fit_of q0
  rw [← l7] at fn
  rw [← l8] at fd
  have l7' : n / R = A := l7.symm
  have l8' : B' * D' = D := l8.symm
  by_cases hz : n = 0
  · obtain ⟨z1, z2, z3⟩ := zer hz
    have c1 : (n / 18446744073709551616 == 0 && (n % 18446744073709551616 == 0 && true)) = true := by subst hz; rfl
    rw [z1, z2, z3]
    cases ng with
    | true => rw [t46_t_0_ok a b c d _ _ _ _ _ _ _ (by simp only [t46_t_0, allB, c1, Bool.and_self])]; rfl
    | false => rw [t46_f_0_ok a b c d _ _ _ _ _ _ _ (by simp only [t46_f_0, allB, c1, Bool.and_self])]; rfl
  · have c1 : (n / 18446744073709551616 == 0 && (n % 18446744073709551616 == 0 && true)) = false := by
      rw [Bool.and_true, Bool.and_eq_false_iff]; simp only [beq_eq_false_iff_ne, ne_eq]; omega
    have es := sgn hz
    have hA0 : 0 ≤ A := by rw [l7]; exact z0
    have hD0 : 0 ≤ D := by rw [l8]; exact q0
    by_cases hna : A ≤ 1152921504606846976
    · by_cases hdn : D ≤ 1152921504606846976
      · have ep : A % 18446744073709551616 = A := by omega
        have eq : D % 18446744073709551616 = D := by omega
        rw [decide_eq_true hna] at fn ⊢
        rw [decide_eq_true hdn] at fd ⊢
        cases ng with
        | true =>
          rw [t46_t_1_ok a b c d _ _ _ _ _ _ _ (by simp only [t46_t_1, allB, wb, wd, wV_split, hgm, tB, tD, wB, wD, c1, i1, i2, i3, f1, f2, f3, f4, f5, f6, l7', l8', inU_mod, fn, fd, Bool.and_self, Bool.not_false])]
          simp only [wb, wd, wV_split, hgm, tB, tD, wB, wD, l7', l8', ep, eq, es]
          rfl
        | false =>
          rw [t46_f_1_ok a b c d _ _ _ _ _ _ _ (by simp only [t46_f_1, allB, wb, wd, wV_split, hgm, tB, tD, wB, wD, c1, i1, i2, i3, f1, f2, f3, f4, f5, f6, l7', l8', inU_mod, fn, fd, Bool.and_self, Bool.not_false])]
          simp only [wb, wd, wV_split, hgm, tB, tD, wB, wD, l7', l8', ep, eq, es]
          rfl
      · rw [decide_eq_true hna] at fn ⊢
        rw [decide_eq_false hdn] at fd ⊢
        cases ng with
        | true =>
          rw [t46_t_2_ok a b c d _ _ _ _ _ _ _ (by simp only [t46_t_2, allB, wb, wd, wV_split, hgm, tB, tD, wB, wD, c1, i1, i2, i3, f1, f2, f3, f4, f5, f6, l7', l8', inU_mod, fn, fd, Bool.and_self, Bool.not_false])]
          first | rfl | (cases decide (D ≤ 1152921504606846976) <;> rfl)
        | false =>
          rw [t46_f_2_ok a b c d _ _ _ _ _ _ _ (by simp only [t46_f_2, allB, wb, wd, wV_split, hgm, tB, tD, wB, wD, c1, i1, i2, i3, f1, f2, f3, f4, f5, f6, l7', l8', inU_mod, fn, fd, Bool.and_self, Bool.not_false])]
          first | rfl | (cases decide (D ≤ 1152921504606846976) <;> rfl)
    · rw [decide_eq_false hna] at fn ⊢
      cases ng with
      | true =>
        rw [t46_t_3_ok a b c d _ _ _ _ _ _ _ (by simp only [t46_t_3, allB, wb, wd, wV_split, hgm, tB, tD, wB, wD, c1, i1, i2, i3, f1, f2, f3, f4, f5, f6, l7', l8', inU_mod, fn, Bool.and_self, Bool.not_false])]
        first | rfl | (cases decide (D ≤ 1152921504606846976) <;> rfl)
      | false =>
        rw [t46_f_3_ok a b c d _ _ _ _ _ _ _ (by simp only [t46_f_3, allB, wb, wd, wV_split, hgm, tB, tD, wB, wD, c1, i1, i2, i3, f1, f2, f3, f4, f5, f6, l7', l8', inU_mod, fn, Bool.and_self, Bool.not_false])]
        first | rfl | (cases decide (D ≤ 1152921504606846976) <;> rfl)

theorem cx46 : (mkCx Tryd.prog (spOf [e36, e37, e38, e53, e54, e65, e66, e67, e68]) (inlOf []) extD).Ok InvD := cx_of [] (by kernel_rfl) (by
  intro p hp
  simp only [List.mem_cons, List.not_mem_nil, or_false] at hp
  rcases hp with rfl | rfl | rfl | rfl | rfl | rfl | rfl | rfl | rfl
  · exact e36_ok
  · exact e37_ok
  · exact e38_ok
  · exact e53_ok
  · exact e54_ok
  · exact e65_ok
  · exact e66_ok
  · exact e67_ok
  · exact e68_ok)
set_option maxRecDepth 20000 in
theorem e46_ok : SpecHolds Tryd.prog InvD 46 fun a => (e46.2 a).run := by
  refine specD cx46 Tryd.func46 (c := codeOf Tryd.prog 46) (by kernel_rfl) lp46 (fun p hp => ?_) fun args r h => ?_
  · have hl : loops (codeOf Tryd.prog 46) = [] := by kernel_rfl
    rw [hl] at hp; cases hp
  · simp only [e46] at h
    split at h
    · rename_i a b c d
      obtain ⟨hc, h⟩ := chk_run h
      simp only [Bool.and_eq_true] at hc
      refine ⟨by kernel_rfl, tr_ok (by rfl) h, ?_⟩
      obtain ⟨ng, p1, p0, q1, q0, n, hh, hn, hn1, hng, hpo⟩ := head46 hc.1 hc.2
      have hlen : (St.mk (frame0 Tryd.f46 [.agg [.int .i64 a, .int .i64 b], .agg [.int .i64 c, .int .i64 d]]) []).tm.length = 88 := by kernel_rfl
      have hk : ∀ k ∈ keep46, k < (St.mk (frame0 Tryd.f46 [.agg [.int .i64 a, .int .i64 b], .agg [.int .i64 c, .int .i64 d]]) []).tm.length := by rw [hlen]; decide
      have hcut := ev_cut (β := Res) Tryd.prog (spOf [e36, e37, e38, e53, e54, e65, e66, e67, e68]) (inlOf []) extD (cKD [e36, e37, e38, e53, e54, e65, e66, e67, e68] []) (fun {β} => callK_eq (β := β) Tryd.prog (spOf [e36, e37, e38, e53, e54, e65, e66, e67, e68]) (inlOf []) extD attD uD 20) (lp := lp46) (n := 7) (c := codeOf Tryd.prog 46) (id := 12) (keep := keep46)
        (by kernel_rfl) (by kernel_rfl) rfl (by decide) (st := ⟨frame0 Tryd.f46 [.agg [.int .i64 a, .int .i64 b], .agg [.int .i64 c, .int .i64 d]], []⟩) hk hh (endKT Tryd.prog Tryd.f46 0 fun r _ => .ofOpt (some r))
      have ht := tail46 (p1 := p1) (p0 := p0) (q1 := q1) (q0 := q0) hc.1 hc.2 hn hn1 hng hpo
      rw [evFn_body _ _ _ _ _ (c := codeOf Tryd.prog 46) (by kernel_rfl)]
      rw [hlen] at hcut
      have hall := hcut.trans ht
      refine Eq.trans ?_ h
      exact hall
    · simp [Tr.run] at h
end Go.Proofs.YtekkphoingjidaaDoor

/- Contracts of Add, Sub, Mul and Div. Conditions: none beyond the context's. -/
namespace Go.Proofs.YtekkphoingjidaaDoor
open Go.Evl Go.RowKit

/-- a fraction that is not reduced, reduced if this fits -/
def opR (n m : Int) : Tr Res := .node (mkFits n m) (.leaf (.ret (.tup [.agg [.int .i64 (mkN n m), .int .i64 (mkD n m)], .int .i64 0]))) (.leaf (.ret (.tup [.agg [.int .i64 0, .int .i64 0], .int .i64 14])))
def erR (e : Int) : Tr Res := .leaf (.ret (.tup [.agg [.int .i64 0, .int .i64 0], .int .i64 e]))
def e20 : Ent := ⟨20, fun
  | [.agg [.int .i64 a, .int .i64 b], .agg [.int .i64 c, .int .i64 d]] => .node (okB a b) (.node (okB c d) (opR (a * d + c * b) (b * d)) (erR 1)) (erR 1)
  | _ => .non⟩
def e22 : Ent := ⟨22, fun
  | [.agg [.int .i64 a, .int .i64 b], .agg [.int .i64 c, .int .i64 d]] => .node (okB a b) (.node (okB c d) (opR (a * d - c * b) (b * d)) (erR 1)) (erR 1)
  | _ => .non⟩
def e21 : Ent := ⟨21, fun
  | [.agg [.int .i64 a, .int .i64 b], .agg [.int .i64 c, .int .i64 d]] => .node (okB a b) (.node (okB c d) (opR (a * c) (b * d)) (erR 1)) (erR 1)
  | _ => .non⟩
def e23 : Ent := ⟨23, fun
  | [.agg [.int .i64 a, .int .i64 b], .agg [.int .i64 c, .int .i64 d]] => .node (okB a b) (.node (okB c d) (.node (c == 0) (erR 26) (.node (decide (c < 0)) (opR (a * -d) (b * -c)) (opR (a * d) (b * c)))) (erR 1)) (erR 1)
  | _ => .non⟩
theorem tree20 (a b c d : Int) : evFn Tryd.prog (spOf [e44, e46]) (inlOf [34, 45]) extD (cKD [e44, e46] [34, 45]) (fun _ => .unroll 0) Tryd.f20 [.agg [.int .i64 a, .int .i64 b], .agg [.int .i64 c, .int .i64 d]] [] (fun r _ => some r) =
    (bif okB a b then
      bif okB c d then
        bif okB a b && okB c d then
          bif mkFits (a * d + c * b) (b * d) then
            some
              (Res.ret
                (AV.tup
                  [AV.agg
                      [AV.int IntKind.i64 (mkN (a * d + c * b) (b * d)), AV.int IntKind.i64 (mkD (a * d + c * b) (b * d))],
                    AV.int IntKind.i64 0]))
          else some (Res.ret (AV.tup [AV.agg [AV.int IntKind.i64 0, AV.int IntKind.i64 0], AV.int IntKind.i64 14]))
        else none
      else some (Res.ret (AV.tup [AV.agg [AV.int IntKind.i64 0, AV.int IntKind.i64 0], AV.int IntKind.i64 1]))
    else some (Res.ret (AV.tup [AV.agg [AV.int IntKind.i64 0, AV.int IntKind.i64 0], AV.int IntKind.i64 1])) : Option Res) := by kernel_rfl
theorem tree21 (a b c d : Int) : evFn Tryd.prog (spOf [e44, e48]) (inlOf [34, 47]) extD (cKD [e44, e48] [34, 47]) (fun _ => .unroll 0) Tryd.f21 [.agg [.int .i64 a, .int .i64 b], .agg [.int .i64 c, .int .i64 d]] [] (fun r _ => some r) =
    (bif okB a b then
      bif okB c d then
        bif okB a b && okB c d then
          bif mkFits (a * c) (b * d) then
            some
              (Res.ret
                (AV.tup
                  [AV.agg [AV.int IntKind.i64 (mkN (a * c) (b * d)), AV.int IntKind.i64 (mkD (a * c) (b * d))],
                    AV.int IntKind.i64 0]))
          else some (Res.ret (AV.tup [AV.agg [AV.int IntKind.i64 0, AV.int IntKind.i64 0], AV.int IntKind.i64 14]))
        else none
      else some (Res.ret (AV.tup [AV.agg [AV.int IntKind.i64 0, AV.int IntKind.i64 0], AV.int IntKind.i64 1]))
    else some (Res.ret (AV.tup [AV.agg [AV.int IntKind.i64 0, AV.int IntKind.i64 0], AV.int IntKind.i64 1])) : Option Res) := by kernel_rfl
theorem tree22 (a b c d : Int) : evFn Tryd.prog (spOf [e44, e46]) (inlOf [34, 49]) extD (cKD [e44, e46] [34, 49]) (fun _ => .unroll 0) Tryd.f22 [.agg [.int .i64 a, .int .i64 b], .agg [.int .i64 c, .int .i64 d]] [] (fun r _ => some r) =
    (bif okB a b then
      bif okB c d then
        bif okB a b && okB (IntKind.i64.wrap (0 - c)) d then
          bif mkFits (a * d + IntKind.i64.wrap (0 - c) * b) (b * d) then
            some
              (Res.ret
                (AV.tup
                  [AV.agg
                      [AV.int IntKind.i64 (mkN (a * d + IntKind.i64.wrap (0 - c) * b) (b * d)),
                        AV.int IntKind.i64 (mkD (a * d + IntKind.i64.wrap (0 - c) * b) (b * d))],
                    AV.int IntKind.i64 0]))
          else some (Res.ret (AV.tup [AV.agg [AV.int IntKind.i64 0, AV.int IntKind.i64 0], AV.int IntKind.i64 14]))
        else none
      else some (Res.ret (AV.tup [AV.agg [AV.int IntKind.i64 0, AV.int IntKind.i64 0], AV.int IntKind.i64 1]))
    else some (Res.ret (AV.tup [AV.agg [AV.int IntKind.i64 0, AV.int IntKind.i64 0], AV.int IntKind.i64 1])) : Option Res) := by kernel_rfl
theorem tree23 (a b c d : Int) : evFn Tryd.prog (spOf [e44, e48]) (inlOf [34, 50]) extD (cKD [e44, e48] [34, 50]) (fun _ => .unroll 0) Tryd.f23 [.agg [.int .i64 a, .int .i64 b], .agg [.int .i64 c, .int .i64 d]] [] (fun r _ => some r) =
    (bif okB a b then
      bif okB c d then
        bif c == 0 then some (Res.ret (AV.tup [AV.agg [AV.int IntKind.i64 0, AV.int IntKind.i64 0], AV.int IntKind.i64 26]))
        else
          bif decide (c < 0) then
            bif okB a b && okB (IntKind.i64.wrap (0 - d)) (IntKind.i64.wrap (0 - c)) then
              bif mkFits (a * IntKind.i64.wrap (0 - d)) (b * IntKind.i64.wrap (0 - c)) then
                some
                  (Res.ret
                    (AV.tup
                      [AV.agg
                          [AV.int IntKind.i64 (mkN (a * IntKind.i64.wrap (0 - d)) (b * IntKind.i64.wrap (0 - c))),
                            AV.int IntKind.i64 (mkD (a * IntKind.i64.wrap (0 - d)) (b * IntKind.i64.wrap (0 - c)))],
                        AV.int IntKind.i64 0]))
              else some (Res.ret (AV.tup [AV.agg [AV.int IntKind.i64 0, AV.int IntKind.i64 0], AV.int IntKind.i64 14]))
            else none
          else
            bif okB a b && okB d c then
              bif mkFits (a * d) (b * c) then
                some
                  (Res.ret
                    (AV.tup
                      [AV.agg [AV.int IntKind.i64 (mkN (a * d) (b * c)), AV.int IntKind.i64 (mkD (a * d) (b * c))],
                        AV.int IntKind.i64 0]))
              else some (Res.ret (AV.tup [AV.agg [AV.int IntKind.i64 0, AV.int IntKind.i64 0], AV.int IntKind.i64 14]))
            else none
      else some (Res.ret (AV.tup [AV.agg [AV.int IntKind.i64 0, AV.int IntKind.i64 0], AV.int IntKind.i64 1]))
    else some (Res.ret (AV.tup [AV.agg [AV.int IntKind.i64 0, AV.int IntKind.i64 0], AV.int IntKind.i64 1])) : Option Res) := by kernel_rfl

theorem cxS : ∀ p ∈ [e44, e46], EntHolds Tryd.prog InvD p := by
  intro p hp
  simp only [List.mem_cons, List.not_mem_nil, or_false] at hp
  rcases hp with rfl | rfl
  · exact e44_ok
  · exact e46_ok
theorem cxM : ∀ p ∈ [e44, e48], EntHolds Tryd.prog InvD p := by
  intro p hp
  simp only [List.mem_cons, List.not_mem_nil, or_false] at hp
  rcases hp with rfl | rfl
  · exact e44_ok
  · exact e48_ok
theorem cx20 : (mkCx Tryd.prog (spOf [e44, e46]) (inlOf [34, 45]) extD).Ok InvD := cx_of [34, 45] (by kernel_rfl) cxS
theorem cx22 : (mkCx Tryd.prog (spOf [e44, e46]) (inlOf [34, 49]) extD).Ok InvD := cx_of [34, 49] (by kernel_rfl) cxS
theorem cx21 : (mkCx Tryd.prog (spOf [e44, e48]) (inlOf [34, 47]) extD).Ok InvD := cx_of [34, 47] (by kernel_rfl) cxM
theorem cx23 : (mkCx Tryd.prog (spOf [e44, e48]) (inlOf [34, 50]) extD).Ok InvD := cx_of [34, 50] (by kernel_rfl) cxM
theorem okB_neg {c d : Int} (h : okB c d = true) : okB (-c) d = true := by
  rw [okB_iff] at h ⊢
  rw [Int.natAbs_neg]
  omega
theorem okB_inv {c d : Int} (h : okB c d = true) (hc : 0 < c) : okB d c = true := by
  rw [okB_iff] at h ⊢
  rw [Nat.gcd_comm]
  omega
theorem okB_inv_neg {c d : Int} (h : okB c d = true) (hc : c < 0) : okB (-d) (-c) = true := by
  rw [okB_iff] at h ⊢
  rw [Int.natAbs_neg, Int.natAbs_neg, Nat.gcd_comm]
  omega
theorem e20_ok : SpecHolds Tryd.prog InvD 20 fun a => (e20.2 a).run := by
  refine specD cx20 Tryd.func20 (c := codeOf Tryd.prog 20) (by kernel_rfl) (fun _ => .unroll 0) (fun _ _ => trivial) fun args r h => ?_
  simp only [e20] at h
  split at h
  · rename_i a b c d
    refine ⟨by kernel_rfl, tr_ok (by rfl) h, ?_⟩
    rw [tree20]
    revert h
    cases h1 : okB a b <;> cases h2 : okB c d <;> intro h <;> exact h
  · simp [Tr.run] at h
theorem e21_ok : SpecHolds Tryd.prog InvD 21 fun a => (e21.2 a).run := by
  refine specD cx21 Tryd.func21 (c := codeOf Tryd.prog 21) (by kernel_rfl) (fun _ => .unroll 0) (fun _ _ => trivial) fun args r h => ?_
  simp only [e21] at h
  split at h
  · rename_i a b c d
    refine ⟨by kernel_rfl, tr_ok (by rfl) h, ?_⟩
    rw [tree21]
    revert h
    cases h1 : okB a b <;> cases h2 : okB c d <;> intro h <;> exact h
  · simp [Tr.run] at h
theorem e22_ok : SpecHolds Tryd.prog InvD 22 fun a => (e22.2 a).run := by
  refine specD cx22 Tryd.func22 (c := codeOf Tryd.prog 22) (by kernel_rfl) (fun _ => .unroll 0) (fun _ _ => trivial) fun args r h => ?_
  simp only [e22] at h
  split at h
  · rename_i a b c d
    refine ⟨by kernel_rfl, tr_ok (by rfl) h, ?_⟩
    rw [tree22]
    revert h
    cases h1 : okB a b
    · intro h; exact h
    · cases h2 : okB c d
      · intro h; exact h
      · intro h
        obtain ⟨k1, k2, k3, k4, k5⟩ := okB_iff.1 h2
        have e1 : IntKind.i64.wrap (0 - c) = -c := by rw [wrapI (by omega) (by omega)]; omega
        have e2 : a * d + -c * b = a * d - c * b := by rw [Int.neg_mul]; omega
        rw [e1, okB_neg h2, e2]
        exact h
  · simp [Tr.run] at h
theorem e23_ok : SpecHolds Tryd.prog InvD 23 fun a => (e23.2 a).run := by
  refine specD cx23 Tryd.func23 (c := codeOf Tryd.prog 23) (by kernel_rfl) (fun _ => .unroll 0) (fun _ _ => trivial) fun args r h => ?_
  simp only [e23] at h
  split at h
  · rename_i a b c d
    refine ⟨by kernel_rfl, tr_ok (by rfl) h, ?_⟩
    rw [tree23]
    revert h
    cases h1 : okB a b
    · intro h; exact h
    · cases h2 : okB c d
      · intro h; exact h
      · obtain ⟨k1, k2, k3, k4, k5⟩ := okB_iff.1 h2
        by_cases h3 : c = 0
        · subst h3; intro h; exact h
        · have e3 : (c == 0) = false := beq_false_of_ne h3
          by_cases h4 : c < 0
          · have e1 : IntKind.i64.wrap (0 - c) = -c := by rw [wrapI (by omega) (by omega)]; omega
            have e2 : IntKind.i64.wrap (0 - d) = -d := by rw [wrapI (by omega) (by omega)]; omega
            rw [e1, e2, okB_inv_neg h2 h4, e3, decide_eq_true h4]
            intro h; exact h
          · rw [okB_inv h2 (by omega), e3, decide_eq_false h4]
            intro h; exact h
  · simp [Tr.run] at h
end Go.Proofs.YtekkphoingjidaaDoor

/- The contracts of ratio's functions, each with one symbolic result. Conditions: none beyond the context's. -/
namespace Go.Proofs.YtekkphoingjidaaDoor
open Go.Evl Go.RowKit
/-- the order of two fractions -/
def cmpI (a b c d : Int) : Int := if a * d < c * b then -1 else if a * d = c * b then 0 else 1
def cmpR (a b c d : Int) : Int := if okB a b && okB c d then cmpI a b c d else 0
def ckI (a b : Int) : Int := if okB a b then 0 else 1
def okV (b : Bool) : Bool := if b then true else false
/-- what an operation yields: whether its arguments are valid, and the fraction that is not reduced -/
def opE (k : Bool) (n m : Int) : Int := if k then (if mkFits n m then 0 else 14) else 1
def opN (k : Bool) (n m : Int) : Int := if k && mkFits n m then mkN n m else 0
def opD (k : Bool) (n m : Int) : Int := if k && mkFits n m then mkD n m else 0
def opV (k : Bool) (n m : Int) : Tr Res := .leaf (.ret (.tup [.agg [.int .i64 (opN k n m), .int .i64 (opD k n m)], .int .i64 (opE k n m)]))
def e13m : Ent := ⟨13, fun
  | [.agg [.int .i64 a, .int .i64 b]] => .leaf (.ret (.int .i64 (ckI a b)))
  | _ => .non⟩
def e14m : Ent := ⟨14, fun
  | [.agg [.int .i64 a, .int .i64 b]] => .leaf (.ret (.int .i64 (ckI a b)))
  | _ => .non⟩
def e26m : Ent := ⟨26, fun
  | [.agg [.int .i64 a, .int .i64 b], .agg [.int .i64 c, .int .i64 d]] => .leaf (.ret (.int .i64 (cmpR a b c d)))
  | _ => .non⟩
def e20m : Ent := ⟨20, fun
  | [.agg [.int .i64 a, .int .i64 b], .agg [.int .i64 c, .int .i64 d]] => opV (okB a b && okB c d) (a * d + c * b) (b * d)
  | _ => .non⟩
def e22m : Ent := ⟨22, fun
  | [.agg [.int .i64 a, .int .i64 b], .agg [.int .i64 c, .int .i64 d]] => opV (okB a b && okB c d) (a * d - c * b) (b * d)
  | _ => .non⟩
def e21m : Ent := ⟨21, fun
  | [.agg [.int .i64 a, .int .i64 b], .agg [.int .i64 c, .int .i64 d]] => opV (okB a b && okB c d) (a * c) (b * d)
  | _ => .non⟩
/-- a quotient's numerator and denominator -/
def dvN (a c d : Int) : Int := if c < 0 then a * -d else a * d
def dvM (b c : Int) : Int := if c < 0 then b * -c else b * c
def dvE (k : Bool) (a b c d : Int) : Int := if k && (c == 0) then 26 else opE k (dvN a c d) (dvM b c)
def dvA (k : Bool) (a b c d : Int) : Int := if k && (c == 0) then 0 else opN k (dvN a c d) (dvM b c)
def dvB (k : Bool) (a b c d : Int) : Int := if k && (c == 0) then 0 else opD k (dvN a c d) (dvM b c)
def e23m : Ent := ⟨23, fun
  | [.agg [.int .i64 a, .int .i64 b], .agg [.int .i64 c, .int .i64 d]] => .leaf (.ret (.tup [.agg [.int .i64 (dvA (okB a b && okB c d) a b c d), .int .i64 (dvB (okB a b && okB c d) a b c d)], .int .i64 (dvE (okB a b && okB c d) a b c d)]))
  | _ => .non⟩
theorem spec_weak {P : Program} {Inv : World → Prop} {f : FuncId} {s t : List AV → Tr Res} (h : SpecHolds P Inv f fun a => (s a).run) (ht : ∀ args r, (t args).run = some r → (s args).run = some r) : SpecHolds P Inv f fun a => (t a).run :=
  fun args r hr => h args r (ht args r hr)
theorem e13m_ok : SpecHolds Tryd.prog InvD 13 fun a => (e13m.2 a).run := by
  refine spec_weak e13_ok fun args r h => ?_
  simp only [e13m] at h
  split at h
  · rename_i a b
    rw [← h]
    simp only [e13, Tr.run, ckI]
    cases okB a b <;> rfl
  · simp [Tr.run] at h
theorem e14m_ok : SpecHolds Tryd.prog InvD 14 fun a => (e14m.2 a).run := by
  refine spec_weak e14_ok fun args r h => ?_
  simp only [e14m] at h
  split at h
  · rename_i a b
    rw [← h]
    simp only [e14, Tr.run, ckI]
    cases okB a b <;> rfl
  · simp [Tr.run] at h
theorem e26m_ok : SpecHolds Tryd.prog InvD 26 fun a => (e26m.2 a).run := by
  refine spec_weak e26_ok fun args r h => ?_
  simp only [e26m] at h
  split at h
  · rename_i a b c d
    rw [← h]
    simp only [e26, cmpR, cmpI, Tr.run]
    cases (okB a b && okB c d) with
    | false => rfl
    | true =>
      by_cases h1 : a * d < c * b
      · simp [h1]
      · by_cases h2 : a * d = c * b
        · simp [h2]
        · simp [h1, h2]
  · simp [Tr.run] at h
theorem opV_run {x y : Bool} {n m : Int} : (opV (x && y) n m).run = (Tr.node x (.node y (opR n m) (erR 1)) (erR 1)).run := by
  cases x
  · rfl
  · cases y
    · rfl
    · simp only [opV, opR, Tr.run, opN, opD, opE, Bool.and_self, cond_true, if_true, Bool.true_and]
      cases mkFits n m <;> rfl
theorem e20m_ok : SpecHolds Tryd.prog InvD 20 fun a => (e20m.2 a).run := by
  refine spec_weak e20_ok fun args r h => ?_
  simp only [e20m] at h
  split at h
  · rw [opV_run] at h; exact h
  · simp [Tr.run] at h
theorem e21m_ok : SpecHolds Tryd.prog InvD 21 fun a => (e21m.2 a).run := by
  refine spec_weak e21_ok fun args r h => ?_
  simp only [e21m] at h
  split at h
  · rw [opV_run] at h; exact h
  · simp [Tr.run] at h
theorem e22m_ok : SpecHolds Tryd.prog InvD 22 fun a => (e22m.2 a).run := by
  refine spec_weak e22_ok fun args r h => ?_
  simp only [e22m] at h
  split at h
  · rw [opV_run] at h; exact h
  · simp [Tr.run] at h
theorem e23m_ok : SpecHolds Tryd.prog InvD 23 fun a => (e23m.2 a).run := by
  refine spec_weak e23_ok fun args r h => ?_
  simp only [e23m] at h
  split at h
  · rename_i a b c d
    rw [← h]
    simp only [e23]
    cases okB a b
    · rfl
    · cases okB c d
      · rfl
      · by_cases h3 : c = 0
        · subst h3; rfl
        · have e3 : (c == 0) = false := beq_false_of_ne h3
          by_cases h4 : c < 0
          · simp only [dvE, dvA, dvB, dvN, dvM, e3, h4, if_true, Tr.run, decide_true, cond_true, cond_false, Bool.and_self, Bool.and_false, Bool.false_eq_true, if_false]
            have := @opV_run true true (a * -d) (b * -c)
            simp only [Bool.and_self, opV, Tr.run] at this
            rw [this]; rfl
          · simp only [dvE, dvA, dvB, dvN, dvM, e3, h4, Tr.run, decide_false, cond_true, cond_false, Bool.and_self, Bool.and_false, Bool.false_eq_true, if_false]
            have := @opV_run true true (a * d) (b * c)
            simp only [Bool.and_self, opV, Tr.run] at this
            rw [this]; rfl
  · simp [Tr.run] at h
end Go.Proofs.YtekkphoingjidaaDoor
