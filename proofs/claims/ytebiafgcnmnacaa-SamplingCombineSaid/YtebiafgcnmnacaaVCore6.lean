/- What the sampling rows' readings give: the arguments' forms. Conditions: the rows' own. -/
import Derived.Test.YtebiafgcnmnacaaVCore5
import Derived.Test.YtebiafgcnmnacaaRows
import Derived.ProofKit
import Derived.Lib.SmallJoins
/- Head, in the program and in the reference: contracts. Conditions: none beyond the context's. -/
namespace Go.Proofs.Ytebiafgcnmnacaa
open Go.Evl Go.RowKit

/-- a trace's identity that fits -/
def trB (a : Int) : Bool := wiB a 1024 1125899906843647
/-- whether a trace is kept -/
def keB (a b c d : Int) : Bool := decide ((a + b) % d < c)
def hdE (a b c d : Int) : Int := if cpB b c d then (if trB a then 0 else 1) else 2
def hdK (a b c d : Int) : Bool := cpB b c d && (trB a && keB a b c d)
def hdN (a b c d : Int) : Int := if hdK a b c d then mkX d c else 0
def hdD (a b c d : Int) : Int := if hdK a b c d then mkY d c else if hdE a b c d = 0 then 1 else 0
def hdR (a b c d : Int) : Int := if hdE a b c d = 0 then 1 else 0
abbrev D4 (k : Bool) (n m r : Int) : AV := .agg [.bool k, .int .i64 n, .int .i64 m, .int .i64 r]
abbrev RD (k : Bool) (n m r e : Int) : Option Res := some (.ret (.tup [D4 k n m r, .int .i64 e]))
theorem inI_of {x : Int} (h0 : -9223372036854775808 ≤ x) (h1 : x < 9223372036854775808) : inI x = true := by simp only [inI, decide_eq_true_eq]; omega
theorem cpI_ne {b c d : Int} : (cpI b c d != 0) = !cpB b c d := by
  unfold cpI
  by_cases h : cpB b c d = true <;> simp [h]
/-- a part of a whole fits -/
theorem mkE_part {c d : Int} (hc : 1 ≤ c) (hd : 1 ≤ d) (h1 : c ≤ 1152921504606846976) (h2 : d ≤ 1152921504606846976) : mkE d c = 0 := by
  have h0 : c ≠ 0 := by omega
  obtain ⟨a0, a1⟩ := mkA_range (a := d) h0
  obtain ⟨d0, d1⟩ := mkD_range (a := d) h0
  have e1 : absI d = d := by rw [absI_eq]; omega
  have e2 : absI c = c := by rw [absI_eq]; omega
  have hf : mkFits d c = true := by
    unfold mkFits
    rw [Bool.and_eq_true, decide_eq_true_eq, decide_eq_true_eq]
    omega
  simp [mkE, h0, hf]
theorem hd_prog (a b c d : Int) (ha : inI a = true) : (bif cpI b c d != 0 then RD false 0 0 0 (cpI b c d) else bif decide (a < 1024) then RD false 0 0 0 1 else bif decide (IntKind.i64.wrap (a.tdiv 1024) > 1099511627776) then RD false 0 0 0 1 else bif !decide (d = 0) then bif !decide (d = 0) then bif decide ((IntKind.i64.wrap (a.tmod d + b)).tmod d ≥ c) then RD false 0 1 1 0 else bif inI d && inI c then bif mkE d c != 0 then RD false 0 0 0 (mkE d c) else RD true (mkX d c) (mkY d c) 1 0 else none else none else none : Option Res) = RD (hdK a b c d) (hdN a b c d) (hdD a b c d) (hdR a b c d) (hdE a b c d) := by
  simp only [inI, decide_eq_true_eq] at ha
  rw [cpI_ne]
  by_cases h1 : cpB b c d = true
  · obtain ⟨⟨d1, d2⟩, ⟨c1, c2⟩, b1, b2⟩ := cpB_iff.1 h1
    rw [h1]
    simp only [Bool.not_true, cond_false]
    by_cases h2 : trB a = true
    · have h2' := wiB_iff.1 h2
      have q1 : a.tdiv 1024 = a / 1024 := Int.tdiv_eq_ediv_of_nonneg (by omega)
      have q2 : a.tmod d = a % d := Int.tmod_eq_emod_of_nonneg (by omega)
      have m0 := Int.emod_nonneg a (show d ≠ 0 by omega)
      have m1 := Int.emod_lt_of_pos a (show 0 < d by omega)
      have q3 : (a % d + b).tmod d = (a + b) % d := by
        rw [Int.tmod_eq_emod_of_nonneg (by omega), Int.emod_add_emod]
      have k0 := Int.emod_nonneg (a + b) (show d ≠ 0 by omega)
      rw [q1, q2, wrapI (x := a / 1024) (by omega) (by omega), wrapI (x := a % d + b) (by omega) (by omega), q3, decide_eq_false (show ¬ a < 1024 by omega), decide_eq_false (show ¬ a / 1024 > 1099511627776 by omega), decide_eq_false (show ¬ d = 0 by omega)]
      simp only [Bool.not_false, cond_false, cond_true]
      have he : hdE a b c d = 0 := by simp [hdE, h1, h2]
      by_cases h3 : (a + b) % d < c
      · have hk : hdK a b c d = true := by simp [hdK, h1, h2, keB, h3]
        rw [decide_eq_false (show ¬ (a + b) % d ≥ c by omega), inI_of (by omega) (by omega), inI_of (by omega) (by omega), mkE_part (by omega) (by omega) (by omega) (by omega)]
        simp [hdN, hdD, hdR, he, hk]
      · have hk : hdK a b c d = false := by simp [hdK, h1, h2, keB]; omega
        rw [decide_eq_true (show (a + b) % d ≥ c by omega)]
        simp [hdN, hdD, hdR, he, hk]
    · have he : hdE a b c d = 1 := by simp [hdE, h1, h2]
      have hk : hdK a b c d = false := by simp [hdK, h2]
      have h2' : ¬ (1024 ≤ a ∧ a ≤ 1125899906843647) := fun h => h2 (wiB_iff.2 h)
      by_cases h3 : a < 1024
      · rw [decide_eq_true h3]
        simp [hdN, hdD, hdR, he, hk]
      · rw [decide_eq_false h3, Int.tdiv_eq_ediv_of_nonneg (by omega), wrapI (x := a / 1024) (by omega) (by omega), decide_eq_true (show a / 1024 > 1099511627776 by omega)]
        simp [hdN, hdD, hdR, he, hk]
  · have he : hdE a b c d = 2 := by simp [hdE, h1]
    have hk : hdK a b c d = false := by simp [hdK, h1]
    have hc : cpI b c d = 2 := by simp [cpI, h1]
    rw [show cpB b c d = false by simpa using h1, hc]
    simp [hdN, hdD, hdR, he, hk]
theorem hd_ref (a b c d : Int) (ha : inI a = true) : (bif cpI b c d != 0 then RD false 0 0 0 (cpI b c d) else bif wiB (IntKind.i64.wrap (a.tdiv 1024)) 1 1099511627776 then bif !decide (d = 0) then bif decide ((IntKind.i64.wrap (a + b)).tmod d < c) then bif inI d && inI c then RD true (mkX d c) (mkY d c) 1 0 else none else RD false 0 1 1 0 else none else RD false 0 0 0 1 : Option Res) = RD (hdK a b c d) (hdN a b c d) (hdD a b c d) (hdR a b c d) (hdE a b c d) := by
  simp only [inI, decide_eq_true_eq] at ha
  rw [cpI_ne]
  by_cases h1 : cpB b c d = true
  · obtain ⟨⟨d1, d2⟩, ⟨c1, c2⟩, b1, b2⟩ := cpB_iff.1 h1
    rw [h1]
    simp only [Bool.not_true, cond_false]
    have qw : wiB (IntKind.i64.wrap (a.tdiv 1024)) 1 1099511627776 = trB a := by
      unfold trB
      rw [Bool.eq_iff_iff, wiB_iff, wiB_iff]
      rcases Int.le_total 0 a with h | h
      · rw [Int.tdiv_eq_ediv_of_nonneg h, wrapI (by omega) (by omega)]; omega
      · have q : a.tdiv 1024 = -((-a) / 1024) := by
          rw [← Int.tdiv_eq_ediv_of_nonneg (by omega), Int.neg_tdiv]; omega
        rw [q, wrapI (by omega) (by omega)]; omega
    rw [qw]
    by_cases h2 : trB a = true
    · have h2' := wiB_iff.1 h2
      have k0 := Int.emod_nonneg (a + b) (show d ≠ 0 by omega)
      rw [wrapI (x := a + b) (by omega) (by omega), Int.tmod_eq_emod_of_nonneg (by omega), decide_eq_false (show ¬ d = 0 by omega), h2, inI_of (by omega) (by omega), inI_of (by omega) (by omega)]
      simp only [Bool.not_false, cond_true, Bool.and_self]
      have he : hdE a b c d = 0 := by simp [hdE, h1, h2]
      by_cases h3 : (a + b) % d < c
      · have hk : hdK a b c d = true := by simp [hdK, h1, h2, keB, h3]
        rw [decide_eq_true h3]
        simp [hdN, hdD, hdR, he, hk]
      · have hk : hdK a b c d = false := by simp [hdK, h1, h2, keB]; omega
        rw [decide_eq_false h3]
        simp [hdN, hdD, hdR, he, hk]
    · have he : hdE a b c d = 1 := by simp [hdE, h1, h2]
      have hk : hdK a b c d = false := by simp [hdK, h2]
      rw [show trB a = false by simpa using h2]
      simp [hdN, hdD, hdR, he, hk]
  · have he : hdE a b c d = 2 := by simp [hdE, h1]
    have hk : hdK a b c d = false := by simp [hdK, h1]
    have hc : cpI b c d = 2 := by simp [cpI, h1]
    rw [show cpB b c d = false by simpa using h1, hc]
    simp [hdN, hdD, hdR, he, hk]
theorem sx8 : (mkCx Try.prog (spOf [i22, i31, i32]) (inlOf [23]) extD).Ok InvD := cx_of [23] (by kernel_rfl) (by
  intro p hp
  simp only [List.mem_cons, List.not_mem_nil, or_false] at hp
  rcases hp with rfl | rfl | rfl
  · exact i22_ok
  · exact i31_ok
  · exact i32_ok)
theorem sx9 : (mkCx Try.prog (spOf [i24, i25, i47, i48]) (inlOf [26, 27, 28]) extD).Ok InvD := cx_of [26, 27, 28] (by kernel_rfl) (by
  intro p hp
  simp only [List.mem_cons, List.not_mem_nil, or_false] at hp
  rcases hp with rfl | rfl | rfl | rfl
  · exact i24_ok
  · exact i25_ok
  · exact i47_ok
  · exact i48_ok)
def i8 : Ent := ⟨8, fun
  | [.int .i64 a, .int .i64 b, .int .i64 c, .int .i64 d] => .chk (inI a) (.leaf (.ret (.tup [D4 (hdK a b c d) (hdN a b c d) (hdD a b c d) (hdR a b c d), .int .i64 (hdE a b c d)])))
  | _ => .non⟩
theorem vti8 (a b c d : Int) : evFn Try.prog (spOf [i22, i31, i32]) (inlOf [23]) extD (cKD [i22, i31, i32] [23]) (fun _ => .unroll 0) Try.f8 [.int .i64 a, .int .i64 b, .int .i64 c, .int .i64 d] [] (fun r _ => some r) =
    (bif cpI b c d != 0 then RD false 0 0 0 (cpI b c d) else bif decide (a < 1024) then RD false 0 0 0 1 else bif decide (IntKind.i64.wrap (a.tdiv 1024) > 1099511627776) then RD false 0 0 0 1 else bif !decide (d = 0) then bif !decide (d = 0) then bif decide ((IntKind.i64.wrap (a.tmod d + b)).tmod d ≥ c) then RD false 0 1 1 0 else bif inI d && inI c then bif mkE d c != 0 then RD false 0 0 0 (mkE d c) else RD true (mkX d c) (mkY d c) 1 0 else none else none else none : Option Res) := by kernel_rfl
theorem i8_ok : SpecHolds Try.prog InvD 8 fun a => (i8.2 a).run := by
  refine specD sx8 Try.func8 (c := codeOf Try.prog 8) (by kernel_rfl) (fun _ => .unroll 0) (fun _ _ => trivial) fun args r hh => ?_
  simp only [i8] at hh
  split at hh
  · rename_i a b c d
    obtain ⟨hg, hh⟩ := chk_run hh
    refine ⟨by kernel_rfl, tr_ok (by rfl) hh, ?_⟩
    refine (vti8 a b c d).trans (Eq.trans ?_ hh)
    exact hd_prog a b c d hg
  · simp [Tr.run] at hh
def i9 : Ent := ⟨9, fun
  | [.int .i64 a, .int .i64 b, .int .i64 c, .int .i64 d] => .chk (inI a) (.leaf (.ret (.tup [D4 (hdK a b c d) (hdN a b c d) (hdD a b c d) (hdR a b c d), .int .i64 (hdE a b c d)])))
  | _ => .non⟩
theorem vti9 (a b c d : Int) : evFn Try.prog (spOf [i24, i25, i47, i48]) (inlOf [26, 27, 28]) extD (cKD [i24, i25, i47, i48] [26, 27, 28]) (fun _ => .unroll 0) Try.f9 [.int .i64 a, .int .i64 b, .int .i64 c, .int .i64 d] [] (fun r _ => some r) =
    (bif cpI b c d != 0 then RD false 0 0 0 (cpI b c d) else bif wiB (IntKind.i64.wrap (a.tdiv 1024)) 1 1099511627776 then bif !decide (d = 0) then bif decide ((IntKind.i64.wrap (a + b)).tmod d < c) then bif inI d && inI c then RD true (mkX d c) (mkY d c) 1 0 else none else RD false 0 1 1 0 else none else RD false 0 0 0 1 : Option Res) := by kernel_rfl
theorem i9_ok : SpecHolds Try.prog InvD 9 fun a => (i9.2 a).run := by
  refine specD sx9 Try.func9 (c := codeOf Try.prog 9) (by kernel_rfl) (fun _ => .unroll 0) (fun _ _ => trivial) fun args r hh => ?_
  simp only [i9] at hh
  split at hh
  · rename_i a b c d
    obtain ⟨hg, hh⟩ := chk_run hh
    refine ⟨by kernel_rfl, tr_ok (by rfl) hh, ?_⟩
    refine (vti9 a b c d).trans (Eq.trans ?_ hh)
    exact hd_ref a b c d hg
  · simp [Tr.run] at hh
end Go.Proofs.Ytebiafgcnmnacaa

/- How many coins keep something, in the program and in the reference: contracts. Conditions: none beyond the context's. -/
namespace Go.Proofs.Ytebiafgcnmnacaa
open Go.Evl Go.RowKit

/-- with how many coins something is kept -/
def kcI (s t n : Int) : Int := if s < 0 then 0 else min n ((s * n + t - 1) / t)
theorem kcI_range {s t n : Int} (h : prB s t n = true) : 0 ≤ kcI s t n ∧ kcI s t n ≤ n := by
  obtain ⟨⟨t1, t2⟩, ⟨n1, n2⟩, s1, s2⟩ := prB_iff.1 h
  unfold kcI
  rw [if_neg (by omega)]
  have : 0 ≤ s * n := Int.mul_nonneg s1 (by omega)
  have : 0 ≤ (s * n + t - 1) / t := Int.ediv_nonneg (by omega) (by omega)
  omega
theorem kcI_lt {s t n k : Int} (h : prB s t n = true) : k < kcI s t n ↔ k < n ∧ k * t < s * n := by
  obtain ⟨⟨t1, t2⟩, ⟨n1, n2⟩, s1, s2⟩ := prB_iff.1 h
  have e : k < (s * n + t - 1) / t ↔ k * t < s * n := by
    rw [← Int.add_one_le_iff, Int.le_ediv_iff_mul_le (by omega), Int.add_mul]
    omega
  unfold kcI
  rw [if_neg (by omega), ← e]
  omega
theorem prod_range {s t n k : Int} (h : prB s t n = true) (h0 : 0 ≤ k) (h1 : k ≤ n) : IntKind.i64.wrap (k * t) = k * t ∧ IntKind.i64.wrap (s * n) = s * n := by
  obtain ⟨⟨t1, t2⟩, ⟨n1, n2⟩, s1, s2⟩ := prB_iff.1 h
  have p1 : 0 ≤ k * t := Int.mul_nonneg h0 (by omega)
  have p2 : k * t ≤ 1000 * 1099511627776 := Int.mul_le_mul (by omega) t2 (by omega) (by omega)
  have p3 : 0 ≤ s * n := Int.mul_nonneg s1 (by omega)
  have p4 : s * n ≤ 1099511627776 * 1000 := Int.mul_le_mul s2 n2 (by omega) (by omega)
  exact ⟨wrapI (by omega) (by omega), wrapI (by omega) (by omega)⟩
abbrev keep34 : List Nat := [0, 1, 2, 7]
abbrev vs34 (s t n k : Int) : List AV := [.int .i64 s, .int .i64 t, .int .i64 n, .int .i64 k]
def f34s : List AV → List Ob → Tr (Ex × List AV × List Ob)
  | [.int .i64 s, .int .i64 t, .int .i64 n, .int .i64 k], [] => .chk (prB s t n && (decide (0 ≤ k) && decide (k ≤ kcI s t n))) (.leaf (.exit 0, vs34 s t n (kcI s t n), []))
  | _, _ => .non
abbrev lp34 (_ : Nat) : LT := .sum keep34 f34s
theorem loop34 (s t n k : Int) : evC (β := Ex × List AV × List Ob) Try.prog (spOf []) (inlOf []) extD (cKD [] []) lp34 (bodyOf Try.prog 34 0) ⟨mkF Try.f34.ntmps keep34 (vs34 s t n k), []⟩ (fun e st => (cutBack keep34 0 st).map fun q => (e, q.1, q.2)) =
    bif decide (k < n) then bif decide (IntKind.i64.wrap (k * t) < IntKind.i64.wrap (s * n)) then some (.normal, vs34 s t n (IntKind.i64.wrap (k + 1)), []) else some (.exit 0, vs34 s t n k, []) else some (.exit 0, vs34 s t n k, []) := by kernel_rfl
theorem sum34 : LoopOkT Try.prog (spOf []) (inlOf []) extD (cKD [] []) lp34 Try.f34.ntmps (bodyOf Try.prog 34 0) (.sum keep34 f34s) := by
  dsimp only [LoopOkT]
  refine ⟨by decide, by decide, fun vs _ => match vs with | [.int _ s, .int _ t, .int _ n, .int _ k] => (kcI s t n - k).toNat | _ => 0, fun vs H R hv hR => ?_⟩
  unfold f34s at hR
  split at hR
  · rename_i s t n k
    obtain ⟨hc, hR⟩ := chk_run hR
    simp only [Tr.run, Option.some.injEq] at hR
    subst hR
    simp only [Bool.and_eq_true, decide_eq_true_eq] at hc
    obtain ⟨hp, k0, k1⟩ := hc
    have hr := kcI_range hp
    have hl := kcI_lt (k := k) hp
    obtain ⟨w1, w2⟩ := prod_range (k := k) hp k0 (by omega)
    have hn := (prB_iff.1 hp).2.1
    have ht := loop34 s t n k
    rw [w1, w2] at ht
    by_cases h : k < kcI s t n
    · rw [decide_eq_true (hl.1 h).1, decide_eq_true (hl.1 h).2] at ht
      refine ⟨_, _, _, ht, ?_, ?_⟩
      · rw [wrapI (by omega) (by omega)]
        simp only [f34s]
        rw [hp, decide_eq_true (show 0 ≤ k + 1 by omega), decide_eq_true (show k + 1 ≤ kcI s t n by omega)]
        rfl
      · show (kcI s t n - IntKind.i64.wrap (k + 1)).toNat < (kcI s t n - k).toNat
        rw [wrapI (by omega) (by omega)]
        omega
    · have e : k = kcI s t n := by omega
      refine ⟨.exit 0, vs34 s t n k, [], ?_, ?_⟩
      · refine ht.trans ?_
        by_cases g1 : k < n
        · have g2 : ¬ k * t < s * n := fun g2 => h (hl.2 ⟨g1, g2⟩)
          rw [decide_eq_true g1, decide_eq_false g2]; rfl
        · rw [decide_eq_false g1]; rfl
      · show (Ex.exit 0, vs34 s t n (kcI s t n), []) = (Ex.exit 0, vs34 s t n k, [])
        rw [← e]
  · simp [Tr.run] at hR
def i34 : Ent := ⟨34, fun
  | [.int .i64 s, .int .i64 t, .int .i64 n] => .chk (prB s t n) (.leaf (.ret (.int .i64 (kcI s t n))))
  | _ => .non⟩
theorem vti34 (s t n : Int) : evFn Try.prog (spOf []) (inlOf []) extD (cKD [] []) (lp34) Try.f34 [.int .i64 s, .int .i64 t, .int .i64 n] [] (fun r _ => some r) =
    (bif prB s t n && (true && decide (0 ≤ kcI s t n)) then RI (kcI s t n) else none : Option Res) := by kernel_rfl
theorem i34_ok : SpecHolds Try.prog InvD 34 fun a => (i34.2 a).run := by
  refine specD sx0 Try.func34 (c := codeOf Try.prog 34) (by kernel_rfl) (lp34) (fun p hp => by
    have hl : loops (codeOf Try.prog 34) = [(0, bodyOf Try.prog 34 0)] := by kernel_rfl
    rw [hl, List.mem_singleton] at hp
    subst hp
    exact sum34) fun args r hh => ?_
  simp only [i34] at hh
  split at hh
  · rename_i s t n
    obtain ⟨hg, hh⟩ := chk_run hh
    refine ⟨by kernel_rfl, tr_ok (by rfl) hh, ?_⟩
    refine (vti34 s t n).trans (Eq.trans ?_ hh)
    rw [hg, decide_eq_true (kcI_range hg).1]
    rfl
  · simp [Tr.run] at hh

/-! the program's: a range over a function -/
noncomputable def rf30 : Operand × Array Tmp × Code × Code := ((rfs (codeOf Try.prog 30))[0]?).getD (.tmp 0, #[], .skip, .skip)
abbrev keep64 : List Nat := [0, 1, 2, 3, 5]
abbrev vs64 (c : Int) : List AV := [.yld 5, .ptr 3 0, .ptr 2 0, .ptr 1 0, .int .i64 c]
abbrev hp64 (k s t n : Int) (o : Ob) : List Ob := [.cells [.int .i64 k] 3, .cells [.int .i64 s] 3, .cells [.int .i64 t] 3, .cells [.int .i64 n] 3, .dfr, o]
noncomputable def f64s : List AV → List Ob → Tr (Ex × List AV × List Ob)
  | [.yld 5, .ptr 3 0, .ptr 2 0, .ptr 1 0, .int .i64 c], [.cells [.int .i64 k] 3, .cells [.int .i64 s] 3, .cells [.int .i64 t] 3, .cells [.int .i64 n] 3, .dfr, .loop [a0, a1, a2, a3, a4, a5, a6, .ptr 0 0, a8, a9, a10, a11, a12, a13, a14, a15] ps asg body 4 .ready] =>
    .chk (eqL Nat.beq ps.toList [12] && (eqC asg .skip && eqC body rf30.2.2.2)) (.chk (prB s t n && ((decide (0 ≤ c) && decide (c ≤ kcI s t n)) && decide (k = c)))
      (.leaf (.exit 0, vs64 (kcI s t n), hp64 (kcI s t n) s t n (.loop [a0, a1, a2, a3, a4, a5, a6, .ptr 0 0, a8, a9, a10, a11, a12, a13, a14, a15] ps asg body 4 .ready))))
  | _, _ => .non
noncomputable abbrev lp64 (_ : Nat) : LT := .sum keep64 f64s
noncomputable abbrev cK64 {β : Type} : CallK β := callLK Try.prog (spOf []) (inlOf [49, 64]) extD (cKD [] [49, 64]) [(64, lp64)]
section
variable {a0 a1 a2 a3 a4 a5 a6 a8 a9 a10 a11 a12 a13 a14 a15 : AV}
abbrev ob64 (a0 a1 a2 a3 a4 a5 a6 a8 a9 a10 a11 a12 a13 a14 a15 : AV) (c : Code) : Ob := .loop [a0, a1, a2, a3, a4, a5, a6, .ptr 0 0, a8, a9, a10, a11, a12, a13, a14, a15] #[12] .skip c 4 .ready
theorem loop64 (s t n k c : Int) : evC (β := Ex × List AV × List Ob) Try.prog (spOf []) (inlOf [49, 64]) extD (cKD [] [49, 64]) lp64 (bodyOf Try.prog 64 0) ⟨mkF Try.f64.ntmps keep64 (vs64 c), hp64 k s t n (ob64 a0 a1 a2 a3 a4 a5 a6 a8 a9 a10 a11 a12 a13 a14 a15 rf30.2.2.2)⟩ (fun e st => (cutBack keep64 6 st).map fun q => (e, q.1, q.2)) =
    bif decide (c < n) then bif decide (IntKind.i64.wrap (c * t) < IntKind.i64.wrap (s * n)) then some (.normal, vs64 (IntKind.i64.wrap (c + 1)), hp64 (IntKind.i64.wrap (k + 1)) s t n (ob64 a0 a1 a2 a3 a4 a5 a6 a8 a9 a10 a11 a12 a13 a14 a15 rf30.2.2.2))
      else some (.exit 0, vs64 c, hp64 k s t n (ob64 a0 a1 a2 a3 a4 a5 a6 a8 a9 a10 a11 a12 a13 a14 a15 rf30.2.2.2)) else some (.exit 0, vs64 c, hp64 k s t n (ob64 a0 a1 a2 a3 a4 a5 a6 a8 a9 a10 a11 a12 a13 a14 a15 rf30.2.2.2)) := by kernel_rfl
end
theorem eqC_rf30 : eqC rf30.2.2.2 rf30.2.2.2 = true := by kernel_rfl
theorem sum64 : LoopOkT Try.prog (spOf []) (inlOf [49, 64]) extD (cKD [] [49, 64]) lp64 Try.f64.ntmps (bodyOf Try.prog 64 0) (.sum keep64 f64s) := by
  dsimp only [LoopOkT]
  refine ⟨by decide, by decide, fun vs H => match vs, H with | [_, _, _, _, .int _ c], [_, .cells [.int _ s] _, .cells [.int _ t] _, .cells [.int _ n] _, _, _] => (kcI s t n - c).toNat | _, _ => 0, fun vs H R hv hR => ?_⟩
  unfold f64s at hR
  split at hR
  · rename_i c k s t n a0 a1 a2 a3 a4 a5 a6 a8 a9 a10 a11 a12 a13 a14 a15 ps asg body
    obtain ⟨hc, hR⟩ := chk_run hR
    obtain ⟨hg, hR⟩ := chk_run hR
    simp only [Tr.run, Option.some.injEq] at hR
    subst hR
    rw [Bool.and_eq_true, Bool.and_eq_true] at hc
    obtain ⟨h1, h2, h3⟩ := hc
    have e1 : ps = #[12] := Array.toList_inj.1 (eqL_eq (fun _ _ h => beqN h) h1)
    have e2 := eqC_eq h2
    have e3 := eqC_eq h3
    subst e1 e2 e3
    simp only [Bool.and_eq_true, decide_eq_true_eq] at hg
    obtain ⟨hp, ⟨k0, k1⟩, rfl⟩ := hg
    have hr := kcI_range hp
    have hl := kcI_lt (k := k) hp
    obtain ⟨w1, w2⟩ := prod_range (k := k) hp k0 (by omega)
    have hn := (prB_iff.1 hp).2.1
    have ht := @loop64 a0 a1 a2 a3 a4 a5 a6 a8 a9 a10 a11 a12 a13 a14 a15 s t n k k
    rw [w1, w2] at ht
    by_cases h : k < kcI s t n
    · rw [decide_eq_true (hl.1 h).1, decide_eq_true (hl.1 h).2] at ht
      refine ⟨_, _, _, ht, ?_, ?_⟩
      · rw [wrapI (by omega) (by omega)]
        simp only [f64s]
        rw [hp, decide_eq_true (show 0 ≤ k + 1 by omega), decide_eq_true (show k + 1 ≤ kcI s t n by omega), eqC_rf30]
        rfl
      · show (kcI s t n - IntKind.i64.wrap (k + 1)).toNat < (kcI s t n - k).toNat
        rw [wrapI (by omega) (by omega)]
        omega
    · have e : k = kcI s t n := by omega
      refine ⟨.exit 0, vs64 k, hp64 k s t n (ob64 a0 a1 a2 a3 a4 a5 a6 a8 a9 a10 a11 a12 a13 a14 a15 rf30.2.2.2), ht.trans ?_, ?_⟩
      · by_cases g1 : k < n
        · have g2 : ¬ k * t < s * n := fun g2 => h (hl.2 ⟨g1, g2⟩)
          rw [decide_eq_true g1, decide_eq_false g2]; rfl
        · rw [decide_eq_false g1]; rfl
      · show (Ex.exit 0, vs64 (kcI s t n), hp64 (kcI s t n) s t n _) = (Ex.exit 0, vs64 k, hp64 k s t n _)
        rw [← e]
  · simp [Tr.run] at hR
def i30 : Ent := ⟨30, fun
  | [.int .i64 s, .int .i64 t, .int .i64 n] => .chk (prB s t n) (.leaf (.ret (.int .i64 (kcI s t n))))
  | _ => .non⟩
theorem sx30 : (mkCx Try.prog (spOf []) (inlOf [49, 64]) extD).Ok InvD := cx_of [49, 64] (by kernel_rfl) (fun p hp => by cases hp)
theorem lps64 : LpsOk (mkCx Try.prog (spOf []) (inlOf [49, 64]) extD) (callN (mkCx Try.prog (spOf []) (inlOf [49, 64]) extD) attD uD 20) [(64, lp64)] := by
  intro f lp hf fn c hfn hc
  simp only [List.mem_singleton, Prod.mk.injEq] at hf
  obtain ⟨rfl, rfl⟩ := hf
  have e1 : fn = Try.f64 := Option.some.inj (hfn.symm.trans Try.func64)
  subst e1
  have e2 : c = codeOf Try.prog 64 := Option.some.inj (hc.symm.trans (by kernel_rfl))
  subst e2
  refine loopsOk_of Try.prog (spOf []) (inlOf [49, 64]) extD (cKD [] [49, 64]) (fun {β} => callK_eq (β := β) Try.prog (spOf []) (inlOf [49, 64]) extD attD uD 20) fun p hp => ?_
  have hl : loops (codeOf Try.prog 64) = [(0, bodyOf Try.prog 64 0)] := by kernel_rfl
  rw [hl, List.mem_singleton] at hp
  subst hp
  exact sum64
theorem vt30 (s t n : Int) : evFn Try.prog (spOf []) (inlOf [49, 64]) extD cK64 (fun _ => .unroll 0) Try.f30 [.int .i64 s, .int .i64 t, .int .i64 n] [] (fun r _ => some r) =
    bif prB s t n && ((true && decide (0 ≤ kcI s t n)) && true) then RI (kcI s t n) else none := by kernel_rfl
theorem i30_ok : SpecHolds Try.prog InvD 30 fun a => (i30.2 a).run := by
  refine spec_of_ev Try.prog (spOf []) (inlOf [49, 64]) extD cK64 (fun {β} => callLK_eq (β := β) Try.prog (spOf []) (inlOf [49, 64]) extD (callK_eq (β := β) Try.prog (spOf []) (inlOf [49, 64]) extD attD uD 20) [(64, lp64)]) sx30 stableD mixedD
    (callLN_sound sx30 stableD mixedD (callN_sound attD_ok sx30 stableD mixedD 20) lps64) Try.func30 (c := codeOf Try.prog 30) (by kernel_rfl) (fun _ => .unroll 0) (fun _ _ => trivial) fun args r hh => ?_
  simp only [i30] at hh
  split at hh
  · rename_i s t n
    obtain ⟨hg, hh⟩ := chk_run hh
    refine ⟨by kernel_rfl, tr_ok (by rfl) hh, ?_⟩
    refine (vt30 s t n).trans (Eq.trans ?_ hh)
    rw [hg, decide_eq_true (kcI_range hg).1]
    rfl
  · simp [Tr.run] at hh
end Go.Proofs.Ytebiafgcnmnacaa

/- Priority, in the program and in the reference: contracts. Conditions: none beyond the context's. -/
namespace Go.Proofs.Ytebiafgcnmnacaa
open Go.Evl Go.RowKit

def prA (s t c n : Int) : Bool := prB s t n && wiB c 0 (n - 1)
def prE (s t c n : Int) : Int := if prA s t c n then 0 else 2
def prK (s t c n : Int) : Bool := prA s t c n && decide (c < kcI s t n)
def prN (s t c n : Int) : Int := if prK s t c n then mkX n (kcI s t n) else 0
def prD (s t c n : Int) : Int := if prK s t c n then mkY n (kcI s t n) else if prE s t c n = 0 then 1 else 0
def prR (s t c n : Int) : Int := if prE s t c n = 0 then 4 else 0
abbrev prL (s t c n : Int) : Option Res := RD (prK s t c n) (prN s t c n) (prD s t c n) (prR s t c n) (prE s t c n)
theorem pr_no {s t c n : Int} (h : prA s t c n = false) : prL s t c n = RD false 0 0 0 2 := by
  have he : prE s t c n = 2 := by simp [prE, h]
  have hk : prK s t c n = false := by simp [prK, h]
  simp [prL, prN, prD, prR, he, hk]
theorem pr_out {s t c n : Int} (h : prA s t c n = true) (hk : ¬ c < kcI s t n) : prL s t c n = RD false 0 1 4 0 := by
  have he : prE s t c n = 0 := by simp [prE, h]
  have hk : prK s t c n = false := by simp [prK, hk]
  simp [prL, prN, prD, prR, he, hk]
theorem pr_in {s t c n : Int} (h : prA s t c n = true) (hk : c < kcI s t n) : prL s t c n = RD true (mkX n (kcI s t n)) (mkY n (kcI s t n)) 4 0 := by
  have he : prE s t c n = 0 := by simp [prE, h]
  have hk : prK s t c n = true := by simp [prK, h, hk]
  simp [prL, prN, prD, prR, he, hk]
theorem prA_iff {s t c n : Int} : prA s t c n = true ↔ prB s t n = true ∧ 0 ≤ c ∧ c ≤ n - 1 := by unfold prA; rw [Bool.and_eq_true, wiB_iff]
theorem pr_prog (s t c n : Int) : (bif prB s t n then bif decide (c < 0) then RD false 0 0 0 2 else bif decide (c ≥ n) then RD false 0 0 0 2 else bif prB s t n then bif decide (c ≥ kcI s t n) then RD false 0 1 4 0 else bif inI n && inI (kcI s t n) then bif mkE n (kcI s t n) != 0 then RD false 0 0 0 (mkE n (kcI s t n)) else RD true (mkX n (kcI s t n)) (mkY n (kcI s t n)) 4 0 else none else none else RD false 0 0 0 2 : Option Res) = prL s t c n := by
  cases h1 : prB s t n with
  | false => rw [pr_no (by simp [prA, h1])]; rfl
  | true =>
    simp only [cond_true]
    by_cases h2 : c < 0
    · rw [pr_no (by simp [prA, wiB]; omega), decide_eq_true h2]; rfl
    · by_cases h3 : c ≥ n
      · rw [pr_no (by simp [prA, wiB]; omega), decide_eq_false h2, decide_eq_true h3]; rfl
      · have ha : prA s t c n = true := prA_iff.2 ⟨h1, by omega, by omega⟩
        have hr := kcI_range h1
        have hn := (prB_iff.1 h1).2.1
        rw [decide_eq_false h2, decide_eq_false h3]
        by_cases hk : c < kcI s t n
        · rw [pr_in ha hk, decide_eq_false (show ¬ c ≥ kcI s t n by omega), inI_of (by omega) (by omega), inI_of (by omega) (by omega), mkE_part (by omega) (by omega) (by omega) (by omega)]; rfl
        · rw [pr_out ha hk, decide_eq_true (show c ≥ kcI s t n by omega)]; rfl
theorem pr_ref (s t c n : Int) : (bif wiB s 0 1099511627776 then bif wiB t 1 1099511627776 && wiB n 1 1000 then bif wiB c 0 (IntKind.i64.wrap (n - 1)) then bif prB s t n then bif decide (c < kcI s t n) then bif inI n && inI (kcI s t n) then RD true (mkX n (kcI s t n)) (mkY n (kcI s t n)) 4 0 else none else RD false 0 1 4 0 else none else RD false 0 0 0 2 else RD false 0 0 0 2 else RD false 0 0 0 2 : Option Res) = prL s t c n := by
  have hb : prB s t n = (wiB s 0 1099511627776 && (wiB t 1 1099511627776 && wiB n 1 1000)) := by
    unfold prB
    cases wiB s 0 1099511627776 <;> cases wiB t 1 1099511627776 <;> cases wiB n 1 1000 <;> rfl
  cases h1 : prB s t n with
  | false =>
    rw [pr_no (by simp [prA, h1])]
    rw [hb] at h1
    cases g1 : wiB s 0 1099511627776 with
    | false => rfl
    | true =>
      rw [g1, Bool.true_and] at h1
      rw [h1]; rfl
  | true =>
    have hn := (prB_iff.1 h1).2.1
    have hr := kcI_range h1
    have hb' := h1
    rw [hb, Bool.and_eq_true] at hb'
    rw [hb'.1, hb'.2, wrapI (by omega) (by omega)]
    simp only [cond_true]
    cases h2 : wiB c 0 (n - 1) with
    | false => rw [pr_no (by simp [prA, h2])]; rfl
    | true =>
      have ha : prA s t c n = true := by simp [prA, h1, h2]
      have hc := (prA_iff.1 ha).2
      by_cases hk : c < kcI s t n
      · rw [pr_in ha hk, decide_eq_true hk, inI_of (by omega) (by omega), inI_of (by omega) (by omega)]; rfl
      · rw [pr_out ha hk, decide_eq_false hk]; rfl
theorem sx10 : (mkCx Try.prog (spOf [i29, i30, i31, i32]) (inlOf []) extD).Ok InvD := cx_of [] (by kernel_rfl) (by
  intro p hp
  simp only [List.mem_cons, List.not_mem_nil, or_false] at hp
  rcases hp with rfl | rfl | rfl | rfl
  · exact i29_ok
  · exact i30_ok
  · exact i31_ok
  · exact i32_ok)
theorem sx11 : (mkCx Try.prog (spOf [i25, i33, i34, i47, i48]) (inlOf [27]) extD).Ok InvD := cx_of [27] (by kernel_rfl) (by
  intro p hp
  simp only [List.mem_cons, List.not_mem_nil, or_false] at hp
  rcases hp with rfl | rfl | rfl | rfl | rfl
  · exact i25_ok
  · exact i33_ok
  · exact i34_ok
  · exact i47_ok
  · exact i48_ok)
def i10 : Ent := ⟨10, fun
  | [.int .i64 s, .int .i64 t, .int .i64 c, .int .i64 n] => .leaf (.ret (.tup [D4 (prK s t c n) (prN s t c n) (prD s t c n) (prR s t c n), .int .i64 (prE s t c n)]))
  | _ => .non⟩
theorem vti10 (s t c n : Int) : evFn Try.prog (spOf [i29, i30, i31, i32]) (inlOf []) extD (cKD [i29, i30, i31, i32] []) (fun _ => .unroll 0) Try.f10 [.int .i64 s, .int .i64 t, .int .i64 c, .int .i64 n] [] (fun r _ => some r) =
    (bif prB s t n then bif decide (c < 0) then RD false 0 0 0 2 else bif decide (c ≥ n) then RD false 0 0 0 2 else bif prB s t n then bif decide (c ≥ kcI s t n) then RD false 0 1 4 0 else bif inI n && inI (kcI s t n) then bif mkE n (kcI s t n) != 0 then RD false 0 0 0 (mkE n (kcI s t n)) else RD true (mkX n (kcI s t n)) (mkY n (kcI s t n)) 4 0 else none else none else RD false 0 0 0 2 : Option Res) := by kernel_rfl
theorem i10_ok : SpecHolds Try.prog InvD 10 fun a => (i10.2 a).run := by
  refine specD sx10 Try.func10 (c := codeOf Try.prog 10) (by kernel_rfl) (fun _ => .unroll 0) (fun _ _ => trivial) fun args r hh => ?_
  simp only [i10] at hh
  split at hh
  · rename_i s t c n
    refine ⟨by kernel_rfl, tr_ok (by rfl) hh, ?_⟩
    refine (vti10 s t c n).trans (Eq.trans ?_ hh)
    exact pr_prog s t c n
  · simp [Tr.run] at hh
def i11 : Ent := ⟨11, fun
  | [.int .i64 s, .int .i64 t, .int .i64 c, .int .i64 n] => .leaf (.ret (.tup [D4 (prK s t c n) (prN s t c n) (prD s t c n) (prR s t c n), .int .i64 (prE s t c n)]))
  | _ => .non⟩
theorem vti11 (s t c n : Int) : evFn Try.prog (spOf [i25, i33, i34, i47, i48]) (inlOf [27]) extD (cKD [i25, i33, i34, i47, i48] [27]) (fun _ => .unroll 0) Try.f11 [.int .i64 s, .int .i64 t, .int .i64 c, .int .i64 n] [] (fun r _ => some r) =
    (bif wiB s 0 1099511627776 then bif wiB t 1 1099511627776 && wiB n 1 1000 then bif wiB c 0 (IntKind.i64.wrap (n - 1)) then bif prB s t n then bif decide (c < kcI s t n) then bif inI n && inI (kcI s t n) then RD true (mkX n (kcI s t n)) (mkY n (kcI s t n)) 4 0 else none else RD false 0 1 4 0 else none else RD false 0 0 0 2 else RD false 0 0 0 2 else RD false 0 0 0 2 : Option Res) := by kernel_rfl
theorem i11_ok : SpecHolds Try.prog InvD 11 fun a => (i11.2 a).run := by
  refine specD sx11 Try.func11 (c := codeOf Try.prog 11) (by kernel_rfl) (fun _ => .unroll 0) (fun _ _ => trivial) fun args r hh => ?_
  simp only [i11] at hh
  split at hh
  · rename_i s t c n
    refine ⟨by kernel_rfl, tr_ok (by rfl) hh, ?_⟩
    refine (vti11 s t c n).trans (Eq.trans ?_ hh)
    exact pr_ref s t c n
  · simp [Tr.run] at hh
end Go.Proofs.Ytebiafgcnmnacaa

/- Counting in residues; sums of equal weights. No model. Conditions: in each statement. -/
namespace Go.Proofs.Ytebiafgcnmnacaa
open Go.Evl Go.RowKit

def tB (all part a : Int) : Int := if a % all < part then 1 else 0
def ctI (all part a : Int) : Nat → Int
  | 0 => 0
  | n + 1 => ctI all part a n + tB all part (a + n)
theorem tB_range (all part a : Int) : 0 ≤ tB all part a ∧ tB all part a ≤ 1 := by unfold tB; split <;> omega
theorem ctI_range (all part a : Int) (n : Nat) : 0 ≤ ctI all part a n ∧ ctI all part a n ≤ n := by
  induction n with
  | zero => simp [ctI]
  | succ n ih => have := tB_range all part (a + n); simp only [ctI]; omega
theorem ct_shift (all part a : Int) (n : Nat) : ctI all part (a + 1) n + tB all part a = ctI all part a n + tB all part (a + n) := by
  induction n with
  | zero => simp [ctI]
  | succ n ih =>
    simp only [ctI]
    have e : a + 1 + (n : Int) = a + ((n + 1 : Nat) : Int) := by omega
    rw [e]; omega
theorem ct_period {all part a : Int} (h : 0 < all) : ctI all part (a + 1) all.toNat = ctI all part a all.toNat := by
  have := ct_shift all part a all.toNat
  have e : tB all part (a + all.toNat) = tB all part a := by
    unfold tB
    have : (all.toNat : Int) = all := by omega
    rw [this, Int.add_emod_right]
  omega
theorem ct_base {all part : Int} (h0 : 0 ≤ part) : ∀ n : Nat, (n : Int) ≤ all → ctI all part 0 n = if (n : Int) ≤ part then (n : Int) else part := by
  intro n
  induction n with
  | zero => intro _; simp [ctI, h0]
  | succ n ih =>
    intro h
    simp only [ctI, ih (by omega), tB]
    rw [Int.zero_add, Int.emod_eq_of_lt (by omega) (by omega)]
    by_cases k : (n : Int) < part
    · rw [if_pos k, if_pos (by omega), if_pos (by omega)]; omega
    · rw [if_neg k]
      by_cases k2 : (n : Int) ≤ part
      · rw [if_pos k2, if_neg (by omega)]; omega
      · rw [if_neg k2, if_neg (by omega)]; omega
theorem ct_full {all part : Int} (h : 0 < all) (h0 : 0 ≤ part) (h1 : part ≤ all) : ∀ a : Nat, ctI all part a all.toNat = part := by
  intro a
  induction a with
  | zero =>
    have := ct_base (all := all) h0 all.toNat (by omega)
    rw [show ((0 : Nat) : Int) = 0 from rfl, this]
    split <;> omega
  | succ a ih =>
    have := ct_period (part := part) (a := (a : Int)) h
    rw [show ((a + 1 : Nat) : Int) = (a : Int) + 1 by omega, this, ih]

/-- c times the weight of a part of a whole -/
def sN (all part c : Int) : Int := if part = 0 then 0 else mkN (c * all) part
def sD (all part c : Int) : Int := if part = 0 then 1 else mkD (c * all) part
theorem fits_small {n m : Int} (hm : 0 < m) (h0 : 0 ≤ n) (h1 : n ≤ 1152921504606846976) (h2 : m ≤ 1152921504606846976) : mkFits n m = true := by
  obtain ⟨a0, a1⟩ := mkA_range (a := n) (show m ≠ 0 by omega)
  obtain ⟨d0, d1⟩ := mkD_range (a := n) (show m ≠ 0 by omega)
  have e1 : absI n = n := by rw [absI_eq]; omega
  have e2 : absI m = m := by rw [absI_eq]; omega
  unfold mkFits
  rw [Bool.and_eq_true, decide_eq_true_eq, decide_eq_true_eq]
  omega
theorem ok01 : okB 0 1 = true := by rw [okB_iff]; simp
/-- a fraction reduced stays -/
theorem mk_same {a b : Int} (h : okB a b = true) : mkN a b = a ∧ mkD a b = b ∧ mkFits a b = true := by
  obtain ⟨b1, b2, a1, a2, g⟩ := okB_iff.1 h
  obtain ⟨e1, e2⟩ := mk_unique (n := a) (m := b) (a := a) (b := b) (by omega) (by omega) g rfl
  refine ⟨e1, e2, ?_⟩
  unfold mkFits
  rw [mkA_of (by omega), e1, e2, absI_eq, Bool.and_eq_true, decide_eq_true_eq, decide_eq_true_eq]
  omega
theorem op_mk {n m : Int} (hf : mkFits n m = true) : opN true n m = mkN n m ∧ opD true n m = mkD n m ∧ opE true n m = 0 := by simp [opN, opD, opE, hf]
section
variable {all part c : Int} (ha : 1 ≤ all ∧ all ≤ 1000) (hp : 0 ≤ part ∧ part ≤ all) (hc : 0 ≤ c ∧ c ≤ 1000)
theorem s_prod (ha : 1 ≤ all ∧ all ≤ 1000) (hc : 0 ≤ c ∧ c ≤ 1000) : 0 ≤ c * all ∧ c * all ≤ 1000000 := by
  have h1 : 0 ≤ c * all := Int.mul_nonneg hc.1 (by omega)
  have h2 : c * all ≤ 1000 * 1000 := Int.mul_le_mul hc.2 ha.2 (by omega) (by omega)
  exact ⟨h1, by omega⟩
theorem s_ok (ha : 1 ≤ all ∧ all ≤ 1000) (hp : 0 ≤ part ∧ part ≤ all) (hc : 0 ≤ c ∧ c ≤ 1000) : okB (sN all part c) (sD all part c) = true := by
  unfold sN sD
  by_cases h : part = 0
  · rw [if_pos h, if_pos h]; exact ok01
  · rw [if_neg h, if_neg h]
    obtain ⟨q1, q2⟩ := s_prod ha hc
    exact mk_ok (by omega) (fits_small (by omega) (by omega) (by omega) (by omega))
/-- the weight of what is not kept adds nothing -/
theorem add_zero {a b : Int} (h : okB a b = true) : opN (okB a b && okB 0 1) (a * 1 + 0 * b) (b * 1) = a ∧ opD (okB a b && okB 0 1) (a * 1 + 0 * b) (b * 1) = b ∧ opE (okB a b && okB 0 1) (a * 1 + 0 * b) (b * 1) = 0 := by
  have e1 : a * 1 + 0 * b = a := by omega
  have e2 : b * 1 = b := by omega
  obtain ⟨m1, m2, m3⟩ := mk_same h
  rw [h, ok01, e1, e2, Bool.and_self]
  obtain ⟨o1, o2, o3⟩ := op_mk m3
  exact ⟨o1.trans m1, o2.trans m2, o3⟩
theorem add_weight (ha : 1 ≤ all ∧ all ≤ 1000) (hp : 1 ≤ part ∧ part ≤ all) (hc : 0 ≤ c ∧ c < 1000) :
    opN (okB (sN all part c) (sD all part c) && okB (mkN all part) (mkD all part)) (sN all part c * mkD all part + mkN all part * sD all part c) (sD all part c * mkD all part) = sN all part (c + 1) ∧
    opD (okB (sN all part c) (sD all part c) && okB (mkN all part) (mkD all part)) (sN all part c * mkD all part + mkN all part * sD all part c) (sD all part c * mkD all part) = sD all part (c + 1) ∧
    opE (okB (sN all part c) (sD all part c) && okB (mkN all part) (mkD all part)) (sN all part c * mkD all part + mkN all part * sD all part c) (sD all part c * mkD all part) = 0 := by
  have h1 : okB (sN all part c) (sD all part c) = true := s_ok ha ⟨by omega, hp.2⟩ ⟨by omega, by omega⟩
  have h2 : okB (mkN all part) (mkD all part) = true := mk_ok (by omega) (fits_small (by omega) (by omega) (by omega) (by omega))
  rw [h1, h2, Bool.and_self]
  have hp0 : part ≠ 0 := by omega
  have es : sN all part c = mkN (c * all) part ∧ sD all part c = mkD (c * all) part := by unfold sN sD; simp [hp0]
  have es' : sN all part (c + 1) = mkN ((c + 1) * all) part ∧ sD all part (c + 1) = mkD ((c + 1) * all) part := by unfold sN sD; simp [hp0]
  have v1 := mk_val (n := c * all) (m := part) (by omega)
  have v2 := mk_val (n := all) (m := part) (by omega)
  have p1 := mkD_pos (n := c * all) (m := part) (by omega)
  have p2 := mkD_pos (n := all) (m := part) (by omega)
  rw [es.1, es.2, es'.1, es'.2]
  generalize mkN (c * all) part = x at *
  generalize mkD (c * all) part = y at *
  generalize mkN all part = z at *
  generalize mkD all part = w at *
  have hm : 0 < y * w := Int.mul_pos p1 p2
  have hv : (x * w + z * y) * part = (c + 1) * all * (y * w) := by grind
  obtain ⟨q1, q2⟩ := s_prod ha (c := c + 1) ⟨by omega, by omega⟩
  obtain ⟨c1, c2⟩ := mk_congr hm (show 0 < part by omega) hv
  have hf : mkFits (x * w + z * y) (y * w) = true := by
    rw [mkFits_congr hm (show 0 < part by omega) hv]
    exact fits_small (by omega) (by omega) (by omega) (by omega)
  obtain ⟨o1, o2, o3⟩ := op_mk hf
  exact ⟨o1.trans c1, o2.trans c2, o3⟩
end
theorem s_full {all part : Int} (ha : 1 ≤ all) (hp : 1 ≤ part) : sN all part part = all ∧ sD all part part = 1 := by
  have hp0 : part ≠ 0 := by omega
  unfold sN sD
  rw [if_neg hp0, if_neg hp0]
  exact mk_unique (by omega) (by omega) (Nat.gcd_one_right _) (by rw [Int.mul_one, Int.mul_comm])
end Go.Proofs.Ytebiafgcnmnacaa

/- Fractions reduced: sums, differences, products by their values. No model. Conditions: in each statement. -/
namespace Go.Proofs.Ytebiafgcnmnacaa
open Go.Evl Go.RowKit

abbrev F2 : Type := Int × Int
def red (P Q : Int) : F2 := (mkN P Q, mkD P Q)
def opF (k : Bool) (n m : Int) : F2 := (opN k n m, opD k n m)
def aF (p q : F2) : F2 := opF (okB p.1 p.2 && okB q.1 q.2) (p.1 * q.2 + q.1 * p.2) (p.2 * q.2)
def aE (p q : F2) : Int := opE (okB p.1 p.2 && okB q.1 q.2) (p.1 * q.2 + q.1 * p.2) (p.2 * q.2)
def sF (p q : F2) : F2 := opF (okB p.1 p.2 && okB q.1 q.2) (p.1 * q.2 - q.1 * p.2) (p.2 * q.2)
def sE (p q : F2) : Int := opE (okB p.1 p.2 && okB q.1 q.2) (p.1 * q.2 - q.1 * p.2) (p.2 * q.2)
def mF (p q : F2) : F2 := opF (okB p.1 p.2 && okB q.1 q.2) (p.1 * q.1) (p.2 * q.2)
def mE (p q : F2) : Int := opE (okB p.1 p.2 && okB q.1 q.2) (p.1 * q.1) (p.2 * q.2)
theorem fits_abs {n m : Int} (hm : 0 < m) (h0 : -1152921504606846976 ≤ n) (h1 : n ≤ 1152921504606846976) (h2 : m ≤ 1152921504606846976) : mkFits n m = true := by
  obtain ⟨a0, a1⟩ := mkA_range (a := n) (show m ≠ 0 by omega)
  obtain ⟨d0, d1⟩ := mkD_range (a := n) (show m ≠ 0 by omega)
  have e1 : absI n ≤ 1152921504606846976 := by rw [absI_eq]; omega
  have e2 : absI m = m := by rw [absI_eq]; omega
  unfold mkFits
  rw [Bool.and_eq_true, decide_eq_true_eq, decide_eq_true_eq]
  omega
/-- a fraction of two numbers that are not too great -/
structure Fit (P Q : Int) : Prop where
  p : 0 < Q
  f : mkFits P Q = true
theorem Fit.ok {P Q : Int} (h : Fit P Q) : okB (red P Q).1 (red P Q).2 = true := mk_ok h.p h.f
theorem red_one (s : Int) (h0 : -1152921504606846976 ≤ s) (h1 : s ≤ 1152921504606846976) : red s 1 = (s, 1) ∧ Fit s 1 := by
  have hf : mkFits s 1 = true := fits_abs (by omega) h0 h1 (by omega)
  refine ⟨?_, by omega, hf⟩
  obtain ⟨e1, e2⟩ := mk_unique (n := s) (m := 1) (a := s) (b := 1) (by omega) (by omega) (Nat.gcd_one_right _) rfl
  unfold red; rw [e1, e2]
theorem op_red {n m P Q : Int} (hm : 0 < m) (h : Fit P Q) (hv : n * Q = P * m) : opF true n m = red P Q ∧ opE true n m = 0 := by
  obtain ⟨c1, c2⟩ := mk_congr hm h.p hv
  have hf : mkFits n m = true := by rw [mkFits_congr hm h.p hv]; exact h.f
  obtain ⟨o1, o2, o3⟩ := op_mk hf
  refine ⟨?_, o3⟩
  unfold opF red
  rw [o1, o2, c1, c2]
section
variable {P Q P' Q' R S : Int}
theorem a_red (h : Fit P Q) (h' : Fit P' Q') (h'' : Fit R S) (hv : (P * Q' + P' * Q) * S = R * (Q * Q')) : aF (red P Q) (red P' Q') = red R S ∧ aE (red P Q) (red P' Q') = 0 := by
  unfold aF aE
  rw [h.ok, h'.ok, Bool.and_self]
  have v1 := mk_val (n := P) (m := Q) h.p
  have v2 := mk_val (n := P') (m := Q') h'.p
  have p1 := mkD_pos (n := P) (m := Q) h.p
  have p2 := mkD_pos (n := P') (m := Q') h'.p
  have q1 := h.p
  have q2 := h'.p
  refine op_red (Int.mul_pos p1 p2) h'' ?_
  simp only [red]
  generalize mkN P Q = n at *
  generalize mkD P Q = d at *
  generalize mkN P' Q' = n' at *
  generalize mkD P' Q' = d' at *
  refine Int.eq_of_mul_eq_mul_right (show Q * Q' ≠ 0 from Int.ne_of_gt (Int.mul_pos q1 q2)) ?_
  grind
theorem s_red (h : Fit P Q) (h' : Fit P' Q') (h'' : Fit R S) (hv : (P * Q' - P' * Q) * S = R * (Q * Q')) : sF (red P Q) (red P' Q') = red R S ∧ sE (red P Q) (red P' Q') = 0 := by
  unfold sF sE
  rw [h.ok, h'.ok, Bool.and_self]
  have v1 := mk_val (n := P) (m := Q) h.p
  have v2 := mk_val (n := P') (m := Q') h'.p
  have p1 := mkD_pos (n := P) (m := Q) h.p
  have p2 := mkD_pos (n := P') (m := Q') h'.p
  have q1 := h.p
  have q2 := h'.p
  refine op_red (Int.mul_pos p1 p2) h'' ?_
  simp only [red]
  generalize mkN P Q = n at *
  generalize mkD P Q = d at *
  generalize mkN P' Q' = n' at *
  generalize mkD P' Q' = d' at *
  refine Int.eq_of_mul_eq_mul_right (show Q * Q' ≠ 0 from Int.ne_of_gt (Int.mul_pos q1 q2)) ?_
  grind
theorem m_red (h : Fit P Q) (h' : Fit P' Q') (h'' : Fit R S) (hv : P * P' * S = R * (Q * Q')) : mF (red P Q) (red P' Q') = red R S ∧ mE (red P Q) (red P' Q') = 0 := by
  unfold mF mE
  rw [h.ok, h'.ok, Bool.and_self]
  have v1 := mk_val (n := P) (m := Q) h.p
  have v2 := mk_val (n := P') (m := Q') h'.p
  have p1 := mkD_pos (n := P) (m := Q) h.p
  have p2 := mkD_pos (n := P') (m := Q') h'.p
  have q1 := h.p
  have q2 := h'.p
  refine op_red (Int.mul_pos p1 p2) h'' ?_
  simp only [red]
  generalize mkN P Q = n at *
  generalize mkD P Q = d at *
  generalize mkN P' Q' = n' at *
  generalize mkD P' Q' = d' at *
  refine Int.eq_of_mul_eq_mul_right (show Q * Q' ≠ 0 from Int.ne_of_gt (Int.mul_pos q1 q2)) ?_
  grind
/-- the same value is the same fraction -/
theorem red_same (h : Fit P Q) (h' : Fit R S) (hv : P * S = R * Q) : red P Q = red R S := by
  obtain ⟨c1, c2⟩ := mk_congr h.p h'.p hv
  unfold red; rw [c1, c2]
end
end Go.Proofs.Ytebiafgcnmnacaa

/- Variance, of one size and of two: contracts. Conditions: none beyond the context's. -/
namespace Go.Proofs.Ytebiafgcnmnacaa
open Go.Evl Go.RowKit

def gd5 (s t n : Int) : Bool := decide (1 ≤ n ∧ n ≤ 40 ∧ 1 ≤ s ∧ s ≤ 1048576 ∧ 1 ≤ t ∧ t ≤ 1099511627776)
def mk1 (x0 : Int) (r : Nat → List AV) : Nat → List AV
  | 0 => [.int .i64 x0]
  | n + 1 => r n
def mk2 (x0 x1 : Int) (r : Nat → List AV) : Nat → List AV
  | 0 => [.int .i64 x0]
  | 1 => [.int .i64 x1]
  | n + 2 => r n
theorem mk1_eq {el : Nat → List AV} {x : Int} (h : el 0 = [.int .i64 x]) : el = mk1 x fun n => el (n + 1) := by
  funext n
  match n with
  | 0 => exact h
  | n + 1 => rfl
theorem mk2_eq {el : Nat → List AV} {x y : Int} (h : el 0 = [.int .i64 x]) (h1 : el 1 = [.int .i64 y]) : el = mk2 x y fun n => el (n + 2) := by
  funext n
  match n with
  | 0 => exact h
  | 1 => exact h1
  | n + 2 => rfl
/-- the variance of one size: its numerator before it is reduced -/
def vaN (s t n : Int) : Int := s * s * (n - kcI s t n)
def v2N (s u t n : Int) : Int := vaN s t n * kcI u t n + vaN u t n * kcI s t n
def i17 : Ent := ⟨17, fun
  | [.isl 1 1 el, .int .i64 t, .int .i64 n] => match el 0 with
    | [.int .i64 s] => .chk (gd5 s t n) (.leaf (.ret (.tup [.agg [.int .i64 (mkN (vaN s t n) (kcI s t n)), .int .i64 (mkD (vaN s t n) (kcI s t n))], .int .i64 0])))
    | _ => .non
  | [.isl 2 1 el, .int .i64 t, .int .i64 n] => match el 0, el 1 with
    | [.int .i64 s], [.int .i64 u] => .chk (gd5 s t n && gd5 u t n) (.leaf (.ret (.tup [.agg [.int .i64 (mkN (v2N s u t n) (kcI s t n * kcI u t n)), .int .i64 (mkD (v2N s u t n) (kcI s t n * kcI u t n))], .int .i64 0])))
    | _, _ => .non
  | _ => .non⟩
abbrev RQ (x y e : Int) : Option Res := some (.ret (.tup [.agg [.int .i64 x, .int .i64 y], .int .i64 e]))
def vaW (s t n : Int) : Int := IntKind.i64.wrap (IntKind.i64.wrap (s * s) * IntKind.i64.wrap (n - kcI s t n))
/-- one size more -/
def vaT (s t n : Int) (p : F2) (k : F2 → Option Res) : Option Res :=
  bif s == 0 then k p else bif prB s t n then bif inI (vaW s t n) && inI (kcI s t n) then bif mkE (vaW s t n) (kcI s t n) != 0 then RQ 0 0 (mkE (vaW s t n) (kcI s t n))
    else bif aE p (mkX (vaW s t n) (kcI s t n), mkY (vaW s t n) (kcI s t n)) != 0 then RQ 0 0 (aE p (mkX (vaW s t n) (kcI s t n), mkY (vaW s t n) (kcI s t n))) else k (aF p (mkX (vaW s t n) (kcI s t n), mkY (vaW s t n) (kcI s t n)))
    else none else none
theorem sx17 : (mkCx Try.prog (spOf [i29, i30, i31, i32, e20m]) (inlOf []) extD).Ok InvD := cx_of [] (by kernel_rfl) (by
  intro p hp
  simp only [List.mem_cons, List.not_mem_nil, or_false] at hp
  rcases hp with rfl | rfl | rfl | rfl | rfl
  · exact i29_ok
  · exact i30_ok
  · exact i31_ok
  · exact i32_ok
  · exact e20m_ok)
theorem vt17a (s t n : Int) (r : Nat → List AV) : evFn Try.prog (spOf [i29, i30, i31, i32, e20m]) (inlOf []) extD (cKD [i29, i30, i31, i32, e20m] []) (fun _ => .unroll 3) Try.f17 [.isl 1 1 (mk1 s r), .int .i64 t, .int .i64 n] [] (fun r _ => some r) =
    (bif prB 0 t n then bif prB s t n then bif decide (s > 1048576) then RQ 0 0 1 else vaT s t n (0, 1) fun p => RQ p.1 p.2 0 else RQ 0 0 2 else RQ 0 0 2 : Option Res) := by kernel_rfl
theorem vt17b (s u t n : Int) (r : Nat → List AV) : evFn Try.prog (spOf [i29, i30, i31, i32, e20m]) (inlOf []) extD (cKD [i29, i30, i31, i32, e20m] []) (fun _ => .unroll 3) Try.f17 [.isl 2 1 (mk2 s u r), .int .i64 t, .int .i64 n] [] (fun r _ => some r) =
    (bif prB 0 t n then bif prB s t n then bif decide (s > 1048576) then RQ 0 0 1 else bif prB u t n then bif decide (u > 1048576) then RQ 0 0 1 else vaT s t n (0, 1) fun p => vaT u t n p fun p => RQ p.1 p.2 0 else RQ 0 0 2 else RQ 0 0 2 else RQ 0 0 2 : Option Res) := by kernel_rfl
theorem gd5_iff {s t n : Int} : gd5 s t n = true ↔ 1 ≤ n ∧ n ≤ 40 ∧ 1 ≤ s ∧ s ≤ 1048576 ∧ 1 ≤ t ∧ t ≤ 1099511627776 := by simp only [gd5, decide_eq_true_eq]
theorem gd5_pr {s t n : Int} (h : gd5 s t n = true) : prB s t n = true ∧ prB 0 t n = true := by
  have := gd5_iff.1 h
  exact ⟨prB_iff.2 (by omega), prB_iff.2 (by omega)⟩
theorem kc_pos {s t n : Int} (h : gd5 s t n = true) : 1 ≤ kcI s t n ∧ kcI s t n ≤ n := by
  have hg := gd5_iff.1 h
  obtain ⟨hp, _⟩ := gd5_pr h
  have h1 := (kcI_lt (k := 0) hp).2 ⟨by omega, by rw [Int.zero_mul]; exact Int.mul_pos (by omega) (by omega)⟩
  exact ⟨by omega, (kcI_range hp).2⟩
theorem va_range {s t n : Int} (h : gd5 s t n = true) : 0 ≤ vaN s t n ∧ vaN s t n ≤ 43980465111040 ∧ vaW s t n = vaN s t n := by
  have hg := gd5_iff.1 h
  obtain ⟨k1, k2⟩ := kc_pos h
  have p1 : 0 ≤ s * s := Int.mul_nonneg (by omega) (by omega)
  have p2 : s * s ≤ 1048576 * 1048576 := Int.mul_le_mul (by omega) (by omega) (by omega) (by omega)
  have p3 : 0 ≤ s * s * (n - kcI s t n) := Int.mul_nonneg p1 (by omega)
  have p4 : s * s * (n - kcI s t n) ≤ 1048576 * 1048576 * 40 := Int.mul_le_mul p2 (by omega) (by omega) (by omega)
  refine ⟨p3, by unfold vaN; omega, ?_⟩
  unfold vaW vaN
  rw [wrapI (x := s * s) (by omega) (by omega), wrapI (x := n - kcI s t n) (by omega) (by omega), wrapI (by omega) (by omega)]
theorem va_fit {s t n : Int} (h : gd5 s t n = true) : Fit (vaN s t n) (kcI s t n) := by
  obtain ⟨v1, v2, _⟩ := va_range h
  obtain ⟨k1, k2⟩ := kc_pos h
  have hg := gd5_iff.1 h
  exact ⟨by omega, fits_abs (by omega) (by omega) (by omega) (by omega)⟩
theorem fit01 : Fit 0 1 ∧ red 0 1 = (0, 1) := by
  obtain ⟨e, f⟩ := red_one 0 (by omega) (by omega)
  exact ⟨f, e⟩
theorem vaT_eq {s t n : Int} (h : gd5 s t n = true) {P Q R S : Int} (hp : Fit P Q) (hr : Fit R S) (hv : (P * kcI s t n + vaN s t n * Q) * S = R * (Q * kcI s t n)) (k : F2 → Option Res) : vaT s t n (red P Q) k = k (red R S) := by
  obtain ⟨v1, v2, vw⟩ := va_range h
  obtain ⟨k1, k2⟩ := kc_pos h
  have hg := gd5_iff.1 h
  have hf := va_fit h
  have he : mkE (vaN s t n) (kcI s t n) = 0 := by simp [mkE, hf.f]; omega
  have ex : (mkX (vaN s t n) (kcI s t n), mkY (vaN s t n) (kcI s t n)) = red (vaN s t n) (kcI s t n) := by simp [mkX, mkY, he, red]
  obtain ⟨a1, a2⟩ := a_red hp hf hr hv
  unfold vaT
  rw [vw, ex, he, a1, a2, (gd5_pr h).1, inI_of (by omega) (by omega), inI_of (by omega) (by omega), show (s == 0) = false from beq_false_of_ne (by omega)]
  rfl
theorem v2_fit {s u t n : Int} (h : gd5 s t n = true) (h' : gd5 u t n = true) : Fit (v2N s u t n) (kcI s t n * kcI u t n) := by
  obtain ⟨v1, v2, _⟩ := va_range h
  obtain ⟨k1, k2⟩ := kc_pos h
  obtain ⟨w1, w2, _⟩ := va_range h'
  obtain ⟨l1, l2⟩ := kc_pos h'
  have hg := gd5_iff.1 h
  have p0 : 0 < kcI s t n * kcI u t n := Int.mul_pos (by omega) (by omega)
  have p1 : kcI s t n * kcI u t n ≤ 40 * 40 := Int.mul_le_mul (by omega) (by omega) (by omega) (by omega)
  have p2 : 0 ≤ vaN s t n * kcI u t n := Int.mul_nonneg v1 (by omega)
  have p3 : vaN s t n * kcI u t n ≤ 43980465111040 * 40 := Int.mul_le_mul (by omega) (by omega) (by omega) (by omega)
  have p4 : 0 ≤ vaN u t n * kcI s t n := Int.mul_nonneg w1 (by omega)
  have p5 : vaN u t n * kcI s t n ≤ 43980465111040 * 40 := Int.mul_le_mul (by omega) (by omega) (by omega) (by omega)
  exact ⟨p0, fits_abs (by omega) (by unfold v2N; omega) (by unfold v2N; omega) (by omega)⟩
theorem i17_ok : SpecHolds Try.prog InvD 17 fun a => (i17.2 a).run := by
  refine specD sx17 Try.func17 (c := codeOf Try.prog 17) (by kernel_rfl) (fun _ => .unroll 3) (fun _ _ => trivial) fun args r hh => ?_
  simp only [i17] at hh
  split at hh
  · rename_i el t n
    split at hh
    · rename_i s hs
      obtain ⟨hg, hh⟩ := chk_run hh
      refine ⟨by kernel_rfl, tr_ok (by rfl) hh, ?_⟩
      rw [mk1_eq hs]
      refine (vt17a s t n _).trans (Eq.trans ?_ hh)
      have hg' := gd5_iff.1 hg
      rw [(gd5_pr hg).1, (gd5_pr hg).2, decide_eq_false (show ¬ s > 1048576 by omega), ← fit01.2, vaT_eq hg fit01.1 (va_fit hg) (by grind)]
      rfl
    · simp [Tr.run] at hh
  · rename_i el t n
    split at hh
    · rename_i s u hs hu
      obtain ⟨hg, hh⟩ := chk_run hh
      rw [Bool.and_eq_true] at hg
      refine ⟨by kernel_rfl, tr_ok (by rfl) hh, ?_⟩
      rw [mk2_eq hs hu]
      refine (vt17b s u t n _).trans (Eq.trans ?_ hh)
      have hg' := gd5_iff.1 hg.1
      have hg2 := gd5_iff.1 hg.2
      rw [(gd5_pr hg.1).1, (gd5_pr hg.1).2, (gd5_pr hg.2).1, decide_eq_false (show ¬ s > 1048576 by omega), decide_eq_false (show ¬ u > 1048576 by omega), ← fit01.2, vaT_eq hg.1 fit01.1 (va_fit hg.1) (by grind),
        vaT_eq hg.2 (va_fit hg.1) (v2_fit hg.1 hg.2) (by unfold v2N; grind)]
      rfl
    · simp [Tr.run] at hh
  · simp [Tr.run] at hh
end Go.Proofs.Ytebiafgcnmnacaa

/- Estimate of two weighted numbers: a contract. Conditions: none beyond the context's. -/
namespace Go.Proofs.Ytebiafgcnmnacaa
open Go.Evl Go.RowKit

def mw2 (k1 v1 n1 d1 k2 v2 n2 d2 : Int) (r : Nat → List AV) : Nat → List AV
  | 0 => [.int .i64 k1, .int .i64 v1, .int .i64 n1, .int .i64 d1]
  | 1 => [.int .i64 k2, .int .i64 v2, .int .i64 n2, .int .i64 d2]
  | n + 2 => r n
theorem mw2_eq {el : Nat → List AV} {k1 v1 n1 d1 k2 v2 n2 d2 : Int} (h : el 0 = [.int .i64 k1, .int .i64 v1, .int .i64 n1, .int .i64 d1]) (h1 : el 1 = [.int .i64 k2, .int .i64 v2, .int .i64 n2, .int .i64 d2]) : el = mw2 k1 v1 n1 d1 k2 v2 n2 d2 fun n => el (n + 2) := by
  funext n
  match n with
  | 0 => exact h
  | 1 => exact h1
  | n + 2 => rfl
def esG (p : F2) (v n d : Int) : Bool := wiB v (-1099511627776) 1099511627776 && (okB n d && (decide (0 ≤ n) && (mE (v, 1) (n, d) == 0 && aE p (mF (v, 1) (n, d)) == 0)))
def esF (p : F2) (v n d : Int) : F2 := aF p (mF (v, 1) (n, d))
def i18 : Ent := ⟨18, fun
  | [.isl 2 4 el] => match el 0, el 1 with
    | [.int .i64 _, .int .i64 v1, .int .i64 n1, .int .i64 d1], [.int .i64 _, .int .i64 v2, .int .i64 n2, .int .i64 d2] =>
      .chk (esG (0, 1) v1 n1 d1 && esG (esF (0, 1) v1 n1 d1) v2 n2 d2) (.leaf (.ret (.tup [.agg [.int .i64 (esF (esF (0, 1) v1 n1 d1) v2 n2 d2).1, .int .i64 (esF (esF (0, 1) v1 n1 d1) v2 n2 d2).2], .int .i64 0])))
    | _, _ => .non
  | _ => .non⟩
def esT (p : F2) (v n d : Int) (k : F2 → Option Res) : Option Res :=
  bif decide (v < -1099511627776) then RQ 0 0 2 else bif decide (v > 1099511627776) then RQ 0 0 2 else bif ckI n d != 0 then RQ 0 0 1 else bif decide (n < 0) then RQ 0 0 1
  else bif mE (v, 1) (n, d) != 0 then RQ 0 0 (mE (v, 1) (n, d)) else bif aE p (mF (v, 1) (n, d)) != 0 then RQ 0 0 (aE p (mF (v, 1) (n, d))) else k (esF p v n d)
theorem sx18 : (mkCx Try.prog (spOf [e13m, i31, e21m, e20m]) (inlOf []) extD).Ok InvD := cx_of [] (by kernel_rfl) (by
  intro p hp
  simp only [List.mem_cons, List.not_mem_nil, or_false] at hp
  rcases hp with rfl | rfl | rfl | rfl
  · exact e13m_ok
  · exact i31_ok
  · exact e21m_ok
  · exact e20m_ok)
theorem vt18 (k1 v1 n1 d1 k2 v2 n2 d2 : Int) (r : Nat → List AV) : evFn Try.prog (spOf [e13m, i31, e21m, e20m]) (inlOf []) extD (cKD [e13m, i31, e21m, e20m] []) (fun _ => .unroll 3) Try.f18 [.isl 2 4 (mw2 k1 v1 n1 d1 k2 v2 n2 d2 r)] [] (fun r _ => some r) =
    esT (0, 1) v1 n1 d1 fun p => esT p v2 n2 d2 fun p => RQ p.1 p.2 0 := by kernel_rfl
theorem esT_eq {p : F2} {v n d : Int} (h : esG p v n d = true) (k : F2 → Option Res) : esT p v n d k = k (esF p v n d) := by
  simp only [esG, Bool.and_eq_true, decide_eq_true_eq, beq_iff_eq] at h
  obtain ⟨h1, h2, h3, h4, h5⟩ := h
  rw [wiB_iff] at h1
  unfold esT
  rw [decide_eq_false (show ¬ v < -1099511627776 by omega), decide_eq_false (show ¬ v > 1099511627776 by omega), ckI_ne, h2, decide_eq_false (show ¬ n < 0 by omega), h4, h5]
  rfl
theorem i18_ok : SpecHolds Try.prog InvD 18 fun a => (i18.2 a).run := by
  refine specD sx18 Try.func18 (c := codeOf Try.prog 18) (by kernel_rfl) (fun _ => .unroll 3) (fun _ _ => trivial) fun args r hh => ?_
  simp only [i18] at hh
  split at hh
  · rename_i el
    split at hh
    · rename_i k1 v1 n1 d1 k2 v2 n2 d2 h0 h1
      obtain ⟨hg, hh⟩ := chk_run hh
      rw [Bool.and_eq_true] at hg
      refine ⟨by kernel_rfl, tr_ok (by rfl) hh, ?_⟩
      rw [mw2_eq h0 h1]
      refine (vt18 k1 v1 n1 d1 k2 v2 n2 d2 _).trans (Eq.trans ?_ hh)
      rw [esT_eq hg.1, esT_eq hg.2]
      rfl
    · simp [Tr.run] at hh
  · simp [Tr.run] at hh
end Go.Proofs.Ytebiafgcnmnacaa

/- awake, by its run. No condition. -/
namespace Go.Proofs.Ytebiafgcnmnacaa
open Go.Evl Go.RowKit

def slI : List FuncId := [8,10,13,17,22,23,29,30,31,32,42,43,44,52,53,54,57,59,61,66,67,68,69,70,71,72,74,77,78,80,81]
def ilI : List FuncId := [49,50,51,58,60,64]
noncomputable def spI (n : Nat) : Sp := autoSp Try.prog [] slI ilI extD attD uD n
theorem spI_ok (n : Nat) : (mkCx Try.prog (spI n) (inlOf ilI) extD).Ok InvD :=
  autoSp_ok attD_ok (by kernel_rfl) extD_ok (fun p hp => by cases hp) stableD mixedD n

theorem awake_run : (callK Try.prog (spI 8) (inlOf ilI) extD attD uD 40 12 [] [] fun r _ => .chk (okRes r) (.leaf r)).run = some (.ret (.bool true)) := by kernel_rfl
def iAw : Ent := ⟨12, fun
  | [] => .leaf (.ret (.bool true))
  | _ => .non⟩
theorem iAw_ok : SpecHolds Try.prog InvD 12 fun a => (iAw.2 a).run := by
  intro args r h
  simp only [iAw] at h
  split at h
  · simp only [Tr.run, Option.some.injEq] at h
    subst h
    exact auto_spec (u := uD) attD_ok (spI_ok 8) stableD mixedD 40 12 [] (.ret (.bool true)) awake_run
  · simp [Tr.run] at h
end Go.Proofs.Ytebiafgcnmnacaa

/- What the sampling rows' readings give: the arguments' forms. Conditions: the rows' own. -/
namespace Go.Proofs.Ytebiafgcnmnacaa
open Go.ChangeShapes Go.WideShapes Go.ChangeAt Go.RowKit Go.Joins Go.Evl

theorem own : ownKnob Try.prog.godebug = none := by kernel_rfl
theorem laidOut : laidOutB Try.prog = true := by kernel_rfl
def inU8 (a : Int) : Bool := decide (0 ≤ a ∧ a < 256)
section
variable {H : Type} {enc : TypeId × Value → H} {w : World} {base b0 : Nat} {spare : Nat → Bool} {held : Bool} {rc : Reach} {v : Value} {d : DataW H} {p : List MemPlace}
set_option maxRecDepth 100000 in
theorem int_form (hv : Value.okWide Try.prog w rc b0 3 v) (h : DataW.Trod enc Try.prog w base spare held 3 v d p) : ∃ a, v = .int .i64 a ∧ inI a = true := by
  obtain ⟨a, rfl, _, _, wa⟩ := open_int Try.underlying3 hv h
  refine ⟨a, rfl, ?_⟩
  simp only [Lit.wf, Bool.and_eq_true, decide_eq_true_eq] at wa
  simp only [inI, decide_eq_true_eq]
  have e1 : IntKind.i64.min = -9223372036854775808 := rfl
  have e2 : IntKind.i64.max = 9223372036854775807 := rfl
  omega
set_option maxRecDepth 100000 in
theorem u8_form (hv : Value.okWide Try.prog w rc b0 5 v) (h : DataW.Trod enc Try.prog w base spare held 5 v d p) : ∃ a, v = .int .u8 a ∧ inU8 a = true := by
  obtain ⟨a, rfl, _, _, wa⟩ := open_int Try.underlying5 hv h
  refine ⟨a, rfl, ?_⟩
  simp only [Lit.wf, Bool.and_eq_true, decide_eq_true_eq] at wa
  simp only [inU8, decide_eq_true_eq]
  have e1 : IntKind.u8.min = 0 := rfl
  have e2 : IntKind.u8.max = 255 := rfl
  omega
theorem below_trod {W W' : World} {t : TypeId} {v : Value} {d : DataW H} {ps : List MemPlace} (hr : Try.prog.readableRec t = true) (hrow : t < Try.prog.types.size) (h : DataW.Trod enc Try.prog W 0 (fun _ => true) true t v d ps) (hb : Below W.heap.size W W') (hlt : ∀ x ∈ ps, x.block < W.heap.size) :
    DataW.Trod enc Try.prog W' 0 (fun b => decide (b < W.heap.size)) true t v d ps := Below.trod laidOut hr hrow h hb hlt
end
end Go.Proofs.Ytebiafgcnmnacaa
