/- SamplingCombine returns true for every input, and its arguments read as they did. No condition. -/
import Derived.Test.YtebiafgcnmnacaaVCore6
/- Decisions: valid ones. Conditions: none beyond the context's. -/
namespace Go.Proofs.Ytebiafgcnmnacaa
open Go.Evl Go.RowKit
/-- is a decision valid? -/
def vdB (k : Bool) (a b r : Int) : Bool := wiB r 1 5 && (okB a b && (if k then decide (b ≤ a) else decide (a = 0 ∧ b = 1)))
def i45 : Ent := ⟨45, fun
  | [.agg [.bool k, .int .i64 a, .int .i64 b, .int .i64 r]] => .leaf (.ret (.bool (vdB k a b r)))
  | _ => .non⟩
def i46 : Ent := ⟨46, fun
  | [.agg [.bool k, .int .i64 a, .int .i64 b, .int .i64 r]] => .leaf (.ret (.bool (vdB k a b r)))
  | _ => .non⟩
/-- the decision of two stages -/
def cbV (k : Bool) (a b r : Int) (l : Bool) (c d s : Int) : Bool := vdB k a b r && vdB l c d s
def cbE (k : Bool) (a b r : Int) (l : Bool) (c d s : Int) : Int := if cbV k a b r l c d s then (if k && l then mE (a, b) (c, d) else 0) else 1
def cbK (k : Bool) (a b r : Int) (l : Bool) (c d s : Int) : Bool := cbV k a b r l c d s && (k && (l && (mE (a, b) (c, d) == 0)))
def cbN (k : Bool) (a b r : Int) (l : Bool) (c d s : Int) : Int := if cbV k a b r l c d s && (k && l) then (mF (a, b) (c, d)).1 else 0
def cbD (k : Bool) (a b r : Int) (l : Bool) (c d s : Int) : Int := if cbV k a b r l c d s then (if k && l then (mF (a, b) (c, d)).2 else 1) else 0
def cbR (k : Bool) (a b r : Int) (l : Bool) (c d s : Int) : Int := if cbV k a b r l c d s then (if k then (if l && mE (a, b) (c, d) != 0 then 0 else s) else r) else 0
def cbT (k : Bool) (a b r : Int) (l : Bool) (c d s : Int) : Tr Res := .leaf (.ret (.tup [D4 (cbK k a b r l c d s) (cbN k a b r l c d s) (cbD k a b r l c d s) (cbR k a b r l c d s), .int .i64 (cbE k a b r l c d s)]))
def i19 : Ent := ⟨19, fun
  | [.agg [.bool k, .int .i64 a, .int .i64 b, .int .i64 r], .agg [.bool l, .int .i64 c, .int .i64 d, .int .i64 s]] => cbT k a b r l c d s
  | _ => .non⟩
def i20 : Ent := ⟨20, fun
  | [.agg [.bool k, .int .i64 a, .int .i64 b, .int .i64 r], .agg [.bool l, .int .i64 c, .int .i64 d, .int .i64 s]] => cbT k a b r l c d s
  | _ => .non⟩
theorem vd_prog (k : Bool) (a b r : Int) : (bif decide (r < 1) then RB false else bif decide (r > 5) then RB false else bif ckI a b != 0 then RB false else bif k then bif decide (cmpR a b 1 1 ≥ 0) then RB true else RB false else bif a == 0 && (b == 1 && true) then RB true else RB false : Option Res) = RB (vdB k a b r) := by
  unfold vdB wiB
  by_cases h1 : r < 1
  · rw [decide_eq_true h1, decide_eq_false (show ¬ (1 : Int) ≤ r by omega)]; rfl
  by_cases h2 : r > 5
  · rw [decide_eq_false h1, decide_eq_true h2, decide_eq_false (show ¬ r ≤ 5 by omega), Bool.and_false]; rfl
  rw [decide_eq_false h1, decide_eq_false h2, decide_eq_true (show (1 : Int) ≤ r by omega), decide_eq_true (show r ≤ 5 by omega)]
  cases ho : okB a b with
  | false => simp [ckI, ho]
  | true =>
    have hck : (ckI a b != 0) = false := by simp [ckI, ho]
    rw [hck]
    cases k with
    | true =>
      have hc : decide (cmpR a b 1 1 ≥ 0) = decide (b ≤ a) := by
        have h11 : okB 1 1 = true := by rfl
        simp only [cmpR, ho, h11, Bool.and_self, if_true, cmpI]
        by_cases c1 : a * 1 < 1 * b
        · rw [if_pos c1, decide_eq_false (by omega), decide_eq_false (by omega)]
        · rw [if_neg c1]
          split
          · rw [decide_eq_true (by omega), decide_eq_true (by omega)]
          · rw [decide_eq_true (by omega), decide_eq_true (by omega)]
      rw [hc]
      simp only [cond_false, cond_true, Bool.true_and, if_true]
      cases decide (b ≤ a) <;> rfl
    | false =>
      simp only [cond_false, Bool.true_and, Bool.and_true, Bool.false_eq_true, if_false]
      rw [show decide (a = 0 ∧ b = 1) = (a == 0 && b == 1) from by rw [Bool.eq_iff_iff]; simp]
      cases (a == 0 && b == 1) <;> rfl
theorem vd_ref (k : Bool) (a b r : Int) : (bif wiB r 1 5 then bif ckI a b != 0 then RB false else bif k then bif decide (a ≥ b) then RB true else RB false else bif a == 0 && (b == 1 && true) then RB true else RB false else RB false : Option Res) = RB (vdB k a b r) := by
  unfold vdB
  cases wiB r 1 5 with
  | false => rfl
  | true =>
    cases ho : okB a b with
    | false => simp [ckI, ho]
    | true =>
      have hck : (ckI a b != 0) = false := by simp [ckI, ho]
      rw [hck]
      cases k with
      | true =>
        simp only [cond_false, cond_true, Bool.true_and, if_true, ge_iff_le]
        cases decide (b ≤ a) <;> rfl
      | false =>
        simp only [cond_false, cond_true, Bool.true_and, Bool.and_true, Bool.false_eq_true, if_false]
        rw [show decide (a = 0 ∧ b = 1) = (a == 0 && b == 1) from by rw [Bool.eq_iff_iff]; simp]
        cases (a == 0 && b == 1) <;> rfl
theorem sx45 : (mkCx Try.prog (spOf [e13m, i31, e26m]) (inlOf []) extD).Ok InvD := cx_of [] (by kernel_rfl) (by
  intro p hp
  simp only [List.mem_cons, List.not_mem_nil, or_false] at hp
  rcases hp with rfl | rfl | rfl
  · exact e13m_ok
  · exact i31_ok
  · exact e26m_ok)
theorem sx46 : (mkCx Try.prog (spOf [e14m, i25, i47]) (inlOf []) extD).Ok InvD := cx_of [] (by kernel_rfl) (by
  intro p hp
  simp only [List.mem_cons, List.not_mem_nil, or_false] at hp
  rcases hp with rfl | rfl | rfl
  · exact e14m_ok
  · exact i25_ok
  · exact i47_ok)
theorem vti45 (k : Bool) (a b r : Int) : evFn Try.prog (spOf [e13m, i31, e26m]) (inlOf []) extD (cKD [e13m, i31, e26m] []) (fun _ => .unroll 0) Try.f45 [.agg [.bool k, .int .i64 a, .int .i64 b, .int .i64 r]] [] (fun r _ => some r) =
    (bif decide (r < 1) then RB false else bif decide (r > 5) then RB false else bif ckI a b != 0 then RB false else bif k then bif decide (cmpR a b 1 1 ≥ 0) then RB true else RB false else bif a == 0 && (b == 1 && true) then RB true else RB false : Option Res) := by kernel_rfl
theorem vti46 (k : Bool) (a b r : Int) : evFn Try.prog (spOf [e14m, i25, i47]) (inlOf []) extD (cKD [e14m, i25, i47] []) (fun _ => .unroll 0) Try.f46 [.agg [.bool k, .int .i64 a, .int .i64 b, .int .i64 r]] [] (fun r _ => some r) =
    (bif wiB r 1 5 then bif ckI a b != 0 then RB false else bif k then bif decide (a ≥ b) then RB true else RB false else bif a == 0 && (b == 1 && true) then RB true else RB false else RB false : Option Res) := by kernel_rfl
theorem i45_ok : SpecHolds Try.prog InvD 45 fun a => (i45.2 a).run := by
  refine specD sx45 Try.func45 (c := codeOf Try.prog 45) (by kernel_rfl) (fun _ => .unroll 0) (fun _ _ => trivial) fun args r hh => ?_
  simp only [i45] at hh
  split at hh
  · rename_i k a b r
    refine ⟨by kernel_rfl, tr_ok (by rfl) hh, ?_⟩
    exact (vti45 k a b r).trans ((vd_prog k a b r).trans hh)
  · simp [Tr.run] at hh
theorem i46_ok : SpecHolds Try.prog InvD 46 fun a => (i46.2 a).run := by
  refine specD sx46 Try.func46 (c := codeOf Try.prog 46) (by kernel_rfl) (fun _ => .unroll 0) (fun _ _ => trivial) fun args r hh => ?_
  simp only [i46] at hh
  split at hh
  · rename_i k a b r
    refine ⟨by kernel_rfl, tr_ok (by rfl) hh, ?_⟩
    exact (vti46 k a b r).trans ((vd_ref k a b r).trans hh)
  · simp [Tr.run] at hh
theorem cb_eq (k : Bool) (a b r : Int) (l : Bool) (c d s : Int) : (bif vdB k a b r then bif vdB l c d s then bif k then bif l then bif mE (a, b) (c, d) != 0 then RD false 0 0 0 (mE (a, b) (c, d)) else RD true (mF (a, b) (c, d)).1 (mF (a, b) (c, d)).2 s 0 else RD false 0 1 s 0 else RD false 0 1 r 0 else RD false 0 0 0 1 else RD false 0 0 0 1 : Option Res) = (cbT k a b r l c d s).run := by
  have hD (h : ¬ mE (a, b) (c, d) = 0) : (mF (a, b) (c, d)).1 = 0 ∧ (mF (a, b) (c, d)).2 = 0 := by
    unfold mE opE at h
    unfold mF opF opN opD
    split at h
    · rename_i h1
      split at h
      · exact absurd rfl h
      · rename_i h2
        simp only [h1, Bool.true_and, h2]
        exact ⟨rfl, rfl⟩
    · rename_i h1
      simp only [h1, Bool.false_and]
      exact ⟨rfl, rfl⟩
  by_cases hv : cbV k a b r l c d s = true
  · have hv' := hv
    simp only [cbV, Bool.and_eq_true] at hv'
    rw [hv'.1, hv'.2]
    cases k with
    | false => simp [cbT, Tr.run, cbK, cbN, cbD, cbR, cbE, hv]
    | true =>
      cases l with
      | false => simp [cbT, Tr.run, cbK, cbN, cbD, cbR, cbE, hv]
      | true =>
        by_cases h : mE (a, b) (c, d) = 0
        · simp [cbT, Tr.run, cbK, cbN, cbD, cbR, cbE, hv, h]
        · obtain ⟨e1, e2⟩ := hD h
          have b0 : (mE (a, b) (c, d) == 0) = false := beq_false_of_ne h
          have b1 : (mE (a, b) (c, d) != 0) = true := by rw [bne, b0]; rfl
          simp [cbT, Tr.run, cbK, cbN, cbD, cbR, cbE, hv, b0, b1, e1, e2]
  · have hv0 : cbV k a b r l c d s = false := by simpa using hv
    have hr : (cbT k a b r l c d s).run = RD false 0 0 0 1 := by simp [cbT, Tr.run, cbK, cbN, cbD, cbR, cbE, hv0]
    rw [hr]
    simp only [cbV] at hv0
    cases h1 : vdB k a b r with
    | false => rfl
    | true =>
      rw [h1, Bool.true_and] at hv0
      rw [hv0]; rfl
theorem sx19 : (mkCx Try.prog (spOf [i45, i31, e21m]) (inlOf []) extD).Ok InvD := cx_of [] (by kernel_rfl) (by
  intro p hp
  simp only [List.mem_cons, List.not_mem_nil, or_false] at hp
  rcases hp with rfl | rfl | rfl
  · exact i45_ok
  · exact i31_ok
  · exact e21m_ok)
theorem sx20 : (mkCx Try.prog (spOf [i46, i47, i48, e29m]) (inlOf [27]) extD).Ok InvD := cx_of [27] (by kernel_rfl) (by
  intro p hp
  simp only [List.mem_cons, List.not_mem_nil, or_false] at hp
  rcases hp with rfl | rfl | rfl | rfl
  · exact i46_ok
  · exact i47_ok
  · exact i48_ok
  · exact e29m_ok)
theorem vti19 (k : Bool) (a b r : Int) (l : Bool) (c d s : Int) : evFn Try.prog (spOf [i45, i31, e21m]) (inlOf []) extD (cKD [i45, i31, e21m] []) (fun _ => .unroll 0) Try.f19 [.agg [.bool k, .int .i64 a, .int .i64 b, .int .i64 r], .agg [.bool l, .int .i64 c, .int .i64 d, .int .i64 s]] [] (fun r _ => some r) =
    (bif vdB k a b r then bif vdB l c d s then bif k then bif l then bif mE (a, b) (c, d) != 0 then RD false 0 0 0 (mE (a, b) (c, d)) else RD true (mF (a, b) (c, d)).1 (mF (a, b) (c, d)).2 s 0 else RD false 0 1 s 0 else RD false 0 1 r 0 else RD false 0 0 0 1 else RD false 0 0 0 1 : Option Res) := by kernel_rfl
theorem i19_ok : SpecHolds Try.prog InvD 19 fun a => (i19.2 a).run := by
  refine specD sx19 Try.func19 (c := codeOf Try.prog 19) (by kernel_rfl) (fun _ => .unroll 0) (fun _ _ => trivial) fun args r hh => ?_
  simp only [i19] at hh
  split at hh
  · rename_i k a b r l c d s
    refine ⟨by kernel_rfl, tr_ok (by rfl) hh, ?_⟩
    exact (vti19 k a b r l c d s).trans ((cb_eq k a b r l c d s).trans hh)
  · simp [Tr.run] at hh
theorem vti20 (k : Bool) (a b r : Int) (l : Bool) (c d s : Int) : evFn Try.prog (spOf [i46, i47, i48, e29m]) (inlOf [27]) extD (cKD [i46, i47, i48, e29m] [27]) (fun _ => .unroll 0) Try.f20 [.agg [.bool k, .int .i64 a, .int .i64 b, .int .i64 r], .agg [.bool l, .int .i64 c, .int .i64 d, .int .i64 s]] [] (fun r _ => some r) =
    (bif vdB k a b r then bif vdB l c d s then bif k then bif l then bif mE (a, b) (c, d) != 0 then RD false 0 0 0 (mE (a, b) (c, d)) else RD true (mF (a, b) (c, d)).1 (mF (a, b) (c, d)).2 s 0 else RD false 0 1 s 0 else RD false 0 1 r 0 else RD false 0 0 0 1 else RD false 0 0 0 1 : Option Res) := by kernel_rfl
theorem i20_ok : SpecHolds Try.prog InvD 20 fun a => (i20.2 a).run := by
  refine specD sx20 Try.func20 (c := codeOf Try.prog 20) (by kernel_rfl) (fun _ => .unroll 0) (fun _ _ => trivial) fun args r hh => ?_
  simp only [i20] at hh
  split at hh
  · rename_i k a b r l c d s
    refine ⟨by kernel_rfl, tr_ok (by rfl) hh, ?_⟩
    exact (vti20 k a b r l c d s).trans ((cb_eq k a b r l c d s).trans hh)
  · simp [Tr.run] at hh
end Go.Proofs.Ytebiafgcnmnacaa

/- Estimate of rows: contracts. Conditions: none beyond the context's. -/
namespace Go.Proofs.Ytebiafgcnmnacaa
open Go.Evl Go.RowKit
abbrev W4 : List Sh := [.int .i64, .int .i64, .int .i64, .int .i64]
/-- one weighted number more -/
def esS {β : Type} (v n d : Int) (p : F2) (bad : Int → F2 → β) (good : F2 → β) : β :=
  if wiB v (-1099511627776) 1099511627776 then if ckI n d = 0 ∧ 0 ≤ n then if mE (v, 1) (n, d) = 0 then
    if aE p (mF (v, 1) (n, d)) = 0 then good (esF p v n d) else bad (aE p (mF (v, 1) (n, d))) (esF p v n d) else bad (mE (v, 1) (n, d)) p else bad 1 p else bad 2 p
theorem esS_cases (v n d : Int) (p : F2) : (∃ e q, e ≠ 0 ∧ ∀ (β : Type) (bad : Int → F2 → β) (good : F2 → β), esS v n d p bad good = bad e q) ∨ ∃ q, ∀ (β : Type) (bad : Int → F2 → β) (good : F2 → β), esS v n d p bad good = good q := by
  unfold esS
  by_cases h1 : wiB v (-1099511627776) 1099511627776 = true
  · by_cases h2 : ckI n d = 0 ∧ 0 ≤ n
    · by_cases h3 : mE (v, 1) (n, d) = 0
      · by_cases h4 : aE p (mF (v, 1) (n, d)) = 0
        · exact .inr ⟨_, fun β bad good => by rw [if_pos h1, if_pos h2, if_pos h3, if_pos h4]⟩
        · exact .inl ⟨_, _, h4, fun β bad good => by rw [if_pos h1, if_pos h2, if_pos h3, if_neg h4]⟩
      · exact .inl ⟨_, _, h3, fun β bad good => by rw [if_pos h1, if_pos h2, if_neg h3]⟩
    · exact .inl ⟨_, _, (by decide : (1 : Int) ≠ 0), fun β bad good => by rw [if_pos h1, if_neg h2]⟩
  · exact .inl ⟨_, _, (by decide : (2 : Int) ≠ 0), fun β bad good => by rw [if_neg h1]⟩
/-- the sum of weighted numbers: an error, the sum so far, where -/
def esX (el : Nat → Nat → Dt) : Nat → Nat → F2 → Int × F2 × Nat
  | 0, i, p => (0, p, i)
  | k + 1, i, p => esS (el i 1).n (el i 2).n (el i 3).n p (fun e q => (e, q, i)) fun q => esX el k (i + 1) q
def esE (el : Nat → Nat → Dt) (n : Nat) : Int := (esX el n 0 (0, 1)).1
def esN (el : Nat → Nat → Dt) (n : Nat) : Int := if (esX el n 0 (0, 1)).1 = 0 then (esX el n 0 (0, 1)).2.1.1 else 0
def esD (el : Nat → Nat → Dt) (n : Nat) : Int := if (esX el n 0 (0, 1)).1 = 0 then (esX el n 0 (0, 1)).2.1.2 else 0
def esR (el : Nat → Nat → Dt) (n : Nat) : Tr Res := .chk (Nat.ble n 20) (.leaf (.ret (.tup [.agg [.int .i64 (esN el n), .int .i64 (esD el n)], .int .i64 (esE el n)])))
def i18r : Ent := ⟨18, fun
  | [.isz n [.int .i64, .int .i64, .int .i64, .int .i64] el] => esR el n
  | _ => .non⟩
def i21r : Ent := ⟨21, fun
  | [.isz n [.int .i64, .int .i64, .int .i64, .int .i64] el] => esR el n
  | _ => .non⟩
abbrev hpE (a b x y : Int) : List Ob := [.cells [.int .i64 a, .int .i64 b] 23, .cells [.int .i64 x, .int .i64 y] 23]
def es18 {β : Type} (v n d : Int) (p : F2) (bad : Int → F2 → Option β) (good : F2 → Option β) : Option β :=
  bif decide (v < -1099511627776) then bad 2 p else bif decide (v > 1099511627776) then bad 2 p else bif ckI n d != 0 then bad 1 p else bif decide (n < 0) then bad 1 p else bif mE (v, 1) (n, d) != 0 then bad (mE (v, 1) (n, d)) p
  else bif aE p (mF (v, 1) (n, d)) != 0 then bad (aE p (mF (v, 1) (n, d))) (esF p v n d) else good (esF p v n d)
theorem es18_eq {β : Type} (v n d : Int) (p : F2) (bad : Int → F2 → Option β) (good : F2 → Option β) : es18 v n d p bad good = esS v n d p bad good := by
  unfold es18 esS
  by_cases h1 : v < -1099511627776
  · rw [decide_eq_true h1, if_neg (by rw [wiB_iff]; omega)]; rfl
  by_cases h2 : v > 1099511627776
  · rw [decide_eq_false h1, decide_eq_true h2, if_neg (by rw [wiB_iff]; omega)]; rfl
  rw [decide_eq_false h1, decide_eq_false h2, if_pos (wiB_iff.2 (by omega))]
  by_cases h3 : ckI n d = 0
  · by_cases h4 : n < 0
    · rw [decide_eq_true h4, if_neg (by omega)]; simp [h3]
    · rw [decide_eq_false h4, if_pos ⟨h3, by omega⟩]
      by_cases h5 : mE (v, 1) (n, d) = 0
      · by_cases h6 : aE p (mF (v, 1) (n, d)) = 0
        · simp [h3, h5, h6]
        · simp [h3, h5, h6, bne_iff_ne.2 h6]
      · simp [h3, h5, bne_iff_ne.2 h5]
  · simp [h3, bne_iff_ne.2 h3]
abbrev keep18 : List Nat := [2, 3, 4, 10, 11, 12]
abbrev vs18 (z : Int) (n : Nat) (el : Nat → Nat → Dt) (m i : Int) : List AV := [.ptr 0 0, .int .i64 z, .ptr 1 0, .isz n W4 el, .int .i64 m, .int .i64 i]
def f18s : List AV → List Ob → Tr (Ex × List AV × List Ob)
  | [.ptr 0 0, .int .i64 z, .ptr 1 0, .isz n [.int .i64, .int .i64, .int .i64, .int .i64] el, .int .i64 m, .int .i64 i], [.cells [.int .i64 a, .int .i64 b] 23, .cells [.int .i64 x, .int .i64 y] 23] =>
    .chk (decide (0 ≤ i) && (decide (i ≤ (n : Int)) && (decide (m = (n : Int)) && ((decide (z = 0) && (decide (a = 0) && (decide (b = 0) && Nat.ble n 20)))))))
      (.node ((esX el (n - i.toNat) i.toNat (x, y)).1 == 0) (.leaf (.exit 0, vs18 0 n el m n, hpE 0 0 (esX el (n - i.toNat) i.toNat (x, y)).2.1.1 (esX el (n - i.toNat) i.toNat (x, y)).2.1.2)) (.leaf (.ret, vs18 (esX el (n - i.toNat) i.toNat (x, y)).1 n el m ((esX el (n - i.toNat) i.toNat (x, y)).2.2 : Int), hpE 0 0 (esX el (n - i.toNat) i.toNat (x, y)).2.1.1 (esX el (n - i.toNat) i.toNat (x, y)).2.1.2)))
  | _, _ => .non
abbrev lp18 (_ : Nat) : LT := .sum keep18 f18s
theorem loop18 (z : Int) (n : Nat) (el : Nat → Nat → Dt) (m i : Int) (x y : Int) : evC (β := Ex × List AV × List Ob) Try.prog (spOf [e13m, i31, e21m, e20m]) (inlOf []) extD (cKD [e13m, i31, e21m, e20m] []) lp18 (bodyOf Try.prog 18 0) ⟨mkF Try.f18.ntmps keep18 (vs18 z n el m i), hpE 0 0 x y⟩ (fun e st => (cutBack keep18 2 st).map fun q => (e, q.1, q.2)) =
    (bif decide (i < m) then bif decide (0 ≤ i) && decide (i < (n : Int)) then es18 (el i.toNat 1).n (el i.toNat 2).n (el i.toNat 3).n (x, y) (fun e p => some (.ret, vs18 e n el m i, hpE 0 0 p.1 p.2)) (fun p => some (.normal, vs18 z n el m (IntKind.i64.wrap (i + 1)), hpE 0 0 p.1 p.2)) else none else some (.exit 0, vs18 z n el m i, hpE 0 0 x y) : Option (Ex × List AV × List Ob)) := by kernel_rfl
theorem sum18 : LoopOkT Try.prog (spOf [e13m, i31, e21m, e20m]) (inlOf []) extD (cKD [e13m, i31, e21m, e20m] []) lp18 Try.f18.ntmps (bodyOf Try.prog 18 0) (.sum keep18 f18s) := by
  dsimp only [LoopOkT]
  refine ⟨by decide, by decide, fun vs _ => match vs with | [_, _, _, .isz n _ _, _, .int _ i] => (n - i).toNat | _ => 0, fun vs H R hv hR => ?_⟩
  unfold f18s at hR
  split at hR
  · rename_i z n el m i a b x y
    obtain ⟨hc, hR'⟩ := chk_run hR
    clear hR
    have hR := hR'
    clear hR'
    simp only [Bool.and_eq_true, decide_eq_true_eq, Nat.ble_eq] at hc
    obtain ⟨hi0, hin, rfl, rfl, rfl, rfl, hn⟩ := hc
    obtain ⟨k, rfl⟩ : ∃ k : Nat, i = (k : Int) := ⟨i.toNat, by omega⟩
    have hk : ((k : Int)).toNat = k := rfl
    rw [hk] at hR
    have ht := loop18 0 n el (n : Int) (k : Int) x y
    by_cases h : k < n
    · have hw : IntKind.i64.wrap ((k : Int) + 1) = ((k + 1 : Nat) : Int) := by rw [wrapI (by omega) (by omega)]; omega
      rw [hw, decide_eq_true (show (k : Int) < (n : Int) by omega), decide_eq_true (show (0 : Int) ≤ (k : Int) by omega), es18_eq] at ht
      simp only [Bool.and_self, cond_true, hk] at ht
      obtain ⟨j, hj⟩ : ∃ j, n - k = j + 1 := ⟨n - k - 1, by omega⟩
      rw [hj, esX] at hR
      rcases esS_cases (el k 1).n (el k 2).n (el k 3).n (x, y) with ⟨e, q, he, hb⟩ | ⟨q, hb⟩
      · rw [hb] at ht
        rw [hb] at hR
        refine ⟨_, _, _, ht, ?_⟩
        simp only [Tr.run, beq_false_of_ne he, cond_false, Option.some.injEq] at hR
        exact hR.symm
      · rw [hb] at ht
        rw [hb] at hR
        refine ⟨_, _, _, ht, ?_, ?_⟩
        · show (f18s (vs18 0 n el (n : Int) ((k + 1 : Nat) : Int)) (hpE 0 0 q.1 q.2)).run = some R
          rw [show j = n - (k + 1) by omega] at hR
          simp only [f18s, Tr.run]
          simp only [decide_true, Bool.true_and]
          rw [decide_eq_true (show (0 : Int) ≤ ((k + 1 : Nat) : Int) by omega), decide_eq_true (show ((k + 1 : Nat) : Int) ≤ (n : Int) by omega), Nat.ble_eq_true_of_le hn]
          exact hR
        · show ((n : Int) - ((k + 1 : Nat) : Int)).toNat < ((n : Int) - (k : Int)).toNat
          omega
    · obtain rfl : k = n := by omega
      rw [decide_eq_false (by omega)] at ht
      refine ⟨_, _, _, ht, ?_⟩
      rw [Nat.sub_self, esX] at hR
      simp only [Tr.run, beq_self_eq_true, cond_true, Option.some.injEq] at hR
      exact hR.symm
  · simp [Tr.run] at hR
theorem sx18r : (mkCx Try.prog (spOf [e13m, i31, e21m, e20m]) (inlOf []) extD).Ok InvD := cx_of [] (by kernel_rfl) (by
  intro p hp
  simp only [List.mem_cons, List.not_mem_nil, or_false] at hp
  rcases hp with rfl | rfl | rfl | rfl
  · exact e13m_ok
  · exact i31_ok
  · exact e21m_ok
  · exact e20m_ok)
theorem t18r (n : Nat) (el : Nat → Nat → Dt) : evFn Try.prog (spOf [e13m, i31, e21m, e20m]) (inlOf []) extD (cKD [e13m, i31, e21m, e20m] []) lp18 Try.f18 [.isz n W4 el] [] (fun r _ => some r) =
    (bif true && (true && (decide ((n : Int) = (n : Int)) && (true && (true && (true && n.ble 20))))) then bif (esX el (n - Int.toNat 0) (Int.toNat 0) (0, 1)).1 == 0 then RQ (esX el (n - Int.toNat 0) (Int.toNat 0) (0, 1)).2.1.1 (esX el (n - Int.toNat 0) (Int.toNat 0) (0, 1)).2.1.2 0 else RQ 0 0 (esX el (n - Int.toNat 0) (Int.toNat 0) (0, 1)).1 else none : Option Res) := by kernel_rfl
theorem i18r_ok : SpecHolds Try.prog InvD 18 fun a => (i18r.2 a).run := by
  refine specD sx18r Try.func18 (c := codeOf Try.prog 18) (by kernel_rfl) lp18 (fun p hp => ?_) fun args r hh => ?_
  · have hl : loops (codeOf Try.prog 18) = [(0, bodyOf Try.prog 18 0)] := by kernel_rfl
    rw [hl, List.mem_singleton] at hp
    subst hp
    exact sum18
  simp only [i18r] at hh
  split at hh
  · rename_i n el
    obtain ⟨hg, hh⟩ := chk_run hh
    refine ⟨by kernel_rfl, tr_ok (by rfl) hh, ?_⟩
    refine (t18r n el).trans (Eq.trans ?_ hh)
    rw [hg]
    simp only [Tr.run, esE, esN, esD, Int.toNat_zero, Nat.sub_zero, decide_true, Bool.and_self, cond_true]
    by_cases h : (esX el n 0 (0, 1)).1 = 0
    · rw [h, if_pos rfl, if_pos rfl]; rfl
    · rw [beq_false_of_ne h, if_neg h, if_neg h]; rfl
  · simp [Tr.run] at hh
def es21 {β : Type} (ok : Bool) (v n d : Int) (p : F2) (bad : Int → F2 → Option β) (good : F2 → Option β) : Option β :=
  bif ok then bif wiB v (-1099511627776) 1099511627776 then bif ok then bif ckI n d != 0 then bad 1 p else bif ok then bif decide (n < 0) then bad 1 p else bif ok then bif ok then bif mE (v, 1) (n, d) != 0 then bad (mE (v, 1) (n, d)) p
  else bif aE p (mF (v, 1) (n, d)) != 0 then bad (aE p (mF (v, 1) (n, d))) (esF p v n d) else good (esF p v n d) else none else none else none else none else bad 2 p else none
theorem es21_eq {β : Type} (v n d : Int) (p : F2) (bad : Int → F2 → Option β) (good : F2 → Option β) : es21 true v n d p bad good = esS v n d p bad good := by
  unfold es21 esS
  by_cases h1 : wiB v (-1099511627776) 1099511627776 = true
  · rw [h1]
    by_cases h3 : ckI n d = 0
    · by_cases h4 : n < 0
      · rw [decide_eq_true h4, if_pos rfl, if_neg (by omega)]; simp [h3]
      · rw [decide_eq_false h4, if_pos rfl, if_pos ⟨h3, by omega⟩]
        by_cases h5 : mE (v, 1) (n, d) = 0
        · by_cases h6 : aE p (mF (v, 1) (n, d)) = 0
          · simp [h3, h5, h6]
          · simp [h3, h5, h6, bne_iff_ne.2 h6]
        · simp [h3, h5, bne_iff_ne.2 h5]
    · simp [h3, bne_iff_ne.2 h3]
  · rw [show wiB v (-1099511627776) 1099511627776 = false by simpa using h1]; rfl
abbrev keep21 : List Nat := [0, 2, 3, 4, 5]
abbrev vs21 (z : Int) (n : Nat) (el : Nat → Nat → Dt) (i : Int) : List AV := [.isz n W4 el, .ptr 0 0, .int .i64 z, .ptr 1 0, .int .i64 i]
def f21s : List AV → List Ob → Tr (Ex × List AV × List Ob)
  | [.isz n [.int .i64, .int .i64, .int .i64, .int .i64] el, .ptr 0 0, .int .i64 z, .ptr 1 0, .int .i64 i], [.cells [.int .i64 a, .int .i64 b] 23, .cells [.int .i64 x, .int .i64 y] 23] =>
    .chk (decide (0 ≤ i) && (decide (i ≤ (n : Int)) && ((decide (z = 0) && (decide (a = 0) && (decide (b = 0) && Nat.ble n 20))))))
      (.node ((esX el (n - i.toNat) i.toNat (x, y)).1 == 0) (.leaf (.exit 0, vs21 0 n el n, hpE 0 0 (esX el (n - i.toNat) i.toNat (x, y)).2.1.1 (esX el (n - i.toNat) i.toNat (x, y)).2.1.2)) (.leaf (.ret, vs21 (esX el (n - i.toNat) i.toNat (x, y)).1 n el ((esX el (n - i.toNat) i.toNat (x, y)).2.2 : Int), hpE 0 0 (esX el (n - i.toNat) i.toNat (x, y)).2.1.1 (esX el (n - i.toNat) i.toNat (x, y)).2.1.2)))
  | _, _ => .non
abbrev lp21 (_ : Nat) : LT := .sum keep21 f21s
theorem loop21 (z : Int) (n : Nat) (el : Nat → Nat → Dt) (i : Int) (x y : Int) : evC (β := Ex × List AV × List Ob) Try.prog (spOf [e14m, i25, i47, e29m, e27m]) (inlOf []) extD (cKD [e14m, i25, i47, e29m, e27m] []) lp21 (bodyOf Try.prog 21 0) ⟨mkF Try.f21.ntmps keep21 (vs21 z n el i), hpE 0 0 x y⟩ (fun e st => (cutBack keep21 2 st).map fun q => (e, q.1, q.2)) =
    (bif decide (i < (n : Int)) then es21 (decide (0 ≤ i) && decide (i < (n : Int))) (el i.toNat 1).n (el i.toNat 2).n (el i.toNat 3).n (x, y) (fun e p => some (.ret, vs21 e n el i, hpE 0 0 p.1 p.2)) (fun p => some (.normal, vs21 z n el (IntKind.i64.wrap (i + 1)), hpE 0 0 p.1 p.2)) else some (.exit 0, vs21 z n el i, hpE 0 0 x y) : Option (Ex × List AV × List Ob)) := by kernel_rfl
theorem sum21 : LoopOkT Try.prog (spOf [e14m, i25, i47, e29m, e27m]) (inlOf []) extD (cKD [e14m, i25, i47, e29m, e27m] []) lp21 Try.f21.ntmps (bodyOf Try.prog 21 0) (.sum keep21 f21s) := by
  dsimp only [LoopOkT]
  refine ⟨by decide, by decide, fun vs _ => match vs with | [.isz n _ _, _, _, _, .int _ i] => (n - i).toNat | _ => 0, fun vs H R hv hR => ?_⟩
  unfold f21s at hR
  split at hR
  · rename_i n el z i a b x y
    obtain ⟨hc, hR'⟩ := chk_run hR
    clear hR
    have hR := hR'
    clear hR'
    simp only [Bool.and_eq_true, decide_eq_true_eq, Nat.ble_eq] at hc
    obtain ⟨hi0, hin, rfl, rfl, rfl, hn⟩ := hc
    obtain ⟨k, rfl⟩ : ∃ k : Nat, i = (k : Int) := ⟨i.toNat, by omega⟩
    have hk : ((k : Int)).toNat = k := rfl
    rw [hk] at hR
    have ht := loop21 0 n el (k : Int) x y
    by_cases h : k < n
    · have hw : IntKind.i64.wrap ((k : Int) + 1) = ((k + 1 : Nat) : Int) := by rw [wrapI (by omega) (by omega)]; omega
      rw [hw, decide_eq_true (show (k : Int) < (n : Int) by omega), decide_eq_true (show (0 : Int) ≤ (k : Int) by omega)] at ht
      simp only [Bool.and_self, cond_true, es21_eq, hk] at ht
      obtain ⟨j, hj⟩ : ∃ j, n - k = j + 1 := ⟨n - k - 1, by omega⟩
      rw [hj, esX] at hR
      rcases esS_cases (el k 1).n (el k 2).n (el k 3).n (x, y) with ⟨e, q, he, hb⟩ | ⟨q, hb⟩
      · rw [hb] at ht
        rw [hb] at hR
        refine ⟨_, _, _, ht, ?_⟩
        simp only [Tr.run, beq_false_of_ne he, cond_false, Option.some.injEq] at hR
        exact hR.symm
      · rw [hb] at ht
        rw [hb] at hR
        refine ⟨_, _, _, ht, ?_, ?_⟩
        · show (f21s (vs21 0 n el ((k + 1 : Nat) : Int)) (hpE 0 0 q.1 q.2)).run = some R
          rw [show j = n - (k + 1) by omega] at hR
          simp only [f21s, Tr.run]
          simp only [decide_true, Bool.true_and]
          rw [decide_eq_true (show (0 : Int) ≤ ((k + 1 : Nat) : Int) by omega), decide_eq_true (show ((k + 1 : Nat) : Int) ≤ (n : Int) by omega), Nat.ble_eq_true_of_le hn]
          exact hR
        · show ((n : Int) - ((k + 1 : Nat) : Int)).toNat < ((n : Int) - (k : Int)).toNat
          omega
    · obtain rfl : k = n := by omega
      rw [decide_eq_false (by omega)] at ht
      refine ⟨_, _, _, ht, ?_⟩
      rw [Nat.sub_self, esX] at hR
      simp only [Tr.run, beq_self_eq_true, cond_true, Option.some.injEq] at hR
      exact hR.symm
  · simp [Tr.run] at hR
theorem sx21r : (mkCx Try.prog (spOf [e14m, i25, i47, e29m, e27m]) (inlOf []) extD).Ok InvD := cx_of [] (by kernel_rfl) (by
  intro p hp
  simp only [List.mem_cons, List.not_mem_nil, or_false] at hp
  rcases hp with rfl | rfl | rfl | rfl | rfl
  · exact e14m_ok
  · exact i25_ok
  · exact i47_ok
  · exact e29m_ok
  · exact e27m_ok)
theorem t21r (n : Nat) (el : Nat → Nat → Dt) : evFn Try.prog (spOf [e14m, i25, i47, e29m, e27m]) (inlOf []) extD (cKD [e14m, i25, i47, e29m, e27m] []) lp21 Try.f21 [.isz n W4 el] [] (fun r _ => some r) =
    (bif true && (true && (true && (true && (true && n.ble 20)))) then bif (esX el (n - Int.toNat 0) (Int.toNat 0) (0, 1)).1 == 0 then RQ (esX el (n - Int.toNat 0) (Int.toNat 0) (0, 1)).2.1.1 (esX el (n - Int.toNat 0) (Int.toNat 0) (0, 1)).2.1.2 0 else RQ 0 0 (esX el (n - Int.toNat 0) (Int.toNat 0) (0, 1)).1 else none : Option Res) := by kernel_rfl
theorem i21r_ok : SpecHolds Try.prog InvD 21 fun a => (i21r.2 a).run := by
  refine specD sx21r Try.func21 (c := codeOf Try.prog 21) (by kernel_rfl) lp21 (fun p hp => ?_) fun args r hh => ?_
  · have hl : loops (codeOf Try.prog 21) = [(0, bodyOf Try.prog 21 0)] := by kernel_rfl
    rw [hl, List.mem_singleton] at hp
    subst hp
    exact sum21
  simp only [i21r] at hh
  split at hh
  · rename_i n el
    obtain ⟨hg, hh⟩ := chk_run hh
    refine ⟨by kernel_rfl, tr_ok (by rfl) hh, ?_⟩
    refine (t21r n el).trans (Eq.trans ?_ hh)
    rw [hg]
    simp only [Tr.run, esE, esN, esD, Int.toNat_zero, Nat.sub_zero, decide_true, Bool.and_self, cond_true]
    by_cases h : (esX el n 0 (0, 1)).1 = 0
    · rw [h, if_pos rfl, if_pos rfl]; rfl
    · rw [beq_false_of_ne h, if_neg h, if_neg h]; rfl
  · simp [Tr.run] at hh
end Go.Proofs.Ytebiafgcnmnacaa

/- SamplingCombine's walk. Conditions: none beyond the context's. -/
namespace Go.Proofs.Ytebiafgcnmnacaa
open Go.Evl Go.RowKit
def l7 : Ent := ⟨7, fun
  | [.agg [.bool _, .int .i64 _, .int .i64 _, .int .i64 _], .agg [.bool _, .int .i64 _, .int .i64 _, .int .i64 _], .isz _ [.int .i64, .int .i64, .int .i64, .int .i64] _] => .leaf (.ret (.bool true))
  | _ => .non⟩
theorem l7_run {k : Bool} {a b r : Int} {l : Bool} {c d s : Int} {n : Nat} {el : Nat → Nat → Dt} : (l7.2 [.agg [.bool k, .int .i64 a, .int .i64 b, .int .i64 r], .agg [.bool l, .int .i64 c, .int .i64 d, .int .i64 s], .isz n W4 el]).run = some (.ret (.bool true)) := rfl
theorem lx7 : (mkCx Try.prog (spOf [i19, i20, i18r, i21r, iAw]) (inlOf []) extD).Ok InvD := cx_of [] (by kernel_rfl) (by
  intro p hp
  simp only [List.mem_cons, List.not_mem_nil, or_false] at hp
  rcases hp with rfl | rfl | rfl | rfl | rfl
  · exact i19_ok
  · exact i20_ok
  · exact i18r_ok
  · exact i21r_ok
  · exact iAw_ok)
theorem lt7 (k : Bool) (a b r : Int) (l : Bool) (c d s : Int) (n : Nat) (el : Nat → Nat → Dt) : evFn Try.prog (spOf [i19, i20, i18r, i21r, iAw]) (inlOf []) extD (cKD [i19, i20, i18r, i21r, iAw] []) (fun _ => .unroll 0) Try.f7 [.agg [.bool k, .int .i64 a, .int .i64 b, .int .i64 r], .agg [.bool l, .int .i64 c, .int .i64 d, .int .i64 s], .isz n W4 el] [] (fun r _ => some r) =
    (bif decide ((n : Int) > 20) then RB true else bif n.ble 20 then bif n.ble 20 then
      bif cbK k a b r l c d s == cbK k a b r l c d s && (cbN k a b r l c d s == cbN k a b r l c d s && (cbD k a b r l c d s == cbD k a b r l c d s && true) && (cbR k a b r l c d s == cbR k a b r l c d s && true)) then
        bif cbE k a b r l c d s == cbE k a b r l c d s then
          bif esN el n == esN el n && (esD el n == esD el n && true) then
            bif esE el n == esE el n then RB true else RB false
          else RB false
        else RB false
      else RB false
    else none else none : Option Res) := by kernel_rfl
theorem l7_ok : SpecHolds Try.prog InvD 7 fun a => (l7.2 a).run := by
  refine specD lx7 Try.func7 (c := codeOf Try.prog 7) (by kernel_rfl) (fun _ => .unroll 0) (fun _ _ => trivial) fun args r hh => ?_
  simp only [l7] at hh
  split at hh
  · rename_i k a b r l c d s n el
    refine ⟨by kernel_rfl, tr_ok (by rfl) hh, ?_⟩
    refine (lt7 k a b r l c d s n el).trans (Eq.trans ?_ hh)
    simp only [beq_self_eq_true, Bool.and_self, cond_true]
    by_cases h : (n : Int) > 20
    · rw [decide_eq_true h]; rfl
    · rw [decide_eq_false h, Nat.ble_eq_true_of_le (show n ≤ 20 by omega)]; rfl
  · simp [Tr.run] at hh
end Go.Proofs.Ytebiafgcnmnacaa

/- SamplingCombine returns true for every input, and its arguments read as they did. No condition. -/
namespace Go.Proofs.Ytebiafgcnmnacaa
open Go.ChangeShapes Go.WideShapes Go.ChangeAt Go.RowKit Go.Joins Go.Evl

section
variable {H : Type} {enc : TypeId × Value → H} {w : World} {base b0 : Nat} {spare : Nat → Bool} {held : Bool} {rc : Reach} {v : Value} {d : DataW H} {p : List MemPlace}
theorem dec_form (hv : Value.okWide Try.prog w rc b0 25 v) (h : DataW.Trod enc Try.prog w base spare held 25 v d p) : ∃ k a b r, Rv (Nm.one 0 0) (fun b => b < w.heap.size) w None_ (.agg [.bool k, .int .i64 a, .int .i64 b, .int .i64 r]) v := by
  obtain ⟨ds, hl, hr, _⟩ := arg_struct (ρ := Nm.one 0 0) (d := 8) (sh := [.bool, .int .i64, .int .i64, .int .i64]) Try.underlying25 (by kernel_rfl) (by kernel_rfl) hv h
  match ds, hl with
  | [x0, x1, x2, x3], _ => exact ⟨x0.b, x1.n, x2.n, x3.n, hr⟩
end
set_option maxRecDepth 100000 in
theorem samplingCombine_lifted (os : Os) (started : os.Started) (H : Type) (enc : TypeId × Value → H) :
    ReturnsInHanded {} Try.checked os 7 .any (Rows.samplingCombineSpec.pre6 enc Try.prog Try.f7 Rows.samplingCombineRow.domain false) (Rows.samplingCombineSpec.post enc Try.prog Try.f7 false true false false) := by
  refine returnsInHanded_of_change (C := Try.checked) own started (by kernel_rfl) Try.func7
    (ChangeSpec.witness6 (enc := enc) (C := Try.checked) false ⟨#[], #[.agg #[.bool false, .int .i64 0, .int .i64 0, .int .i64 0], .agg #[.bool false, .int .i64 0, .int .i64 0, .int .i64 0], .slice none 0 0], []⟩ 8 (by kernel_rfl) (by kernel_rfl) (by kernel_rfl) (by kernel_rfl)) ?_
  intro W base args ds gs before hval0 hW _ _
  have hval : ∀ (j : Nat) t v, Try.f7.params[j]? = some t → args[j]? = some v → Value.okWide Try.prog W .any base t v := hval0
  have hW' := hW
  obtain ⟨p, q, hA0, hV, rfl, hfz, hnd⟩ := hW
  have hA : DataW.TrodAll enc Try.prog W 0 (fun _ => true) true Try.f7.params.toList args.toList ds p := hA0
  rw [Try.params7] at hA hval
  obtain ⟨v0, v1, v2, d0, d1, d2, p0, p1, p2, rfl, rfl, rfl, h0, h1, h2⟩ := trodAll_three hA
  obtain ⟨rfl, rfl⟩ := trodVars_none hV
  have hlt0 : ∀ x ∈ p0, x.block < W.heap.size := fun x hx => by simpa using hW'.lt x (by simp [hx])
  have hlt1 : ∀ x ∈ p1, x.block < W.heap.size := fun x hx => by simpa using hW'.lt x (by simp [hx])
  have hlt2 : ∀ x ∈ p2, x.block < W.heap.size := fun x hx => by simpa using hW'.lt x (by simp [hx])
  obtain ⟨k, a, b, r, rv0⟩ := dec_form (hval 0 25 v0 rfl rfl) h0
  obtain ⟨l, c, d, s, rv1⟩ := dec_form (hval 1 25 v1 rfl rfl) h1
  obtain ⟨y, rv2, _⟩ := arg_row (ρ := Nm.one 0 0) (d := 8) (s := W4) (show Try.prog.underlying 41 = some (.slice 40) by kernel_rfl) (by kernel_rfl) (by kernel_rfl) (hval 2 41 v2 rfl rfl) h2
  clear hA0 hval0
  have hrv : Rvs (Nm.one 0 0) (fun b => b < W.heap.size) W None_ [.agg [.bool k, .int .i64 a, .int .i64 b, .int .i64 r], .agg [.bool l, .int .i64 c, .int .i64 d, .int .i64 s], .isz y.len W4 y.el] [v0, v1, v2] := .cons rv0 (.cons rv1 (.cons rv2 .nil))
  refine (l7_ok _ (.ret (.bool true)) l7_run (Nm.one 0 0) (fun b => b < W.heap.size) W [v0, v1, v2] (fun _ h => h) trivial hrv).mono fun e W' ⟨hbel, u, he, hu⟩ => ?_
  subst he
  rw [hu.of_bool]
  refine ⟨_, rfl, _, _, _, [], p0 ++ (p1 ++ (p2)), [], hW', ?_, ?_, rfl, hbel.frame _, fun h => by cases h⟩
  · exact trodAll_mk1 (shut_bool Try.underlying4 true)
  · exact trodAll_mk3 (below_trod (by kernel_rfl) (of_decide_eq_true (by kernel_rfl)) h0 hbel hlt0) (below_trod (by kernel_rfl) (of_decide_eq_true (by kernel_rfl)) h1 hbel hlt1) (below_trod (by kernel_rfl) (of_decide_eq_true (by kernel_rfl)) h2 hbel hlt2)
theorem samplingCombine_holds : Rows.SamplingCombineSaid :=
  OpenClaim.holds_of_wide 7 Try.f7 rfl rfl rfl rfl rfl rfl rfl ⟨rfl, rfl, rfl, rfl, rfl⟩ rfl rfl rfl rfl rfl (by kernel_rfl) Try.func7 (by kernel_rfl)
    (of_decide_eq_true (by kernel_rfl)) (by unfold Func.isWrapper; first | (rw [if_pos (by decide +kernel)]; kernel_rfl) | (rw [if_neg (by decide +kernel)]; exact ⟨rfl, rfl⟩))
    (fun os started H enc _ => samplingCombine_lifted os started H enc)
#print axioms samplingCombine_holds
end Go.Proofs.Ytebiafgcnmnacaa
