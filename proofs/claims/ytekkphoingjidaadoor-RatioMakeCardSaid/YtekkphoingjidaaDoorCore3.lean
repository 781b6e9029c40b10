/- Contracts of Format and of its reference: one text. Conditions: none beyond the context's. -/
import Derived.Test.YtekkphoingjidaaDoorCore2
/- The reference's Make, and Make in merged form: contracts. Conditions: none beyond the context's. -/
namespace Go.Proofs.YtekkphoingjidaaDoor
open Go.Evl Go.RowKit

theorem chk_run0 {α : Type} {b : Bool} {x : Tr α} {r : α} (h : (Tr.chk b x).run = some r) : b = true ∧ x.run = some r := by
  cases b with
  | true => exact ⟨rfl, h⟩
  | false => simp [Tr.run] at h
theorem spec_weak0 {P : Program} {Inv : World → Prop} {f : FuncId} {s t : List AV → Tr Res} (h : SpecHolds P Inv f fun a => (s a).run) (ht : ∀ args r, (t args).run = some r → (s args).run = some r) : SpecHolds P Inv f fun a => (t a).run :=
  fun args r hr => h args r (ht args r hr)
theorem sx0 : (mkCx Tryd.prog (spOf []) (inlOf []) extD).Ok InvD := cx_of [] (by kernel_rfl) (by
  intro p hp
  cases hp)
/-- what Make yields -/
def mkE (n m : Int) : Int := if m = 0 then 26 else if mkFits n m then 0 else 14
def mkX (n m : Int) : Int := if mkE n m = 0 then mkN n m else 0
def mkY (n m : Int) : Int := if mkE n m = 0 then mkD n m else 0
def i11m : Ent := ⟨11, fun
  | [.int .i64 n, .int .i64 m] => .chk (inI n && inI m) (.leaf (.ret (.tup [.agg [.int .i64 (mkX n m), .int .i64 (mkY n m)], .int .i64 (mkE n m)])))
  | _ => .non⟩
theorem i11m_ok : SpecHolds Tryd.prog InvD 11 fun a => (i11m.2 a).run := by
  refine spec_weak0 e11_ok fun args r h => ?_
  simp only [i11m] at h
  split at h
  · rename_i n m
    obtain ⟨hg, h⟩ := chk_run0 h
    rw [← h]
    simp only [e11, hg, Tr.run, cond_true, mkX, mkY, mkE]
    by_cases h0 : m = 0
    · simp [h0]
    · by_cases hf : mkFits n m = true <;> simp [h0, hf]
  · simp [Tr.run] at h
def i39 : Ent := ⟨39, fun
  | [.int .i64 a] => .chk (inI a) (.leaf (.ret (.int .u64 (absI a))))
  | _ => .non⟩
theorem vti39 (a : Int) : evFn Tryd.prog (spOf []) (inlOf []) extD (cKD [] []) (fun _ => .unroll 0) Tryd.f39 [.int .i64 a] [] (fun r _ => some r) =
    (bif decide (a < 0) then some (.ret (.int .u64 (IntKind.u64.wrap (IntKind.u64.wrap (IntKind.i64.wrap (0 - IntKind.i64.wrap (a + 1))) + 1)))) else some (.ret (.int .u64 (IntKind.u64.wrap a))) : Option Res) := by kernel_rfl
theorem i39_ok : SpecHolds Tryd.prog InvD 39 fun a => (i39.2 a).run := by
  refine specD sx0 Tryd.func39 (c := codeOf Tryd.prog 39) (by kernel_rfl) (fun _ => .unroll 0) (fun _ _ => trivial) fun args r hh => ?_
  simp only [i39] at hh
  split at hh
  · rename_i a
    obtain ⟨hg, hh⟩ := chk_run0 hh
    refine ⟨by kernel_rfl, tr_ok (by rfl) hh, ?_⟩
    refine (vti39 a).trans (Eq.trans ?_ hh)
    simp only [Tr.run]
    simp only [inI, decide_eq_true_eq] at hg
    rw [absI_eq]
    by_cases h0 : a < 0
    · rw [decide_eq_true h0, wrapI (x := a + 1) (by omega) (by omega), wrapI (x := 0 - (a + 1)) (by omega) (by omega)]
      simp only [cond_true, Option.some.injEq, Res.ret.injEq, AV.int.injEq, true_and, IntKind.wrap_u64]
      omega
    · rw [decide_eq_false h0]
      simp only [cond_false, Option.some.injEq, Res.ret.injEq, AV.int.injEq, true_and, IntKind.wrap_u64]
      omega
  · simp [Tr.run] at hh
abbrev keep12 : List Nat := [0, 1, 4, 5, 6, 7, 8, 9]
abbrev vs12 (n m z a b x y : Int) : List AV := [.int .i64 n, .int .i64 m, .ptr 0 0, .int .i64 z, .int .u64 a, .int .u64 b, .int .u64 x, .int .u64 y]
def f12s : List AV → List Ob → Tr (Ex × List AV × List Ob)
  | [.int .i64 n, .int .i64 m, .ptr 0 0, .int .i64 z, .int .u64 a, .int .u64 b, .int .u64 x, .int .u64 y], [.cells [.int .i64 p, .int .i64 q] 23] =>
    .chk (decide (0 ≤ x) && decide (0 ≤ y)) (.leaf (.exit 0, vs12 n m z a b (gcdI x y) 0, [.cells [.int .i64 p, .int .i64 q] 23]))
  | _, _ => .non
abbrev lp12 (_ : Nat) : LT := .sum keep12 f12s
theorem loop12 (n m z a b x y p q : Int) : evC (β := Ex × List AV × List Ob) Tryd.prog (spOf [i39]) (inlOf []) extD (cKD [i39] []) lp12 (bodyOf Tryd.prog 12 0) ⟨mkF Tryd.f12.ntmps keep12 (vs12 n m z a b x y), [.cells [.int .i64 p, .int .i64 q] 23]⟩
      (fun e st => (cutBack keep12 1 st).map fun q => (e, q.1, q.2)) =
    bif decide (y > 0) then bif !decide (y = 0) then some (.normal, vs12 n m z a b y (x.tmod y), [.cells [.int .i64 p, .int .i64 q] 23]) else none else some (.exit 0, vs12 n m z a b x y, [.cells [.int .i64 p, .int .i64 q] 23]) := by kernel_rfl
theorem mkTree (a b : Int) (ha : inI a = true) (hb : inI b = true) : (bif b == 0 then some (.ret (.tup [.agg [.int .i64 (0), .int .i64 (0)], .int .i64 26])) else bif inI a then bif inI b then bif decide (0 ≤ absI a) && decide (0 ≤ absI b) then bif !decide ((gcdI (absI a) (absI b)) = 0) then bif !decide ((gcdI (absI a) (absI b)) = 0) then bif decide ((IntKind.u64.wrap ((absI a).tdiv (gcdI (absI a) (absI b)))) > 1152921504606846976) then some (.ret (.tup [.agg [.int .i64 (0), .int .i64 (0)], .int .i64 14])) else bif decide ((IntKind.u64.wrap ((absI b).tdiv (gcdI (absI a) (absI b)))) > 1152921504606846976) then some (.ret (.tup [.agg [.int .i64 (0), .int .i64 (0)], .int .i64 14])) else bif decide (a < 0) then bif decide (b < 0) then some (.ret (.tup [.agg [.int .i64 (IntKind.i64.wrap (IntKind.u64.wrap ((absI a).tdiv (gcdI (absI a) (absI b))))), .int .i64 (IntKind.i64.wrap (IntKind.u64.wrap ((absI b).tdiv (gcdI (absI a) (absI b)))))], .int .i64 0])) else some (.ret (.tup [.agg [.int .i64 (IntKind.i64.wrap (0 - IntKind.i64.wrap (IntKind.u64.wrap ((absI a).tdiv (gcdI (absI a) (absI b)))))), .int .i64 (IntKind.i64.wrap (IntKind.u64.wrap ((absI b).tdiv (gcdI (absI a) (absI b)))))], .int .i64 0])) else bif decide (b < 0) then some (.ret (.tup [.agg [.int .i64 (IntKind.i64.wrap (0 - IntKind.i64.wrap (IntKind.u64.wrap ((absI a).tdiv (gcdI (absI a) (absI b)))))), .int .i64 (IntKind.i64.wrap (IntKind.u64.wrap ((absI b).tdiv (gcdI (absI a) (absI b)))))], .int .i64 0])) else some (.ret (.tup [.agg [.int .i64 (IntKind.i64.wrap (IntKind.u64.wrap ((absI a).tdiv (gcdI (absI a) (absI b))))), .int .i64 (IntKind.i64.wrap (IntKind.u64.wrap ((absI b).tdiv (gcdI (absI a) (absI b)))))], .int .i64 0])) else none else none else none else none else none : Option Res) = some (.ret (.tup [.agg [.int .i64 (mkX a b), .int .i64 (mkY a b)], .int .i64 (mkE a b)])) := by
  by_cases h0 : b = 0
  · subst h0; rfl
  · have hg := mkG_pos (a := a) h0
    obtain ⟨a0, a1⟩ := mkA_range (a := a) h0
    obtain ⟨d0, d1⟩ := mkD_range (a := a) h0
    have ea : (absI a).tdiv (gcdI (absI a) (absI b)) = mkA a b := Int.tdiv_eq_ediv_of_nonneg (absI_pos a)
    have eb : (absI b).tdiv (gcdI (absI a) (absI b)) = mkD a b := Int.tdiv_eq_ediv_of_nonneg (absI_pos b)
    have eg : gcdI (absI a) (absI b) = mkG a b := rfl
    have ra : absI a ≤ 9223372036854775808 := by simp only [inI, decide_eq_true_eq] at ha; rw [absI_eq]; omega
    have rb : absI b ≤ 9223372036854775808 := by simp only [inI, decide_eq_true_eq] at hb; rw [absI_eq]; omega
    have wa : IntKind.u64.wrap (mkA a b) = mkA a b := by rw [IntKind.wrap_u64]; omega
    have wb : IntKind.u64.wrap (mkD a b) = mkD a b := by rw [IntKind.wrap_u64]; omega
    rw [ea, eb, wa, wb, eg, ha, hb, decide_eq_true (absI_pos a), decide_eq_true (absI_pos b), decide_eq_false (show ¬ mkG a b = 0 by omega), show (b == 0) = false from beq_false_of_ne h0]
    simp only [Bool.and_self, Bool.not_false, cond_true, cond_false]
    by_cases k1 : mkA a b ≤ 1152921504606846976
    · rw [decide_eq_false (show ¬ mkA a b > 1152921504606846976 by omega)]
      by_cases k2 : mkD a b ≤ 1152921504606846976
      · rw [decide_eq_false (show ¬ mkD a b > 1152921504606846976 by omega), wrapI (x := mkA a b) (by omega) (by omega), wrapI (x := mkD a b) (by omega) (by omega), wrapI (x := 0 - mkA a b) (by omega) (by omega)]
        have hf : mkFits a b = true := by simp [mkFits, k1, k2]
        have he : mkE a b = 0 := by simp [mkE, h0, hf]
        simp only [mkX, mkY, he, if_true, mkN, cond_false]
        by_cases s1 : a < 0 <;> by_cases s2 : b < 0 <;> simp [s1, s2]
      · rw [decide_eq_true (show mkD a b > 1152921504606846976 by omega)]
        have hf : mkFits a b = false := by simp [mkFits, k2]
        have he : mkE a b = 14 := by simp [mkE, h0, hf]
        simp [mkX, mkY, he]
    · rw [decide_eq_true (show mkA a b > 1152921504606846976 by omega)]
      have hf : mkFits a b = false := by simp [mkFits, k1]
      have he : mkE a b = 14 := by simp [mkE, h0, hf]
      simp [mkX, mkY, he]
theorem sx12 : (mkCx Tryd.prog (spOf [i39]) (inlOf []) extD).Ok InvD := cx_of [] (by kernel_rfl) (by
  intro p hp
  simp only [List.mem_cons, List.not_mem_nil, or_false] at hp
  rcases hp with rfl
  · exact i39_ok)
def i12 : Ent := ⟨12, fun
  | [.int .i64 a, .int .i64 b] => .chk (inI a && inI b) (.leaf (.ret (.tup [.agg [.int .i64 (mkX a b), .int .i64 (mkY a b)], .int .i64 (mkE a b)])))
  | _ => .non⟩
theorem vti12 (a b : Int) : evFn Tryd.prog (spOf [i39]) (inlOf []) extD (cKD [i39] []) (lp12) Tryd.f12 [.int .i64 a, .int .i64 b] [] (fun r _ => some r) =
    (bif b == 0 then some (.ret (.tup [.agg [.int .i64 (0), .int .i64 (0)], .int .i64 26])) else bif inI a then bif inI b then bif decide (0 ≤ absI a) && decide (0 ≤ absI b) then bif !decide ((gcdI (absI a) (absI b)) = 0) then bif !decide ((gcdI (absI a) (absI b)) = 0) then bif decide ((IntKind.u64.wrap ((absI a).tdiv (gcdI (absI a) (absI b)))) > 1152921504606846976) then some (.ret (.tup [.agg [.int .i64 (0), .int .i64 (0)], .int .i64 14])) else bif decide ((IntKind.u64.wrap ((absI b).tdiv (gcdI (absI a) (absI b)))) > 1152921504606846976) then some (.ret (.tup [.agg [.int .i64 (0), .int .i64 (0)], .int .i64 14])) else bif decide (a < 0) then bif decide (b < 0) then some (.ret (.tup [.agg [.int .i64 (IntKind.i64.wrap (IntKind.u64.wrap ((absI a).tdiv (gcdI (absI a) (absI b))))), .int .i64 (IntKind.i64.wrap (IntKind.u64.wrap ((absI b).tdiv (gcdI (absI a) (absI b)))))], .int .i64 0])) else some (.ret (.tup [.agg [.int .i64 (IntKind.i64.wrap (0 - IntKind.i64.wrap (IntKind.u64.wrap ((absI a).tdiv (gcdI (absI a) (absI b)))))), .int .i64 (IntKind.i64.wrap (IntKind.u64.wrap ((absI b).tdiv (gcdI (absI a) (absI b)))))], .int .i64 0])) else bif decide (b < 0) then some (.ret (.tup [.agg [.int .i64 (IntKind.i64.wrap (0 - IntKind.i64.wrap (IntKind.u64.wrap ((absI a).tdiv (gcdI (absI a) (absI b)))))), .int .i64 (IntKind.i64.wrap (IntKind.u64.wrap ((absI b).tdiv (gcdI (absI a) (absI b)))))], .int .i64 0])) else some (.ret (.tup [.agg [.int .i64 (IntKind.i64.wrap (IntKind.u64.wrap ((absI a).tdiv (gcdI (absI a) (absI b))))), .int .i64 (IntKind.i64.wrap (IntKind.u64.wrap ((absI b).tdiv (gcdI (absI a) (absI b)))))], .int .i64 0])) else none else none else none else none else none : Option Res) := by kernel_rfl
theorem i12_ok : SpecHolds Tryd.prog InvD 12 fun a => (i12.2 a).run := by
  refine specD sx12 Tryd.func12 (c := codeOf Tryd.prog 12) (by kernel_rfl) (lp12) (fun p hp => by
    have hl : loops (codeOf Tryd.prog 12) = [(0, bodyOf Tryd.prog 12 0)] := by kernel_rfl
    rw [hl, List.mem_singleton] at hp
    subst hp
    dsimp only [LoopOkT]
    refine ⟨by decide, by decide, fun vs _ => match vs with | [_, _, _, _, _, _, _, .int _ b] => b.toNat | _ => 0, fun vs H R hv hR => ?_⟩
    unfold f12s at hR
    split at hR
    · rename_i n m z a b x y p q
      obtain ⟨hc, hR⟩ := chk_run0 hR
      simp only [Tr.run, Option.some.injEq] at hR
      subst hR
      simp only [Bool.and_eq_true, decide_eq_true_eq] at hc
      obtain ⟨X, rfl⟩ := Int.eq_ofNat_of_zero_le hc.1
      obtain ⟨Y, rfl⟩ := Int.eq_ofNat_of_zero_le hc.2
      by_cases hy : Y = 0
      · subst hy
        have ht := loop12 n m z a b (X : Int) ((0 : Nat) : Int) p q
        rw [decide_eq_false (show ¬ (((0 : Nat) : Int) > 0) by omega)] at ht
        simp only [cond_false] at ht
        refine ⟨_, _, _, ht, ?_⟩
        dsimp only
        rw [gcdI_eq X 0, Nat.gcd_zero_right]
        rfl
      · have ht := loop12 n m z a b (X : Int) (Y : Int) p q
        rw [decide_eq_true (show ((Y : Int) > 0) by omega), show (!decide ((Y : Int) = 0)) = true by simp; omega] at ht
        simp only [cond_true] at ht
        refine ⟨_, _, _, ht, ?_, ?_⟩
        · have h3 : (X : Int).tmod (Y : Int) = ((X % Y : Nat) : Int) := rfl
          rw [h3]
          have hd : (decide (0 ≤ (Y : Int)) && decide (0 ≤ ((X % Y : Nat) : Int))) = true := by
            rw [Bool.and_eq_true]; exact ⟨decide_eq_true (Int.natCast_nonneg _), decide_eq_true (Int.natCast_nonneg _)⟩
          simp only [f12s, Tr.run, hd, cond_true, gcdI_eq, gcd_step X Y]
        · have h3 : (X : Int).tmod (Y : Int) = ((X % Y : Nat) : Int) := rfl
          simp only [h3, Int.toNat_natCast]
          exact Nat.mod_lt _ (by omega)
    · simp [Tr.run] at hR) fun args r hh => ?_
  simp only [i12] at hh
  split at hh
  · rename_i a b
    obtain ⟨hg, hh⟩ := chk_run0 hh
    refine ⟨by kernel_rfl, tr_ok (by rfl) hh, ?_⟩
    refine (vti12 a b).trans (Eq.trans ?_ hh)
    rw [Bool.and_eq_true] at hg
    exact mkTree a b hg.1 hg.2
  · simp [Tr.run] at hh
end Go.Proofs.YtekkphoingjidaaDoor

/- Contracts of Itoa and of the reference's decimal. Conditions: none beyond the context's. -/
namespace Go.Proofs.YtekkphoingjidaaDoor
open Go.Evl Go.RowKit
/-- the text of a number -/
def itS (n : Int) : ByteArray := if inI n then ⟨(Lib.itoa n).toArray⟩ else ⟨#[]⟩
def decS (n : Int) : ByteArray := if 0 ≤ n then ⟨(Lib.decDigits n.toNat).toArray⟩ else ⟨#[]⟩
def i42 : Ent := ⟨42, fun
  | [.int .i64 a] => .chk (inI a) (.leaf (.ret (.str (itS a))))
  | _ => .non⟩
theorem sx42 : (mkCx Tryd.prog (spOf [e76]) (inlOf [64]) extD).Ok InvD := cx_of [64] (by kernel_rfl) (by
  intro p hp
  simp only [List.mem_cons, List.not_mem_nil, or_false] at hp
  rcases hp with rfl
  · exact e76_ok)
theorem vti42 (a : Int) : evFn Tryd.prog (spOf [e76]) (inlOf [64]) extD (cKD [e76] [64]) (fun _ => .unroll 0) Tryd.f42 [.int .i64 a] [] (fun r _ => some r) =
    (bif true && (decide (-9223372036854775808 ≤ a) && decide (a ≤ 9223372036854775807)) then some (.ret (.str ⟨(itoaF a).toArray⟩)) else none : Option Res) := by kernel_rfl
theorem i42_ok : SpecHolds Tryd.prog InvD 42 fun a => (i42.2 a).run := by
  refine specD sx42 Tryd.func42 (c := codeOf Tryd.prog 42) (by kernel_rfl) (fun _ => .unroll 0) (fun _ _ => trivial) fun args r hh => ?_
  simp only [i42] at hh
  split at hh
  · rename_i a
    obtain ⟨hg, hh⟩ := chk_run0 hh
    refine ⟨by kernel_rfl, tr_ok (by rfl) hh, ?_⟩
    refine (vti42 a).trans (Eq.trans ?_ hh)
    have hg' := hg
    simp only [inI, decide_eq_true_eq] at hg'
    rw [decide_eq_true (show -9223372036854775808 ≤ a by omega), decide_eq_true (show a ≤ 9223372036854775807 by omega)]
    simp only [Bool.and_self, cond_true, Tr.run, itS, hg, if_true]
    rw [itoaF_eq a (by omega) (by omega)]
  · simp [Tr.run] at hh
/-- a number of up to d digits -/
def dgB (d : Nat) (n : Int) : Bool := decide (0 ≤ n) && decide (n.toNat < 10 ^ d)
def e43d (d : Nat) : Ent := ⟨43, fun
  | [.int .i64 a] => .chk (decide (0 < d) && dgB d a) (.leaf (.ret (.str (decS a))))
  | _ => .non⟩
abbrev one (x : Int) : ByteArray := { data := #[UInt8.ofNat (IntKind.u8.wrap (IntKind.i64.wrap x)).toNat] }
theorem vti43 (d : Nat) (a : Int) : evFn Tryd.prog (spOf [e43d d]) (inlOf []) extD (cKD [e43d d] []) (fun _ => .unroll 0) Tryd.f43 [.int .i64 a] [] (fun r _ => some r) =
    (bif decide (a < 10) then bif decide (0 ≤ IntKind.u8.wrap (IntKind.i64.wrap (48 + a)) ∧ IntKind.u8.wrap (IntKind.i64.wrap (48 + a)) < 256) && true then some (.ret (.str (one (48 + a)))) else none
     else bif decide (0 < d) && dgB d (IntKind.i64.wrap (a.tdiv 10)) then bif decide (0 ≤ IntKind.u8.wrap (IntKind.i64.wrap (48 + a.tmod 10)) ∧ IntKind.u8.wrap (IntKind.i64.wrap (48 + a.tmod 10)) < 256) && true then
       bif szOk (decS (IntKind.i64.wrap (a.tdiv 10))) (one (48 + a.tmod 10)) then some (.ret (.str (decS (IntKind.i64.wrap (a.tdiv 10)) ++ one (48 + a.tmod 10)))) else none else none else none : Option Res) := by kernel_rfl
theorem digF_len : ∀ (n u : Nat), (digF n u).length ≤ n := by
  intro n
  induction n with
  | zero => intro u; simp [digF]
  | succ n ih =>
    intro u
    simp only [digF]
    split
    · simp
    · have := ih (u / 10)
      simp only [List.length_append, List.length_cons, List.length_nil]; omega
theorem dec_len {d u : Nat} (hd : 0 < d) (h : u < 10 ^ d) : (Lib.decDigits u).length ≤ d := by
  rw [← digF_eq d u h hd]; exact digF_len d u
theorem decS_size {d : Nat} {n : Int} (hd : 0 < d) (h : n.toNat < 10 ^ d) : (decS n).size ≤ d := by
  unfold decS
  split
  · show (Lib.decDigits n.toNat).toArray.size ≤ d
    rw [List.size_toArray]; exact dec_len hd h
  · exact Nat.zero_le _
theorem one_eq {x : Nat} (h : x < 10) : one (48 + (x : Int)) = ⟨#[UInt8.ofNat (48 + x)]⟩ := by
  have e : (IntKind.u8.wrap (IntKind.i64.wrap (48 + (x : Int)))).toNat = 48 + x := by
    rw [wrapI (x := 48 + (x : Int)) (by omega) (by omega), IntKind.wrap_u8]; omega
  unfold one; rw [e]
theorem one_ok {x : Nat} (h : x < 10) : (decide (0 ≤ IntKind.u8.wrap (IntKind.i64.wrap (48 + (x : Int))) ∧ IntKind.u8.wrap (IntKind.i64.wrap (48 + (x : Int))) < 256) && true) = true := by
  rw [wrapI (x := 48 + (x : Int)) (by omega) (by omega), IntKind.wrap_u8, Bool.and_true, decide_eq_true_eq]; omega
theorem decS_small {x : Nat} (h : x < 10) : decS (x : Int) = ⟨#[UInt8.ofNat (48 + x)]⟩ := by
  unfold decS
  rw [if_pos (Int.natCast_nonneg x), Int.toNat_natCast, Lib.decDigits]
  simp [h]
theorem decS_step {x : Nat} (h : ¬ x < 10) : decS ((x / 10 : Nat) : Int) ++ ⟨#[UInt8.ofNat (48 + x % 10)]⟩ = decS (x : Int) := by
  unfold decS
  rw [if_pos (Int.natCast_nonneg x), if_pos (Int.natCast_nonneg _), Int.toNat_natCast, Int.toNat_natCast]
  apply ByteArray.ext
  rw [ByteArray.data_append]
  conv => rhs; rw [Lib.decDigits]
  simp [h]
theorem sx43 {d : Nat} (h : SpecHolds Tryd.prog InvD 43 fun a => ((e43d d).2 a).run) : (mkCx Tryd.prog (spOf [e43d d]) (inlOf []) extD).Ok InvD := cx_of [] (by kernel_rfl) (by
  intro p hp
  simp only [List.mem_cons, List.not_mem_nil, or_false] at hp
  rcases hp with rfl
  · exact h)
theorem e43d_ok : ∀ d : Nat, d ≤ 19 → SpecHolds Tryd.prog InvD 43 fun a => ((e43d d).2 a).run := by
  intro d
  induction d with
  | zero =>
    intro _ args r hh
    simp only [e43d] at hh
    split at hh
    · obtain ⟨hg, _⟩ := chk_run0 hh
      simp at hg
    · simp [Tr.run] at hh
  | succ d ih =>
    intro hd
    refine specD (sx43 (ih (by omega))) Tryd.func43 (c := codeOf Tryd.prog 43) (by kernel_rfl) (fun _ => .unroll 0) (fun _ _ => trivial) fun args r hh => ?_
    simp only [e43d] at hh
    split at hh
    · rename_i a
      obtain ⟨hg, hh⟩ := chk_run0 hh
      refine ⟨by kernel_rfl, tr_ok (by rfl) hh, ?_⟩
      refine (vti43 d a).trans (Eq.trans ?_ hh)
      simp only [dgB, Bool.and_eq_true, decide_eq_true_eq] at hg
      obtain ⟨_, h0, h1⟩ := hg
      obtain ⟨x, rfl⟩ := Int.eq_ofNat_of_zero_le h0
      rw [Int.toNat_natCast] at h1
      simp only [Tr.run]
      by_cases hx : x < 10
      · rw [decide_eq_true (show (x : Int) < 10 by omega), one_ok hx, one_eq hx, decS_small hx]; rfl
      · have hb : 10 ^ (d + 1) ≤ 10 ^ 19 := Nat.pow_le_pow_right (by omega) hd
        have hd0 : 0 < d := by
          rcases Nat.eq_zero_or_pos d with e | e
          · subst e; simp at h1; omega
          · exact e
        have e1 : (x : Int).tdiv 10 = ((x / 10 : Nat) : Int) := rfl
        have e2 : (x : Int).tmod 10 = ((x % 10 : Nat) : Int) := rfl
        have h2 : x / 10 < 10 ^ d := by rw [Nat.pow_succ] at h1; omega
        have hm : x % 10 < 10 := Nat.mod_lt _ (by omega)
        rw [e1, e2, wrapI (x := ((x / 10 : Nat) : Int)) (by omega) (by omega), one_ok hm, one_eq hm, decS_step hx, decide_eq_false (show ¬ (x : Int) < 10 by omega)]
        have hs : szOk (decS ((x / 10 : Nat) : Int)) ⟨#[UInt8.ofNat (48 + x % 10)]⟩ = true := by
          have := decS_size (n := ((x / 10 : Nat) : Int)) hd0 (by rw [Int.toNat_natCast]; exact h2)
          refine Nat.ble_eq_true_of_le ?_
          show _ + 1 ≤ _
          omega
        have hk : (decide (0 < d) && dgB d ((x / 10 : Nat) : Int)) = true := by
          simp only [dgB, Bool.and_eq_true, decide_eq_true_eq, Int.toNat_natCast]
          exact ⟨hd0, Int.natCast_nonneg _, h2⟩
        rw [hs, hk]; rfl
    · simp [Tr.run] at hh
end Go.Proofs.YtekkphoingjidaaDoor

/- Contracts of decimal, Check and Floor, each with one result. Conditions: none beyond the context's. -/
namespace Go.Proofs.YtekkphoingjidaaDoor
open Go.Evl Go.RowKit
def i43 : Ent := ⟨43, fun
  | [.int .i64 a] => .chk (decide (0 ≤ a) && decide (a ≤ 1152921504606846976)) (.leaf (.ret (.str (decS a))))
  | _ => .non⟩
theorem i43_ok : SpecHolds Tryd.prog InvD 43 fun a => (i43.2 a).run := by
  refine spec_weak0 (e43d_ok 19 (by omega)) fun args r h => ?_
  simp only [i43] at h
  split at h
  · rename_i a
    obtain ⟨hg, h⟩ := chk_run0 h
    rw [← h]
    simp only [Bool.and_eq_true, decide_eq_true_eq] at hg
    have hk : (decide (0 < 19) && dgB 19 a) = true := by
      simp only [dgB, Bool.and_eq_true, decide_eq_true_eq]
      exact ⟨by omega, hg.1, by omega⟩
    simp only [e43d, hk, Tr.run, cond_true]
  · simp [Tr.run] at h
def ckJ (a b : Int) : Int := if okB a b then 0 else 1
def flJ (a b : Int) : Int := if okB a b then a / b else 0
def i13 : Ent := ⟨13, fun
  | [.agg [.int .i64 a, .int .i64 b]] => .leaf (.ret (.int .i64 (ckJ a b)))
  | _ => .non⟩
theorem i13_ok : SpecHolds Tryd.prog InvD 13 fun a => (i13.2 a).run := by
  refine spec_weak0 e13_ok fun args r h => ?_
  simp only [i13] at h
  split at h
  · rename_i a b
    rw [← h]
    simp only [e13, Tr.run, ckJ]
    cases okB a b <;> rfl
  · simp [Tr.run] at h
def i14 : Ent := ⟨14, fun
  | [.agg [.int .i64 a, .int .i64 b]] => .leaf (.ret (.int .i64 (ckJ a b)))
  | _ => .non⟩
theorem i14_ok : SpecHolds Tryd.prog InvD 14 fun a => (i14.2 a).run := by
  refine spec_weak0 e14_ok fun args r h => ?_
  simp only [i14] at h
  split at h
  · rename_i a b
    rw [← h]
    simp only [e14, Tr.run, ckJ]
    cases okB a b <;> rfl
  · simp [Tr.run] at h
def i15 : Ent := ⟨15, fun
  | [.agg [.int .i64 a, .int .i64 b]] => .leaf (.ret (.int .i64 (flJ a b)))
  | _ => .non⟩
theorem i15_ok : SpecHolds Tryd.prog InvD 15 fun a => (i15.2 a).run := by
  refine spec_weak0 e15_ok fun args r h => ?_
  simp only [i15] at h
  split at h
  · rename_i a b
    rw [← h]
    simp only [e15, Tr.run, flJ]
    cases okB a b <;> rfl
  · simp [Tr.run] at h
theorem sx16 : (mkCx Tryd.prog (spOf [e14]) (inlOf []) extD).Ok InvD := cx_of [] (by kernel_rfl) (by
  intro p hp
  simp only [List.mem_cons, List.not_mem_nil, or_false] at hp
  rcases hp with rfl
  · exact e14_ok)
def i16 : Ent := ⟨16, fun
  | [.agg [.int .i64 a, .int .i64 b]] => .leaf (.ret (.int .i64 (flJ a b)))
  | _ => .non⟩
theorem vti16 (a b : Int) : evFn Tryd.prog (spOf [e14]) (inlOf []) extD (cKD [e14] []) (fun _ => .unroll 0) Tryd.f16 [.agg [.int .i64 a, .int .i64 b]] [] (fun r _ => some r) =
    (bif okB a b then bif decide (a < 0) then bif !decide (b = 0) then some (.ret (.int .i64 (IntKind.i64.wrap (0 - IntKind.i64.wrap ((IntKind.i64.wrap (IntKind.i64.wrap (IntKind.i64.wrap (0 - a) + b) - 1)).tdiv b))))) else none
      else bif !decide (b = 0) then some (.ret (.int .i64 (IntKind.i64.wrap (a.tdiv b)))) else none else some (.ret (.int .i64 0)) : Option Res) := by kernel_rfl
theorem i16_ok : SpecHolds Tryd.prog InvD 16 fun a => (i16.2 a).run := by
  refine specD sx16 Tryd.func16 (c := codeOf Tryd.prog 16) (by kernel_rfl) (fun _ => .unroll 0) (fun _ _ => trivial) fun args r hh => ?_
  simp only [i16] at hh
  split at hh
  · rename_i a b
    refine ⟨by kernel_rfl, tr_ok (by rfl) hh, ?_⟩
    refine (vti16 a b).trans (Eq.trans ?_ hh)
    simp only [Tr.run, flJ]
    by_cases hok : okB a b = true
    · obtain ⟨h1, h2, h3, h4, h5⟩ := okB_iff.1 hok
      obtain ⟨r1, r2⟩ := ediv_range h1 h3 h4
      have hb0 : (!decide (b = 0)) = true := by simp; omega
      rw [hok, hb0]
      simp only [cond_true, if_true]
      by_cases h0 : a < 0
      · rw [decide_eq_true h0, wrapI (x := 0 - a) (by omega) (by omega), wrapI (x := 0 - a + b) (by omega) (by omega), wrapI (x := 0 - a + b - 1) (by omega) (by omega), Int.tdiv_eq_ediv_of_nonneg (by omega)]
        have e : (0 - a + b - 1) / b = -(a / b) := by
          have := neg_floor (a := a) (b := b) (by omega)
          rw [show 0 - a + b - 1 = -a + b - 1 by omega, ← this]; omega
        rw [e, wrapI (x := -(a / b)) (by omega) (by omega), wrapI (by omega) (by omega)]
        simp
      · rw [decide_eq_false h0]
        simp only [cond_false]
        rw [Int.tdiv_eq_ediv_of_nonneg (show 0 ≤ a by omega), wrapI (x := a / b) (by omega) (by omega)]
    · rw [Bool.not_eq_true] at hok
      rw [hok]; rfl
  · simp [Tr.run] at hh
end Go.Proofs.YtekkphoingjidaaDoor

/- Contracts of Format and of its reference: one text. Conditions: none beyond the context's. -/
namespace Go.Proofs.YtekkphoingjidaaDoor
open Go.Evl Go.RowKit
abbrev bS (n : UInt8) : ByteArray := { data := #[n] }
def fmS (a b : Int) : ByteArray := if okB a b then (if b = 1 then itS a else itS a ++ (bS 47 ++ itS b)) else { data := #[] }
theorem ba_assoc (x y z : ByteArray) : x ++ y ++ z = x ++ (y ++ z) := by
  apply ByteArray.ext
  rw [ByteArray.data_append, ByteArray.data_append, ByteArray.data_append, ByteArray.data_append, Array.append_assoc]
theorem ba_size (x y : ByteArray) : (x ++ y).size = x.size + y.size := by
  show (x ++ y).data.size = x.data.size + y.data.size
  rw [ByteArray.data_append, Array.size_append]
theorem decS60 {n : Int} (h1 : n ≤ 1152921504606846976) : (decS n).size ≤ 19 := decS_size (by omega) (by omega)
theorem itS_pos {n : Int} (h0 : 0 ≤ n) (h1 : n ≤ 1152921504606846976) : itS n = decS n := by
  have hi : inI n = true := by simp only [inI, decide_eq_true_eq]; omega
  unfold itS decS
  rw [if_pos hi, if_pos h0, Lib.itoa, if_neg (by omega)]
theorem itS_neg {n : Int} (h0 : n < 0) (h1 : -1152921504606846976 ≤ n) : itS n = bS 45 ++ decS (-n) := by
  have hi : inI n = true := by simp only [inI, decide_eq_true_eq]; omega
  have e : (-n).toNat = n.natAbs := by omega
  unfold itS decS
  rw [if_pos hi, if_pos (show 0 ≤ -n by omega), Lib.itoa, if_pos h0, e]
  apply ByteArray.ext
  rw [ByteArray.data_append]
  simp
theorem itS_size {n : Int} (h0 : -1152921504606846976 ≤ n) (h1 : n ≤ 1152921504606846976) : (itS n).size ≤ 20 := by
  by_cases h : n < 0
  · rw [itS_neg h h0, ba_size]
    have := decS60 (n := -n) (by omega)
    show 1 + _ ≤ _
    omega
  · rw [itS_pos (by omega) h1]
    have := decS60 h1
    omega
theorem szOk_of {x y : ByteArray} (h : x.size + y.size ≤ 9223372036854775807) : szOk x y = true := Nat.ble_eq_true_of_le h
theorem sx17 : (mkCx Tryd.prog (spOf [e13, i42]) (inlOf []) extD).Ok InvD := cx_of [] (by kernel_rfl) (by
  intro p hp
  simp only [List.mem_cons, List.not_mem_nil, or_false] at hp
  rcases hp with rfl | rfl
  · exact e13_ok
  · exact i42_ok)
theorem sx18 : (mkCx Tryd.prog (spOf [e14, e41, i43]) (inlOf []) extD).Ok InvD := cx_of [] (by kernel_rfl) (by
  intro p hp
  simp only [List.mem_cons, List.not_mem_nil, or_false] at hp
  rcases hp with rfl | rfl | rfl
  · exact e14_ok
  · exact e41_ok
  · exact i43_ok)
def i17 : Ent := ⟨17, fun
  | [.agg [.int .i64 a, .int .i64 b]] => .leaf (.ret (.str (fmS a b)))
  | _ => .non⟩
def i18 : Ent := ⟨18, fun
  | [.agg [.int .i64 a, .int .i64 b]] => .leaf (.ret (.str (fmS a b)))
  | _ => .non⟩
abbrev RS (s : ByteArray) : Option Res := some (.ret (.str s))
theorem vti17 (a b : Int) : evFn Tryd.prog (spOf [e13, i42]) (inlOf []) extD (cKD [e13, i42] []) (fun _ => .unroll 0) Tryd.f17 [.agg [.int .i64 a, .int .i64 b]] [] (fun r _ => some r) =
    (bif okB a b then bif inI a then bif b != 1 then bif inI b then bif szOk (bS 47) (itS b) then bif szOk (itS a) (bS 47 ++ itS b) then RS (itS a ++ (bS 47 ++ itS b)) else none else none else none else RS (itS a) else none else RS { data := #[] } : Option Res) := by kernel_rfl
theorem vti18 (a b : Int) : evFn Tryd.prog (spOf [e14, e41, i43]) (inlOf []) extD (cKD [e14, e41, i43] []) (fun _ => .unroll 0) Tryd.f18 [.agg [.int .i64 a, .int .i64 b]] [] (fun r _ => some r) =
    (bif okB a b then bif decide (-9223372036854775808 < a) && decide (a < 9223372036854775808) then bif decide (0 ≤ absI a) && decide (absI a ≤ 1152921504606846976) then
      bif decide (a < 0) then bif szOk (bS 45) (decS (absI a)) then
        bif decide (b > 1) then bif szOk (bS 45 ++ decS (absI a)) (bS 47) then bif decide (0 ≤ b) && decide (b ≤ 1152921504606846976) then bif szOk (bS 45 ++ decS (absI a) ++ bS 47) (decS b) then RS (bS 45 ++ decS (absI a) ++ bS 47 ++ decS b) else none else none else none else RS (bS 45 ++ decS (absI a)) else none
      else bif decide (b > 1) then bif szOk (decS (absI a)) (bS 47) then bif decide (0 ≤ b) && decide (b ≤ 1152921504606846976) then bif szOk (decS (absI a) ++ bS 47) (decS b) then RS (decS (absI a) ++ bS 47 ++ decS b) else none else none else none else RS (decS (absI a))
    else none else none else RS { data := #[] } : Option Res) := by kernel_rfl
theorem i17_ok : SpecHolds Tryd.prog InvD 17 fun a => (i17.2 a).run := by
  refine specD sx17 Tryd.func17 (c := codeOf Tryd.prog 17) (by kernel_rfl) (fun _ => .unroll 0) (fun _ _ => trivial) fun args r hh => ?_
  simp only [i17] at hh
  split at hh
  · rename_i a b
    refine ⟨by kernel_rfl, tr_ok (by rfl) hh, ?_⟩
    refine (vti17 a b).trans (Eq.trans ?_ hh)
    simp only [Tr.run, fmS]
    by_cases hok : okB a b = true
    · obtain ⟨h1, h2, h3, h4, h5⟩ := okB_iff.1 hok
      have ia : inI a = true := by simp only [inI, decide_eq_true_eq]; omega
      have ib : inI b = true := by simp only [inI, decide_eq_true_eq]; omega
      have sa := itS_size h3 h4
      have sb := itS_size (n := b) (by omega) h2
      have s1 : szOk (bS 47) (itS b) = true := szOk_of (by show 1 + _ ≤ _; omega)
      have s2 : szOk (itS a) (bS 47 ++ itS b) = true := szOk_of (by rw [ba_size]; show _ + (1 + _) ≤ _; omega)
      rw [hok, ia, ib, s1, s2]
      by_cases hb : b = 1
      · subst hb; rfl
      · rw [bne_iff_ne.2 hb]
        simp only [cond_true, if_true, if_neg hb]
    · rw [Bool.not_eq_true] at hok
      rw [hok]; rfl
  · simp [Tr.run] at hh
theorem i18_ok : SpecHolds Tryd.prog InvD 18 fun a => (i18.2 a).run := by
  refine specD sx18 Tryd.func18 (c := codeOf Tryd.prog 18) (by kernel_rfl) (fun _ => .unroll 0) (fun _ _ => trivial) fun args r hh => ?_
  simp only [i18] at hh
  split at hh
  · rename_i a b
    refine ⟨by kernel_rfl, tr_ok (by rfl) hh, ?_⟩
    refine (vti18 a b).trans (Eq.trans ?_ hh)
    simp only [Tr.run, fmS]
    by_cases hok : okB a b = true
    · obtain ⟨h1, h2, h3, h4, h5⟩ := okB_iff.1 hok
      have r0 : 0 ≤ absI a ∧ absI a ≤ 1152921504606846976 := by rw [absI_eq]; omega
      have sa := decS60 (n := absI a) r0.2
      have sb := decS60 h2
      have s1 : szOk (bS 45) (decS (absI a)) = true := szOk_of (by show 1 + _ ≤ _; omega)
      have s2 : szOk (bS 45 ++ decS (absI a)) (bS 47) = true := szOk_of (by rw [ba_size]; show 1 + _ + 1 ≤ _; omega)
      have s3 : szOk (bS 45 ++ decS (absI a) ++ bS 47) (decS b) = true := szOk_of (by rw [ba_size, ba_size]; show 1 + _ + 1 + _ ≤ _; omega)
      have s4 : szOk (decS (absI a)) (bS 47) = true := szOk_of (by show _ + 1 ≤ _; omega)
      have s5 : szOk (decS (absI a) ++ bS 47) (decS b) = true := szOk_of (by rw [ba_size]; show _ + 1 + _ ≤ _; omega)
      rw [hok, s1, s2, s3, s4, s5, decide_eq_true (show -9223372036854775808 < a by omega), decide_eq_true (show a < 9223372036854775808 by omega), decide_eq_true r0.1, decide_eq_true r0.2, decide_eq_true (show 0 ≤ b by omega), decide_eq_true h2]
      simp only [Bool.and_self, cond_true, if_true]
      have eb := itS_pos (n := b) (by omega) h2
      by_cases hs : a < 0
      · have ea := itS_neg hs h3
        have e1 : absI a = -a := by rw [absI_eq]; omega
        rw [decide_eq_true hs, e1]
        by_cases hb : b = 1
        · subst hb
          rw [if_pos rfl, ea]; rfl
        · rw [decide_eq_true (show b > 1 by omega), if_neg hb, ea, eb]
          simp only [cond_true, RS, ba_assoc]
      · have ea := itS_pos (n := a) (by omega) h4
        have e1 : absI a = a := by rw [absI_eq]; omega
        rw [decide_eq_false hs, e1]
        by_cases hb : b = 1
        · subst hb
          rw [if_pos rfl, ea]; rfl
        · rw [decide_eq_true (show b > 1 by omega), if_neg hb, ea, eb]
          simp only [cond_true, cond_false, RS, ba_assoc]
    · rw [Bool.not_eq_true] at hok
      rw [hok]; rfl
  · simp [Tr.run] at hh
end Go.Proofs.YtekkphoingjidaaDoor
