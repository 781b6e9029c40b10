/- What the rows of Parse give: the invariant. Conditions: the rows' own, and the world's shape. -/
import Derived.Test.YtekkphoingjidaaDoorCore2
import Derived.Shelf.LaysC
import Derived.Shelf.Strconv.AtoiAll
import Derived.Shelf.Strings.Cut
import Derived.Test.YtekkphoingjidaaDoorProg
import Derived.Lib.AtoiAll
import Derived.Lib.IndexMore
import Derived.Lib.ItoaNum
import Derived.Lib.SmallJoins
import Derived.Test.YtekkphoingjidaaDoorCards
import Derived.Test.YtekkphoingjidaaDoorTie
import Derived.ProofKit
import Derived.LaidMore
import Derived.OpenShut
import Derived.Stop.Joined
import Derived.SevenTiedAt
/- The reference's Make, and Make in merged form: contracts. Conditions: none beyond the context's. -/
namespace Go.Proofs.YtekkphoingjidaaDoor
open Go.Evl Go.RowKit

theorem chk_run0 {α : Type} {b : Bool} {x : Tr α} {r : α} (h : (Tr.chk b x).run = some r) : b = true ∧ x.run = some r := by
  cases b with
  | true => exact ⟨rfl, h⟩
  | false => simp [Tr.run] at h
theorem spec_weak0 {P : Program} {Inv : World → Prop} {f : FuncId} {s t : List AV → Tr Res} (h : SpecHolds P Inv f fun a => (s a).run) (ht : ∀ args r, (t args).run = some r → (s args).run = some r) : SpecHolds P Inv f fun a => (t a).run :=
  fun args r hr => h args r (ht args r hr)
theorem sx0 : (mkCx Tryd.prog (spOf []) (inlOf []) extD).Ok InvD := cx_of [] (by kernel_rfl) (by
  intro p hp
  cases hp)
/-- what Make yields -/
def mkE (n m : Int) : Int := if m = 0 then 26 else if mkFits n m then 0 else 14
def mkX (n m : Int) : Int := if mkE n m = 0 then mkN n m else 0
def mkY (n m : Int) : Int := if mkE n m = 0 then mkD n m else 0
def i11m : Ent := ⟨11, fun
  | [.int .i64 n, .int .i64 m] => .chk (inI n && inI m) (.leaf (.ret (.tup [.agg [.int .i64 (mkX n m), .int .i64 (mkY n m)], .int .i64 (mkE n m)])))
  | _ => .non⟩
theorem i11m_ok : SpecHolds Tryd.prog InvD 11 fun a => (i11m.2 a).run := by
  refine spec_weak0 e11_ok fun args r h => ?_
  simp only [i11m] at h
  split at h
  · rename_i n m
    obtain ⟨hg, h⟩ := chk_run0 h
    rw [← h]
    simp only [e11, hg, Tr.run, cond_true, mkX, mkY, mkE]
    by_cases h0 : m = 0
    · simp [h0]
    · by_cases hf : mkFits n m = true <;> simp [h0, hf]
  · simp [Tr.run] at h
def i39 : Ent := ⟨39, fun
  | [.int .i64 a] => .chk (inI a) (.leaf (.ret (.int .u64 (absI a))))
  | _ => .non⟩
theorem vti39 (a : Int) : evFn Tryd.prog (spOf []) (inlOf []) extD (cKD [] []) (fun _ => .unroll 0) Tryd.f39 [.int .i64 a] [] (fun r _ => some r) =
    (bif decide (a < 0) then some (.ret (.int .u64 (IntKind.u64.wrap (IntKind.u64.wrap (IntKind.i64.wrap (0 - IntKind.i64.wrap (a + 1))) + 1)))) else some (.ret (.int .u64 (IntKind.u64.wrap a))) : Option Res) := by kernel_rfl
theorem i39_ok : SpecHolds Tryd.prog InvD 39 fun a => (i39.2 a).run := by
  refine specD sx0 Tryd.func39 (c := codeOf Tryd.prog 39) (by kernel_rfl) (fun _ => .unroll 0) (fun _ _ => trivial) fun args r hh => ?_
  simp only [i39] at hh
  split at hh
  · rename_i a
    obtain ⟨hg, hh⟩ := chk_run0 hh
    refine ⟨by kernel_rfl, tr_ok (by rfl) hh, ?_⟩
    refine (vti39 a).trans (Eq.trans ?_ hh)
    simp only [Tr.run]
    simp only [inI, decide_eq_true_eq] at hg
    rw [absI_eq]
    by_cases h0 : a < 0
    · rw [decide_eq_true h0, wrapI (x := a + 1) (by omega) (by omega), wrapI (x := 0 - (a + 1)) (by omega) (by omega)]
      simp only [cond_true, Option.some.injEq, Res.ret.injEq, AV.int.injEq, true_and, IntKind.wrap_u64]
      omega
    · rw [decide_eq_false h0]
      simp only [cond_false, Option.some.injEq, Res.ret.injEq, AV.int.injEq, true_and, IntKind.wrap_u64]
      omega
  · simp [Tr.run] at hh
abbrev keep12 : List Nat := [0, 1, 4, 5, 6, 7, 8, 9]
abbrev vs12 (n m z a b x y : Int) : List AV := [.int .i64 n, .int .i64 m, .ptr 0 0, .int .i64 z, .int .u64 a, .int .u64 b, .int .u64 x, .int .u64 y]
def f12s : List AV → List Ob → Tr (Ex × List AV × List Ob)
  | [.int .i64 n, .int .i64 m, .ptr 0 0, .int .i64 z, .int .u64 a, .int .u64 b, .int .u64 x, .int .u64 y], [.cells [.int .i64 p, .int .i64 q] 23] =>
    .chk (decide (0 ≤ x) && decide (0 ≤ y)) (.leaf (.exit 0, vs12 n m z a b (gcdI x y) 0, [.cells [.int .i64 p, .int .i64 q] 23]))
  | _, _ => .non
abbrev lp12 (_ : Nat) : LT := .sum keep12 f12s
theorem loop12 (n m z a b x y p q : Int) : evC (β := Ex × List AV × List Ob) Tryd.prog (spOf [i39]) (inlOf []) extD (cKD [i39] []) lp12 (bodyOf Tryd.prog 12 0) ⟨mkF Tryd.f12.ntmps keep12 (vs12 n m z a b x y), [.cells [.int .i64 p, .int .i64 q] 23]⟩
      (fun e st => (cutBack keep12 1 st).map fun q => (e, q.1, q.2)) =
    bif decide (y > 0) then bif !decide (y = 0) then some (.normal, vs12 n m z a b y (x.tmod y), [.cells [.int .i64 p, .int .i64 q] 23]) else none else some (.exit 0, vs12 n m z a b x y, [.cells [.int .i64 p, .int .i64 q] 23]) := by kernel_rfl
theorem mkTree (a b : Int) (ha : inI a = true) (hb : inI b = true) : (bif b == 0 then some (.ret (.tup [.agg [.int .i64 (0), .int .i64 (0)], .int .i64 26])) else bif inI a then bif inI b then bif decide (0 ≤ absI a) && decide (0 ≤ absI b) then bif !decide ((gcdI (absI a) (absI b)) = 0) then bif !decide ((gcdI (absI a) (absI b)) = 0) then bif decide ((IntKind.u64.wrap ((absI a).tdiv (gcdI (absI a) (absI b)))) > 1152921504606846976) then some (.ret (.tup [.agg [.int .i64 (0), .int .i64 (0)], .int .i64 14])) else bif decide ((IntKind.u64.wrap ((absI b).tdiv (gcdI (absI a) (absI b)))) > 1152921504606846976) then some (.ret (.tup [.agg [.int .i64 (0), .int .i64 (0)], .int .i64 14])) else bif decide (a < 0) then bif decide (b < 0) then some (.ret (.tup [.agg [.int .i64 (IntKind.i64.wrap (IntKind.u64.wrap ((absI a).tdiv (gcdI (absI a) (absI b))))), .int .i64 (IntKind.i64.wrap (IntKind.u64.wrap ((absI b).tdiv (gcdI (absI a) (absI b)))))], .int .i64 0])) else some (.ret (.tup [.agg [.int .i64 (IntKind.i64.wrap (0 - IntKind.i64.wrap (IntKind.u64.wrap ((absI a).tdiv (gcdI (absI a) (absI b)))))), .int .i64 (IntKind.i64.wrap (IntKind.u64.wrap ((absI b).tdiv (gcdI (absI a) (absI b)))))], .int .i64 0])) else bif decide (b < 0) then some (.ret (.tup [.agg [.int .i64 (IntKind.i64.wrap (0 - IntKind.i64.wrap (IntKind.u64.wrap ((absI a).tdiv (gcdI (absI a) (absI b)))))), .int .i64 (IntKind.i64.wrap (IntKind.u64.wrap ((absI b).tdiv (gcdI (absI a) (absI b)))))], .int .i64 0])) else some (.ret (.tup [.agg [.int .i64 (IntKind.i64.wrap (IntKind.u64.wrap ((absI a).tdiv (gcdI (absI a) (absI b))))), .int .i64 (IntKind.i64.wrap (IntKind.u64.wrap ((absI b).tdiv (gcdI (absI a) (absI b)))))], .int .i64 0])) else none else none else none else none else none : Option Res) = some (.ret (.tup [.agg [.int .i64 (mkX a b), .int .i64 (mkY a b)], .int .i64 (mkE a b)])) := by
  by_cases h0 : b = 0
  · subst h0; rfl
  · have hg := mkG_pos (a := a) h0
    obtain ⟨a0, a1⟩ := mkA_range (a := a) h0
    obtain ⟨d0, d1⟩ := mkD_range (a := a) h0
    have ea : (absI a).tdiv (gcdI (absI a) (absI b)) = mkA a b := Int.tdiv_eq_ediv_of_nonneg (absI_pos a)
    have eb : (absI b).tdiv (gcdI (absI a) (absI b)) = mkD a b := Int.tdiv_eq_ediv_of_nonneg (absI_pos b)
    have eg : gcdI (absI a) (absI b) = mkG a b := rfl
    have ra : absI a ≤ 9223372036854775808 := by simp only [inI, decide_eq_true_eq] at ha; rw [absI_eq]; omega
    have rb : absI b ≤ 9223372036854775808 := by simp only [inI, decide_eq_true_eq] at hb; rw [absI_eq]; omega
    have wa : IntKind.u64.wrap (mkA a b) = mkA a b := by rw [IntKind.wrap_u64]; omega
    have wb : IntKind.u64.wrap (mkD a b) = mkD a b := by rw [IntKind.wrap_u64]; omega
    rw [ea, eb, wa, wb, eg, ha, hb, decide_eq_true (absI_pos a), decide_eq_true (absI_pos b), decide_eq_false (show ¬ mkG a b = 0 by omega), show (b == 0) = false from beq_false_of_ne h0]
    simp only [Bool.and_self, Bool.not_false, cond_true, cond_false]
    by_cases k1 : mkA a b ≤ 1152921504606846976
    · rw [decide_eq_false (show ¬ mkA a b > 1152921504606846976 by omega)]
      by_cases k2 : mkD a b ≤ 1152921504606846976
      · rw [decide_eq_false (show ¬ mkD a b > 1152921504606846976 by omega), wrapI (x := mkA a b) (by omega) (by omega), wrapI (x := mkD a b) (by omega) (by omega), wrapI (x := 0 - mkA a b) (by omega) (by omega)]
        have hf : mkFits a b = true := by simp [mkFits, k1, k2]
        have he : mkE a b = 0 := by simp [mkE, h0, hf]
        simp only [mkX, mkY, he, if_true, mkN, cond_false]
        by_cases s1 : a < 0 <;> by_cases s2 : b < 0 <;> simp [s1, s2]
      · rw [decide_eq_true (show mkD a b > 1152921504606846976 by omega)]
        have hf : mkFits a b = false := by simp [mkFits, k2]
        have he : mkE a b = 14 := by simp [mkE, h0, hf]
        simp [mkX, mkY, he]
    · rw [decide_eq_true (show mkA a b > 1152921504606846976 by omega)]
      have hf : mkFits a b = false := by simp [mkFits, k1]
      have he : mkE a b = 14 := by simp [mkE, h0, hf]
      simp [mkX, mkY, he]
theorem sx12 : (mkCx Tryd.prog (spOf [i39]) (inlOf []) extD).Ok InvD := cx_of [] (by kernel_rfl) (by
  intro p hp
  simp only [List.mem_cons, List.not_mem_nil, or_false] at hp
  rcases hp with rfl
  · exact i39_ok)
def i12 : Ent := ⟨12, fun
  | [.int .i64 a, .int .i64 b] => .chk (inI a && inI b) (.leaf (.ret (.tup [.agg [.int .i64 (mkX a b), .int .i64 (mkY a b)], .int .i64 (mkE a b)])))
  | _ => .non⟩
theorem vti12 (a b : Int) : evFn Tryd.prog (spOf [i39]) (inlOf []) extD (cKD [i39] []) (lp12) Tryd.f12 [.int .i64 a, .int .i64 b] [] (fun r _ => some r) =
    (bif b == 0 then some (.ret (.tup [.agg [.int .i64 (0), .int .i64 (0)], .int .i64 26])) else bif inI a then bif inI b then bif decide (0 ≤ absI a) && decide (0 ≤ absI b) then bif !decide ((gcdI (absI a) (absI b)) = 0) then bif !decide ((gcdI (absI a) (absI b)) = 0) then bif decide ((IntKind.u64.wrap ((absI a).tdiv (gcdI (absI a) (absI b)))) > 1152921504606846976) then some (.ret (.tup [.agg [.int .i64 (0), .int .i64 (0)], .int .i64 14])) else bif decide ((IntKind.u64.wrap ((absI b).tdiv (gcdI (absI a) (absI b)))) > 1152921504606846976) then some (.ret (.tup [.agg [.int .i64 (0), .int .i64 (0)], .int .i64 14])) else bif decide (a < 0) then bif decide (b < 0) then some (.ret (.tup [.agg [.int .i64 (IntKind.i64.wrap (IntKind.u64.wrap ((absI a).tdiv (gcdI (absI a) (absI b))))), .int .i64 (IntKind.i64.wrap (IntKind.u64.wrap ((absI b).tdiv (gcdI (absI a) (absI b)))))], .int .i64 0])) else some (.ret (.tup [.agg [.int .i64 (IntKind.i64.wrap (0 - IntKind.i64.wrap (IntKind.u64.wrap ((absI a).tdiv (gcdI (absI a) (absI b)))))), .int .i64 (IntKind.i64.wrap (IntKind.u64.wrap ((absI b).tdiv (gcdI (absI a) (absI b)))))], .int .i64 0])) else bif decide (b < 0) then some (.ret (.tup [.agg [.int .i64 (IntKind.i64.wrap (0 - IntKind.i64.wrap (IntKind.u64.wrap ((absI a).tdiv (gcdI (absI a) (absI b)))))), .int .i64 (IntKind.i64.wrap (IntKind.u64.wrap ((absI b).tdiv (gcdI (absI a) (absI b)))))], .int .i64 0])) else some (.ret (.tup [.agg [.int .i64 (IntKind.i64.wrap (IntKind.u64.wrap ((absI a).tdiv (gcdI (absI a) (absI b))))), .int .i64 (IntKind.i64.wrap (IntKind.u64.wrap ((absI b).tdiv (gcdI (absI a) (absI b)))))], .int .i64 0])) else none else none else none else none else none : Option Res) := by kernel_rfl
theorem i12_ok : SpecHolds Tryd.prog InvD 12 fun a => (i12.2 a).run := by
  refine specD sx12 Tryd.func12 (c := codeOf Tryd.prog 12) (by kernel_rfl) (lp12) (fun p hp => by
    have hl : loops (codeOf Tryd.prog 12) = [(0, bodyOf Tryd.prog 12 0)] := by kernel_rfl
    rw [hl, List.mem_singleton] at hp
    subst hp
    dsimp only [LoopOkT]
    refine ⟨by decide, by decide, fun vs _ => match vs with | [_, _, _, _, _, _, _, .int _ b] => b.toNat | _ => 0, fun vs H R hv hR => ?_⟩
    unfold f12s at hR
    split at hR
    · rename_i n m z a b x y p q
      obtain ⟨hc, hR⟩ := chk_run0 hR
      simp only [Tr.run, Option.some.injEq] at hR
      subst hR
      simp only [Bool.and_eq_true, decide_eq_true_eq] at hc
      obtain ⟨X, rfl⟩ := Int.eq_ofNat_of_zero_le hc.1
      obtain ⟨Y, rfl⟩ := Int.eq_ofNat_of_zero_le hc.2
      by_cases hy : Y = 0
      · subst hy
        have ht := loop12 n m z a b (X : Int) ((0 : Nat) : Int) p q
        rw [decide_eq_false (show ¬ (((0 : Nat) : Int) > 0) by omega)] at ht
        simp only [cond_false] at ht
        refine ⟨_, _, _, ht, ?_⟩
        dsimp only
        rw [gcdI_eq X 0, Nat.gcd_zero_right]
        rfl
      · have ht := loop12 n m z a b (X : Int) (Y : Int) p q
        rw [decide_eq_true (show ((Y : Int) > 0) by omega), show (!decide ((Y : Int) = 0)) = true by simp; omega] at ht
        simp only [cond_true] at ht
        refine ⟨_, _, _, ht, ?_, ?_⟩
        · have h3 : (X : Int).tmod (Y : Int) = ((X % Y : Nat) : Int) := rfl
          rw [h3]
          have hd : (decide (0 ≤ (Y : Int)) && decide (0 ≤ ((X % Y : Nat) : Int))) = true := by
            rw [Bool.and_eq_true]; exact ⟨decide_eq_true (Int.natCast_nonneg _), decide_eq_true (Int.natCast_nonneg _)⟩
          simp only [f12s, Tr.run, hd, cond_true, gcdI_eq, gcd_step X Y]
        · have h3 : (X : Int).tmod (Y : Int) = ((X % Y : Nat) : Int) := rfl
          simp only [h3, Int.toNat_natCast]
          exact Nat.mod_lt _ (by omega)
    · simp [Tr.run] at hR) fun args r hh => ?_
  simp only [i12] at hh
  split at hh
  · rename_i a b
    obtain ⟨hg, hh⟩ := chk_run0 hh
    refine ⟨by kernel_rfl, tr_ok (by rfl) hh, ?_⟩
    refine (vti12 a b).trans (Eq.trans ?_ hh)
    rw [Bool.and_eq_true] at hg
    exact mkTree a b hg.1 hg.2
  · simp [Tr.run] at hh
end Go.Proofs.YtekkphoingjidaaDoor

/- Contracts of Itoa and of the reference's decimal. Conditions: none beyond the context's. -/
namespace Go.Proofs.YtekkphoingjidaaDoor
open Go.Evl Go.RowKit
/-- the text of a number -/
def itS (n : Int) : ByteArray := if inI n then ⟨(Lib.itoa n).toArray⟩ else ⟨#[]⟩
def decS (n : Int) : ByteArray := if 0 ≤ n then ⟨(Lib.decDigits n.toNat).toArray⟩ else ⟨#[]⟩
def i42 : Ent := ⟨42, fun
  | [.int .i64 a] => .chk (inI a) (.leaf (.ret (.str (itS a))))
  | _ => .non⟩
theorem sx42 : (mkCx Tryd.prog (spOf [e76]) (inlOf [64]) extD).Ok InvD := cx_of [64] (by kernel_rfl) (by
  intro p hp
  simp only [List.mem_cons, List.not_mem_nil, or_false] at hp
  rcases hp with rfl
  · exact e76_ok)
theorem vti42 (a : Int) : evFn Tryd.prog (spOf [e76]) (inlOf [64]) extD (cKD [e76] [64]) (fun _ => .unroll 0) Tryd.f42 [.int .i64 a] [] (fun r _ => some r) =
    (bif true && (decide (-9223372036854775808 ≤ a) && decide (a ≤ 9223372036854775807)) then some (.ret (.str ⟨(itoaF a).toArray⟩)) else none : Option Res) := by kernel_rfl
theorem i42_ok : SpecHolds Tryd.prog InvD 42 fun a => (i42.2 a).run := by
  refine specD sx42 Tryd.func42 (c := codeOf Tryd.prog 42) (by kernel_rfl) (fun _ => .unroll 0) (fun _ _ => trivial) fun args r hh => ?_
  simp only [i42] at hh
  split at hh
  · rename_i a
    obtain ⟨hg, hh⟩ := chk_run0 hh
    refine ⟨by kernel_rfl, tr_ok (by rfl) hh, ?_⟩
    refine (vti42 a).trans (Eq.trans ?_ hh)
    have hg' := hg
    simp only [inI, decide_eq_true_eq] at hg'
    rw [decide_eq_true (show -9223372036854775808 ≤ a by omega), decide_eq_true (show a ≤ 9223372036854775807 by omega)]
    simp only [Bool.and_self, cond_true, Tr.run, itS, hg, if_true]
    rw [itoaF_eq a (by omega) (by omega)]
  · simp [Tr.run] at hh
/-- a number of up to d digits -/
def dgB (d : Nat) (n : Int) : Bool := decide (0 ≤ n) && decide (n.toNat < 10 ^ d)
def e43d (d : Nat) : Ent := ⟨43, fun
  | [.int .i64 a] => .chk (decide (0 < d) && dgB d a) (.leaf (.ret (.str (decS a))))
  | _ => .non⟩
abbrev one (x : Int) : ByteArray := { data := #[UInt8.ofNat (IntKind.u8.wrap (IntKind.i64.wrap x)).toNat] }
theorem vti43 (d : Nat) (a : Int) : evFn Tryd.prog (spOf [e43d d]) (inlOf []) extD (cKD [e43d d] []) (fun _ => .unroll 0) Tryd.f43 [.int .i64 a] [] (fun r _ => some r) =
    (bif decide (a < 10) then bif decide (0 ≤ IntKind.u8.wrap (IntKind.i64.wrap (48 + a)) ∧ IntKind.u8.wrap (IntKind.i64.wrap (48 + a)) < 256) && true then some (.ret (.str (one (48 + a)))) else none
     else bif decide (0 < d) && dgB d (IntKind.i64.wrap (a.tdiv 10)) then bif decide (0 ≤ IntKind.u8.wrap (IntKind.i64.wrap (48 + a.tmod 10)) ∧ IntKind.u8.wrap (IntKind.i64.wrap (48 + a.tmod 10)) < 256) && true then
       bif szOk (decS (IntKind.i64.wrap (a.tdiv 10))) (one (48 + a.tmod 10)) then some (.ret (.str (decS (IntKind.i64.wrap (a.tdiv 10)) ++ one (48 + a.tmod 10)))) else none else none else none : Option Res) := by kernel_rfl
theorem digF_len : ∀ (n u : Nat), (digF n u).length ≤ n := by
  intro n
  induction n with
  | zero => intro u; simp [digF]
  | succ n ih =>
    intro u
    simp only [digF]
    split
    · simp
    · have := ih (u / 10)
      simp only [List.length_append, List.length_cons, List.length_nil]; omega
theorem dec_len {d u : Nat} (hd : 0 < d) (h : u < 10 ^ d) : (Lib.decDigits u).length ≤ d := by
  rw [← digF_eq d u h hd]; exact digF_len d u
theorem decS_size {d : Nat} {n : Int} (hd : 0 < d) (h : n.toNat < 10 ^ d) : (decS n).size ≤ d := by
  unfold decS
  split
  · show (Lib.decDigits n.toNat).toArray.size ≤ d
    rw [List.size_toArray]; exact dec_len hd h
  · exact Nat.zero_le _
theorem one_eq {x : Nat} (h : x < 10) : one (48 + (x : Int)) = ⟨#[UInt8.ofNat (48 + x)]⟩ := by
  have e : (IntKind.u8.wrap (IntKind.i64.wrap (48 + (x : Int)))).toNat = 48 + x := by
    rw [wrapI (x := 48 + (x : Int)) (by omega) (by omega), IntKind.wrap_u8]; omega
  unfold one; rw [e]
theorem one_ok {x : Nat} (h : x < 10) : (decide (0 ≤ IntKind.u8.wrap (IntKind.i64.wrap (48 + (x : Int))) ∧ IntKind.u8.wrap (IntKind.i64.wrap (48 + (x : Int))) < 256) && true) = true := by
  rw [wrapI (x := 48 + (x : Int)) (by omega) (by omega), IntKind.wrap_u8, Bool.and_true, decide_eq_true_eq]; omega
theorem decS_small {x : Nat} (h : x < 10) : decS (x : Int) = ⟨#[UInt8.ofNat (48 + x)]⟩ := by
  unfold decS
  rw [if_pos (Int.natCast_nonneg x), Int.toNat_natCast, Lib.decDigits]
  simp [h]
theorem decS_step {x : Nat} (h : ¬ x < 10) : decS ((x / 10 : Nat) : Int) ++ ⟨#[UInt8.ofNat (48 + x % 10)]⟩ = decS (x : Int) := by
  unfold decS
  rw [if_pos (Int.natCast_nonneg x), if_pos (Int.natCast_nonneg _), Int.toNat_natCast, Int.toNat_natCast]
  apply ByteArray.ext
  rw [ByteArray.data_append]
  conv => rhs; rw [Lib.decDigits]
  simp [h]
theorem sx43 {d : Nat} (h : SpecHolds Tryd.prog InvD 43 fun a => ((e43d d).2 a).run) : (mkCx Tryd.prog (spOf [e43d d]) (inlOf []) extD).Ok InvD := cx_of [] (by kernel_rfl) (by
  intro p hp
  simp only [List.mem_cons, List.not_mem_nil, or_false] at hp
  rcases hp with rfl
  · exact h)
theorem e43d_ok : ∀ d : Nat, d ≤ 19 → SpecHolds Tryd.prog InvD 43 fun a => ((e43d d).2 a).run := by
  intro d
  induction d with
  | zero =>
    intro _ args r hh
    simp only [e43d] at hh
    split at hh
    · obtain ⟨hg, _⟩ := chk_run0 hh
      simp at hg
    · simp [Tr.run] at hh
  | succ d ih =>
    intro hd
    refine specD (sx43 (ih (by omega))) Tryd.func43 (c := codeOf Tryd.prog 43) (by kernel_rfl) (fun _ => .unroll 0) (fun _ _ => trivial) fun args r hh => ?_
    simp only [e43d] at hh
    split at hh
    · rename_i a
      obtain ⟨hg, hh⟩ := chk_run0 hh
      refine ⟨by kernel_rfl, tr_ok (by rfl) hh, ?_⟩
      refine (vti43 d a).trans (Eq.trans ?_ hh)
      simp only [dgB, Bool.and_eq_true, decide_eq_true_eq] at hg
      obtain ⟨_, h0, h1⟩ := hg
      obtain ⟨x, rfl⟩ := Int.eq_ofNat_of_zero_le h0
      rw [Int.toNat_natCast] at h1
      simp only [Tr.run]
      by_cases hx : x < 10
      · rw [decide_eq_true (show (x : Int) < 10 by omega), one_ok hx, one_eq hx, decS_small hx]; rfl
      · have hb : 10 ^ (d + 1) ≤ 10 ^ 19 := Nat.pow_le_pow_right (by omega) hd
        have hd0 : 0 < d := by
          rcases Nat.eq_zero_or_pos d with e | e
          · subst e; simp at h1; omega
          · exact e
        have e1 : (x : Int).tdiv 10 = ((x / 10 : Nat) : Int) := rfl
        have e2 : (x : Int).tmod 10 = ((x % 10 : Nat) : Int) := rfl
        have h2 : x / 10 < 10 ^ d := by rw [Nat.pow_succ] at h1; omega
        have hm : x % 10 < 10 := Nat.mod_lt _ (by omega)
        rw [e1, e2, wrapI (x := ((x / 10 : Nat) : Int)) (by omega) (by omega), one_ok hm, one_eq hm, decS_step hx, decide_eq_false (show ¬ (x : Int) < 10 by omega)]
        have hs : szOk (decS ((x / 10 : Nat) : Int)) ⟨#[UInt8.ofNat (48 + x % 10)]⟩ = true := by
          have := decS_size (n := ((x / 10 : Nat) : Int)) hd0 (by rw [Int.toNat_natCast]; exact h2)
          refine Nat.ble_eq_true_of_le ?_
          show _ + 1 ≤ _
          omega
        have hk : (decide (0 < d) && dgB d ((x / 10 : Nat) : Int)) = true := by
          simp only [dgB, Bool.and_eq_true, decide_eq_true_eq, Int.toNat_natCast]
          exact ⟨hd0, Int.natCast_nonneg _, h2⟩
        rw [hs, hk]; rfl
    · simp [Tr.run] at hh
end Go.Proofs.YtekkphoingjidaaDoor

/- Contracts of decimal, Check and Floor, each with one result. Conditions: none beyond the context's. -/
namespace Go.Proofs.YtekkphoingjidaaDoor
open Go.Evl Go.RowKit
def i43 : Ent := ⟨43, fun
  | [.int .i64 a] => .chk (decide (0 ≤ a) && decide (a ≤ 1152921504606846976)) (.leaf (.ret (.str (decS a))))
  | _ => .non⟩
theorem i43_ok : SpecHolds Tryd.prog InvD 43 fun a => (i43.2 a).run := by
  refine spec_weak0 (e43d_ok 19 (by omega)) fun args r h => ?_
  simp only [i43] at h
  split at h
  · rename_i a
    obtain ⟨hg, h⟩ := chk_run0 h
    rw [← h]
    simp only [Bool.and_eq_true, decide_eq_true_eq] at hg
    have hk : (decide (0 < 19) && dgB 19 a) = true := by
      simp only [dgB, Bool.and_eq_true, decide_eq_true_eq]
      exact ⟨by omega, hg.1, by omega⟩
    simp only [e43d, hk, Tr.run, cond_true]
  · simp [Tr.run] at h
def ckJ (a b : Int) : Int := if okB a b then 0 else 1
def flJ (a b : Int) : Int := if okB a b then a / b else 0
def i13 : Ent := ⟨13, fun
  | [.agg [.int .i64 a, .int .i64 b]] => .leaf (.ret (.int .i64 (ckJ a b)))
  | _ => .non⟩
theorem i13_ok : SpecHolds Tryd.prog InvD 13 fun a => (i13.2 a).run := by
  refine spec_weak0 e13_ok fun args r h => ?_
  simp only [i13] at h
  split at h
  · rename_i a b
    rw [← h]
    simp only [e13, Tr.run, ckJ]
    cases okB a b <;> rfl
  · simp [Tr.run] at h
def i14 : Ent := ⟨14, fun
  | [.agg [.int .i64 a, .int .i64 b]] => .leaf (.ret (.int .i64 (ckJ a b)))
  | _ => .non⟩
theorem i14_ok : SpecHolds Tryd.prog InvD 14 fun a => (i14.2 a).run := by
  refine spec_weak0 e14_ok fun args r h => ?_
  simp only [i14] at h
  split at h
  · rename_i a b
    rw [← h]
    simp only [e14, Tr.run, ckJ]
    cases okB a b <;> rfl
  · simp [Tr.run] at h
def i15 : Ent := ⟨15, fun
  | [.agg [.int .i64 a, .int .i64 b]] => .leaf (.ret (.int .i64 (flJ a b)))
  | _ => .non⟩
theorem i15_ok : SpecHolds Tryd.prog InvD 15 fun a => (i15.2 a).run := by
  refine spec_weak0 e15_ok fun args r h => ?_
  simp only [i15] at h
  split at h
  · rename_i a b
    rw [← h]
    simp only [e15, Tr.run, flJ]
    cases okB a b <;> rfl
  · simp [Tr.run] at h
theorem sx16 : (mkCx Tryd.prog (spOf [e14]) (inlOf []) extD).Ok InvD := cx_of [] (by kernel_rfl) (by
  intro p hp
  simp only [List.mem_cons, List.not_mem_nil, or_false] at hp
  rcases hp with rfl
  · exact e14_ok)
def i16 : Ent := ⟨16, fun
  | [.agg [.int .i64 a, .int .i64 b]] => .leaf (.ret (.int .i64 (flJ a b)))
  | _ => .non⟩
theorem vti16 (a b : Int) : evFn Tryd.prog (spOf [e14]) (inlOf []) extD (cKD [e14] []) (fun _ => .unroll 0) Tryd.f16 [.agg [.int .i64 a, .int .i64 b]] [] (fun r _ => some r) =
    (bif okB a b then bif decide (a < 0) then bif !decide (b = 0) then some (.ret (.int .i64 (IntKind.i64.wrap (0 - IntKind.i64.wrap ((IntKind.i64.wrap (IntKind.i64.wrap (IntKind.i64.wrap (0 - a) + b) - 1)).tdiv b))))) else none
      else bif !decide (b = 0) then some (.ret (.int .i64 (IntKind.i64.wrap (a.tdiv b)))) else none else some (.ret (.int .i64 0)) : Option Res) := by kernel_rfl
theorem i16_ok : SpecHolds Tryd.prog InvD 16 fun a => (i16.2 a).run := by
  refine specD sx16 Tryd.func16 (c := codeOf Tryd.prog 16) (by kernel_rfl) (fun _ => .unroll 0) (fun _ _ => trivial) fun args r hh => ?_
  simp only [i16] at hh
  split at hh
  · rename_i a b
    refine ⟨by kernel_rfl, tr_ok (by rfl) hh, ?_⟩
    refine (vti16 a b).trans (Eq.trans ?_ hh)
    simp only [Tr.run, flJ]
    by_cases hok : okB a b = true
    · obtain ⟨h1, h2, h3, h4, h5⟩ := okB_iff.1 hok
      obtain ⟨r1, r2⟩ := ediv_range h1 h3 h4
      have hb0 : (!decide (b = 0)) = true := by simp; omega
      rw [hok, hb0]
      simp only [cond_true, if_true]
      by_cases h0 : a < 0
      · rw [decide_eq_true h0, wrapI (x := 0 - a) (by omega) (by omega), wrapI (x := 0 - a + b) (by omega) (by omega), wrapI (x := 0 - a + b - 1) (by omega) (by omega), Int.tdiv_eq_ediv_of_nonneg (by omega)]
        have e : (0 - a + b - 1) / b = -(a / b) := by
          have := neg_floor (a := a) (b := b) (by omega)
          rw [show 0 - a + b - 1 = -a + b - 1 by omega, ← this]; omega
        rw [e, wrapI (x := -(a / b)) (by omega) (by omega), wrapI (by omega) (by omega)]
        simp
      · rw [decide_eq_false h0]
        simp only [cond_false]
        rw [Int.tdiv_eq_ediv_of_nonneg (show 0 ≤ a by omega), wrapI (x := a / b) (by omega) (by omega)]
    · rw [Bool.not_eq_true] at hok
      rw [hok]; rfl
  · simp [Tr.run] at hh
end Go.Proofs.YtekkphoingjidaaDoor

/- Contracts of Format and of its reference: one text. Conditions: none beyond the context's. -/
namespace Go.Proofs.YtekkphoingjidaaDoor
open Go.Evl Go.RowKit
abbrev bS (n : UInt8) : ByteArray := { data := #[n] }
def fmS (a b : Int) : ByteArray := if okB a b then (if b = 1 then itS a else itS a ++ (bS 47 ++ itS b)) else { data := #[] }
theorem ba_assoc (x y z : ByteArray) : x ++ y ++ z = x ++ (y ++ z) := by
  apply ByteArray.ext
  rw [ByteArray.data_append, ByteArray.data_append, ByteArray.data_append, ByteArray.data_append, Array.append_assoc]
theorem ba_size (x y : ByteArray) : (x ++ y).size = x.size + y.size := by
  show (x ++ y).data.size = x.data.size + y.data.size
  rw [ByteArray.data_append, Array.size_append]
theorem decS60 {n : Int} (h1 : n ≤ 1152921504606846976) : (decS n).size ≤ 19 := decS_size (by omega) (by omega)
theorem itS_pos {n : Int} (h0 : 0 ≤ n) (h1 : n ≤ 1152921504606846976) : itS n = decS n := by
  have hi : inI n = true := by simp only [inI, decide_eq_true_eq]; omega
  unfold itS decS
  rw [if_pos hi, if_pos h0, Lib.itoa, if_neg (by omega)]
theorem itS_neg {n : Int} (h0 : n < 0) (h1 : -1152921504606846976 ≤ n) : itS n = bS 45 ++ decS (-n) := by
  have hi : inI n = true := by simp only [inI, decide_eq_true_eq]; omega
  have e : (-n).toNat = n.natAbs := by omega
  unfold itS decS
  rw [if_pos hi, if_pos (show 0 ≤ -n by omega), Lib.itoa, if_pos h0, e]
  apply ByteArray.ext
  rw [ByteArray.data_append]
  simp
theorem itS_size {n : Int} (h0 : -1152921504606846976 ≤ n) (h1 : n ≤ 1152921504606846976) : (itS n).size ≤ 20 := by
  by_cases h : n < 0
  · rw [itS_neg h h0, ba_size]
    have := decS60 (n := -n) (by omega)
    show 1 + _ ≤ _
    omega
  · rw [itS_pos (by omega) h1]
    have := decS60 h1
    omega
theorem szOk_of {x y : ByteArray} (h : x.size + y.size ≤ 9223372036854775807) : szOk x y = true := Nat.ble_eq_true_of_le h
theorem sx17 : (mkCx Tryd.prog (spOf [e13, i42]) (inlOf []) extD).Ok InvD := cx_of [] (by kernel_rfl) (by
  intro p hp
  simp only [List.mem_cons, List.not_mem_nil, or_false] at hp
  rcases hp with rfl | rfl
  · exact e13_ok
  · exact i42_ok)
theorem sx18 : (mkCx Tryd.prog (spOf [e14, e41, i43]) (inlOf []) extD).Ok InvD := cx_of [] (by kernel_rfl) (by
  intro p hp
  simp only [List.mem_cons, List.not_mem_nil, or_false] at hp
  rcases hp with rfl | rfl | rfl
  · exact e14_ok
  · exact e41_ok
  · exact i43_ok)
def i17 : Ent := ⟨17, fun
  | [.agg [.int .i64 a, .int .i64 b]] => .leaf (.ret (.str (fmS a b)))
  | _ => .non⟩
def i18 : Ent := ⟨18, fun
  | [.agg [.int .i64 a, .int .i64 b]] => .leaf (.ret (.str (fmS a b)))
  | _ => .non⟩
abbrev RS (s : ByteArray) : Option Res := some (.ret (.str s))
theorem vti17 (a b : Int) : evFn Tryd.prog (spOf [e13, i42]) (inlOf []) extD (cKD [e13, i42] []) (fun _ => .unroll 0) Tryd.f17 [.agg [.int .i64 a, .int .i64 b]] [] (fun r _ => some r) =
    (bif okB a b then bif inI a then bif b != 1 then bif inI b then bif szOk (bS 47) (itS b) then bif szOk (itS a) (bS 47 ++ itS b) then RS (itS a ++ (bS 47 ++ itS b)) else none else none else none else RS (itS a) else none else RS { data := #[] } : Option Res) := by kernel_rfl
theorem vti18 (a b : Int) : evFn Tryd.prog (spOf [e14, e41, i43]) (inlOf []) extD (cKD [e14, e41, i43] []) (fun _ => .unroll 0) Tryd.f18 [.agg [.int .i64 a, .int .i64 b]] [] (fun r _ => some r) =
    (bif okB a b then bif decide (-9223372036854775808 < a) && decide (a < 9223372036854775808) then bif decide (0 ≤ absI a) && decide (absI a ≤ 1152921504606846976) then
      bif decide (a < 0) then bif szOk (bS 45) (decS (absI a)) then
        bif decide (b > 1) then bif szOk (bS 45 ++ decS (absI a)) (bS 47) then bif decide (0 ≤ b) && decide (b ≤ 1152921504606846976) then bif szOk (bS 45 ++ decS (absI a) ++ bS 47) (decS b) then RS (bS 45 ++ decS (absI a) ++ bS 47 ++ decS b) else none else none else none else RS (bS 45 ++ decS (absI a)) else none
      else bif decide (b > 1) then bif szOk (decS (absI a)) (bS 47) then bif decide (0 ≤ b) && decide (b ≤ 1152921504606846976) then bif szOk (decS (absI a) ++ bS 47) (decS b) then RS (decS (absI a) ++ bS 47 ++ decS b) else none else none else none else RS (decS (absI a))
    else none else none else RS { data := #[] } : Option Res) := by kernel_rfl
theorem i17_ok : SpecHolds Tryd.prog InvD 17 fun a => (i17.2 a).run := by
  refine specD sx17 Tryd.func17 (c := codeOf Tryd.prog 17) (by kernel_rfl) (fun _ => .unroll 0) (fun _ _ => trivial) fun args r hh => ?_
  simp only [i17] at hh
  split at hh
  · rename_i a b
    refine ⟨by kernel_rfl, tr_ok (by rfl) hh, ?_⟩
    refine (vti17 a b).trans (Eq.trans ?_ hh)
    simp only [Tr.run, fmS]
    by_cases hok : okB a b = true
    · obtain ⟨h1, h2, h3, h4, h5⟩ := okB_iff.1 hok
      have ia : inI a = true := by simp only [inI, decide_eq_true_eq]; omega
      have ib : inI b = true := by simp only [inI, decide_eq_true_eq]; omega
      have sa := itS_size h3 h4
      have sb := itS_size (n := b) (by omega) h2
      have s1 : szOk (bS 47) (itS b) = true := szOk_of (by show 1 + _ ≤ _; omega)
      have s2 : szOk (itS a) (bS 47 ++ itS b) = true := szOk_of (by rw [ba_size]; show _ + (1 + _) ≤ _; omega)
      rw [hok, ia, ib, s1, s2]
      by_cases hb : b = 1
      · subst hb; rfl
      · rw [bne_iff_ne.2 hb]
        simp only [cond_true, if_true, if_neg hb]
    · rw [Bool.not_eq_true] at hok
      rw [hok]; rfl
  · simp [Tr.run] at hh
theorem i18_ok : SpecHolds Tryd.prog InvD 18 fun a => (i18.2 a).run := by
  refine specD sx18 Tryd.func18 (c := codeOf Tryd.prog 18) (by kernel_rfl) (fun _ => .unroll 0) (fun _ _ => trivial) fun args r hh => ?_
  simp only [i18] at hh
  split at hh
  · rename_i a b
    refine ⟨by kernel_rfl, tr_ok (by rfl) hh, ?_⟩
    refine (vti18 a b).trans (Eq.trans ?_ hh)
    simp only [Tr.run, fmS]
    by_cases hok : okB a b = true
    · obtain ⟨h1, h2, h3, h4, h5⟩ := okB_iff.1 hok
      have r0 : 0 ≤ absI a ∧ absI a ≤ 1152921504606846976 := by rw [absI_eq]; omega
      have sa := decS60 (n := absI a) r0.2
      have sb := decS60 h2
      have s1 : szOk (bS 45) (decS (absI a)) = true := szOk_of (by show 1 + _ ≤ _; omega)
      have s2 : szOk (bS 45 ++ decS (absI a)) (bS 47) = true := szOk_of (by rw [ba_size]; show 1 + _ + 1 ≤ _; omega)
      have s3 : szOk (bS 45 ++ decS (absI a) ++ bS 47) (decS b) = true := szOk_of (by rw [ba_size, ba_size]; show 1 + _ + 1 + _ ≤ _; omega)
      have s4 : szOk (decS (absI a)) (bS 47) = true := szOk_of (by show _ + 1 ≤ _; omega)
      have s5 : szOk (decS (absI a) ++ bS 47) (decS b) = true := szOk_of (by rw [ba_size]; show _ + 1 + _ ≤ _; omega)
      rw [hok, s1, s2, s3, s4, s5, decide_eq_true (show -9223372036854775808 < a by omega), decide_eq_true (show a < 9223372036854775808 by omega), decide_eq_true r0.1, decide_eq_true r0.2, decide_eq_true (show 0 ≤ b by omega), decide_eq_true h2]
      simp only [Bool.and_self, cond_true, if_true]
      have eb := itS_pos (n := b) (by omega) h2
      by_cases hs : a < 0
      · have ea := itS_neg hs h3
        have e1 : absI a = -a := by rw [absI_eq]; omega
        rw [decide_eq_true hs, e1]
        by_cases hb : b = 1
        · subst hb
          rw [if_pos rfl, ea]; rfl
        · rw [decide_eq_true (show b > 1 by omega), if_neg hb, ea, eb]
          simp only [cond_true, RS, ba_assoc]
      · have ea := itS_pos (n := a) (by omega) h4
        have e1 : absI a = a := by rw [absI_eq]; omega
        rw [decide_eq_false hs, e1]
        by_cases hb : b = 1
        · subst hb
          rw [if_pos rfl, ea]; rfl
        · rw [decide_eq_true (show b > 1 by omega), if_neg hb, ea, eb]
          simp only [cond_true, cond_false, RS, ba_assoc]
    · rw [Bool.not_eq_true] at hok
      rw [hok]; rfl
  · simp [Tr.run] at hh
end Go.Proofs.YtekkphoingjidaaDoor

/- Contracts of Go's library at this dump, by the shelf's own tool: strconv.Atoi at every string, strings.Cut. Conditions: each its own. -/
namespace Go.Proofs
open Go.Shelf
def Tryd.laysC172_ren : Go.Shelf.Ren := ⟨fun | 172 => 60 | 244 => 74 | 245 => 75 | 247 => 82 | 279 => 83 | 280 => 84 | 281 => 85 | 282 => 86 | 287 => 96 | 316 => 97 | 171 => 42 | 205 => 98 | 321 => 106 | 322 => 107 | 243 => 64 | 246 => 76 | 283 => 87 | 284 => 88 | 285 => 89 | 286 => 90 | 129 => 100 | 317 => 99 | 318 => 101 | 319 => 102 | 320 => 103 | 337 => 108 | 338 => 109 | n => n, fun | 9 => 9 | 3 => 3 | 75 => 68 | 76 => 69 | 4 => 4 | 5 => 5 | 167 => 91 | 37 => 74 | 0 => 0 | 85 => 92 | 2 => 2 | 168 => 94 | 53 => 44 | 175 => 103 | 46 => 89 | 210 => 107 | 127 => 117 | 145 => 120 | 143 => 118 | 21 => 21 | 171 => 97 | 173 => 100 | 212 => 110 | 51 => 111 | 20 => 20 | 213 => 112 | 232 => 122 | 233 => 123 | 80 => 124 | n => n, fun | 15 => 3 | 16 => 4 | 17 => 5 | 18 => 6 | 19 => 7 | n => n⟩
theorem Tryd.laysC172 : Go.Proofs.LaysC.n172 Tryd.prog Tryd.laysC172_ren := {
  mixed := by kernel_rfl
  f129 := Tryd.func100.trans (congrArg some (by kernel_rfl))
  f171 := Tryd.func42.trans (congrArg some (by kernel_rfl))
  f172 := Tryd.func60.trans (congrArg some (by kernel_rfl))
  f205 := Tryd.func98.trans (congrArg some (by kernel_rfl))
  f243 := Tryd.func64.trans (congrArg some (by kernel_rfl))
  f244 := Tryd.func74.trans (congrArg some (by kernel_rfl))
  f245 := Tryd.func75.trans (congrArg some (by kernel_rfl))
  f246 := Tryd.func76.trans (congrArg some (by kernel_rfl))
  f247 := Tryd.func82.trans (congrArg some (by kernel_rfl))
  f279 := Tryd.func83.trans (congrArg some (by kernel_rfl))
  f280 := Tryd.func84.trans (congrArg some (by kernel_rfl))
  f281 := Tryd.func85.trans (congrArg some (by kernel_rfl))
  f282 := Tryd.func86.trans (congrArg some (by kernel_rfl))
  f283 := Tryd.func87.trans (congrArg some (by kernel_rfl))
  f284 := Tryd.func88.trans (congrArg some (by kernel_rfl))
  f285 := Tryd.func89.trans (congrArg some (by kernel_rfl))
  f286 := Tryd.func90.trans (congrArg some (by kernel_rfl))
  f287 := Tryd.func96.trans (congrArg some (by kernel_rfl))
  f316 := Tryd.func97.trans (congrArg some (by kernel_rfl))
  f317 := Tryd.func99.trans (congrArg some (by kernel_rfl))
  f318 := Tryd.func101.trans (congrArg some (by kernel_rfl))
  f319 := Tryd.func102.trans (congrArg some (by kernel_rfl))
  f320 := Tryd.func103.trans (congrArg some (by kernel_rfl))
  f321 := Tryd.func106.trans (congrArg some (by kernel_rfl))
  f322 := Tryd.func107.trans (congrArg some (by kernel_rfl))
  f337 := Tryd.func108.trans (congrArg some (by kernel_rfl))
  f338 := Tryd.func109.trans (congrArg some (by kernel_rfl))
  t0 := Tryd.underlying0
  a0 := Tryd.isAgg0
  z0 := Tryd.sizeOf0
  v0 := Tryd.zeroValue0
  t2 := Tryd.underlying2
  a2 := Tryd.isAgg2
  z2 := Tryd.sizeOf2
  v2 := Tryd.zeroValue2
  t3 := Tryd.underlying3
  a3 := Tryd.isAgg3
  z3 := Tryd.sizeOf3
  v3 := Tryd.zeroValue3
  t4 := Tryd.underlying4
  a4 := Tryd.isAgg4
  z4 := Tryd.sizeOf4
  v4 := Tryd.zeroValue4
  t5 := Tryd.underlying5
  a5 := Tryd.isAgg5
  z5 := Tryd.sizeOf5
  v5 := Tryd.zeroValue5
  t9 := Tryd.underlying9
  a9 := Tryd.isAgg9
  z9 := Tryd.sizeOf9
  v9 := Tryd.zeroValue9
  t20 := Tryd.underlying20
  a20 := Tryd.isAgg20
  z20 := Tryd.sizeOf20
  v20 := Tryd.zeroValue20
  t21 := Tryd.underlying21
  a21 := Tryd.isAgg21
  z21 := Tryd.sizeOf21
  v21 := Tryd.zeroValue21
  t37 := Tryd.underlying74
  a37 := Tryd.isAgg74
  z37 := Tryd.sizeOf74
  v37 := Tryd.zeroValue74
  t46 := Tryd.underlying89
  a46 := Tryd.isAgg89
  z46 := Tryd.sizeOf89
  v46 := Tryd.zeroValue89
  t51 := Tryd.underlying111
  a51 := Tryd.isAgg111
  z51 := Tryd.sizeOf111
  v51 := Tryd.zeroValue111
  t53 := Tryd.underlying44
  a53 := Tryd.isAgg44
  z53 := Tryd.sizeOf44
  v53 := Tryd.zeroValue44
  t75 := Tryd.underlying68
  a75 := Tryd.isAgg68
  z75 := Tryd.sizeOf68
  v75 := Tryd.zeroValue68
  t76 := Tryd.underlying69
  a76 := Tryd.isAgg69
  z76 := Tryd.sizeOf69
  v76 := Tryd.zeroValue69
  t85 := Tryd.underlying92
  a85 := Tryd.isAgg92
  z85 := Tryd.sizeOf92
  v85 := Tryd.zeroValue92
  t127 := Tryd.underlying117
  a127 := Tryd.isAgg117
  z127 := Tryd.sizeOf117
  v127 := Tryd.zeroValue117
  t143 := Tryd.underlying118
  a143 := Tryd.isAgg118
  z143 := Tryd.sizeOf118
  v143 := Tryd.zeroValue118
  t145 := Tryd.underlying120
  a145 := Tryd.isAgg120
  z145 := Tryd.sizeOf120
  v145 := Tryd.zeroValue120
  t167 := Tryd.underlying91
  a167 := Tryd.isAgg91
  z167 := Tryd.sizeOf91
  v167 := Tryd.zeroValue91
  t168 := Tryd.underlying94
  a168 := Tryd.isAgg94
  z168 := Tryd.sizeOf94
  v168 := Tryd.zeroValue94
  t171 := Tryd.underlying97
  a171 := Tryd.isAgg97
  z171 := Tryd.sizeOf97
  v171 := Tryd.zeroValue97
  t173 := Tryd.underlying100
  a173 := Tryd.isAgg100
  z173 := Tryd.sizeOf100
  v173 := Tryd.zeroValue100
  t175 := Tryd.underlying103
  a175 := Tryd.isAgg103
  z175 := Tryd.sizeOf103
  v175 := Tryd.zeroValue103
  t210 := Tryd.underlying107
  a210 := Tryd.isAgg107
  z210 := Tryd.sizeOf107
  v210 := Tryd.zeroValue107
  t212 := Tryd.underlying110
  a212 := Tryd.isAgg110
  z212 := Tryd.sizeOf110
  v212 := Tryd.zeroValue110
  t213 := Tryd.underlying112
  a213 := Tryd.isAgg112
  z213 := Tryd.sizeOf112
  t232 := Tryd.underlying122
  a232 := Tryd.isAgg122
  z232 := Tryd.sizeOf122
  v232 := Tryd.zeroValue122
  t233 := Tryd.underlying123
  a233 := Tryd.isAgg123
  z233 := Tryd.sizeOf123
  v233 := Tryd.zeroValue123
  g15 := by kernel_rfl
  g16 := by kernel_rfl
  g17 := by kernel_rfl
  g18 := by kernel_rfl
  g19 := by kernel_rfl
  t80 := Tryd.underlying124
  a80 := Tryd.isAgg124
  z80 := Tryd.sizeOf124
  v80 := Tryd.zeroValue124
  i0 := by kernel_rfl
  i2 := by kernel_rfl
  i3 := by kernel_rfl
  i4 := by kernel_rfl
  i5 := by kernel_rfl
  i9 := by kernel_rfl
  i20 := by kernel_rfl
  i21 := by kernel_rfl
  i37 := by kernel_rfl
  i46 := by kernel_rfl
  i51 := by kernel_rfl
  i53 := by kernel_rfl
  i75 := by kernel_rfl
  i76 := by kernel_rfl
  i80 := by kernel_rfl
  i85 := by kernel_rfl
  i127 := by kernel_rfl
  i143 := by kernel_rfl
  i145 := by kernel_rfl
  i167 := by kernel_rfl
  i168 := by kernel_rfl
  i171 := by kernel_rfl
  i173 := by kernel_rfl
  i175 := by kernel_rfl
  i210 := by kernel_rfl
  i212 := by kernel_rfl
  i232 := by kernel_rfl
  i233 := by kernel_rfl
  m15 := by kernel_rfl
  m16 := by kernel_rfl
  m17 := by kernel_rfl
  m18 := by kernel_rfl
  m19 := by kernel_rfl
  c0 := by kernel_rfl
  c2 := by kernel_rfl
  c3 := by kernel_rfl
  c4 := by kernel_rfl
  c5 := by kernel_rfl
  c9 := by kernel_rfl
  c20 := by kernel_rfl
  c21 := by kernel_rfl
  c37 := by kernel_rfl
  c46 := by kernel_rfl
  c51 := by kernel_rfl
  c53 := by kernel_rfl
  c75 := by kernel_rfl
  c76 := by kernel_rfl
  c80 := by kernel_rfl
  c85 := by kernel_rfl
  c127 := by kernel_rfl
  c143 := by kernel_rfl
  c145 := by kernel_rfl
  c167 := by kernel_rfl
  c168 := by kernel_rfl
  c171 := by kernel_rfl
  c173 := by kernel_rfl
  c175 := by kernel_rfl
  c210 := by kernel_rfl
  c212 := by kernel_rfl
  c213 := by kernel_rfl
  c232 := by kernel_rfl
  c233 := by kernel_rfl }
def Tryd.lays145_ren : Go.Shelf.Ren := ⟨fun | 145 => 59 | 220 => 73 | 219 => 81 | 217 => 92 | 225 => 93 | 224 => 94 | 267 => 95 | 266 => 104 | 314 => 105 | n => n, fun | 9 => 9 | 4 => 4 | 59 => 65 | 3 => 3 | 5 => 5 | 46 => 89 | 146 => 114 | 51 => 111 | n => n, fun | 1 => 2 | n => n⟩
theorem Tryd.lays145 : Go.Proofs.Lays.n145 Tryd.prog Tryd.lays145_ren := {
  mixed := by kernel_rfl
  f145 := Tryd.func59.trans (congrArg some (by kernel_rfl))
  f217 := Tryd.func92.trans (congrArg some (by kernel_rfl))
  f219 := Tryd.func81.trans (congrArg some (by kernel_rfl))
  f220 := Tryd.func73.trans (congrArg some (by kernel_rfl))
  f224 := Tryd.func94.trans (congrArg some (by kernel_rfl))
  f225 := Tryd.func93.trans (congrArg some (by kernel_rfl))
  f266 := Tryd.func104.trans (congrArg some (by kernel_rfl))
  f267 := Tryd.func95.trans (congrArg some (by kernel_rfl))
  f314 := Tryd.func105.trans (congrArg some (by kernel_rfl))
  t3 := Tryd.underlying3
  a3 := Tryd.isAgg3
  z3 := Tryd.sizeOf3
  v3 := Tryd.zeroValue3
  t4 := Tryd.underlying4
  a4 := Tryd.isAgg4
  z4 := Tryd.sizeOf4
  v4 := Tryd.zeroValue4
  t5 := Tryd.underlying5
  a5 := Tryd.isAgg5
  z5 := Tryd.sizeOf5
  v5 := Tryd.zeroValue5
  t9 := Tryd.underlying9
  a9 := Tryd.isAgg9
  z9 := Tryd.sizeOf9
  v9 := Tryd.zeroValue9
  t46 := Tryd.underlying89
  a46 := Tryd.isAgg89
  z46 := Tryd.sizeOf89
  v46 := Tryd.zeroValue89
  t51 := Tryd.underlying111
  a51 := Tryd.isAgg111
  z51 := Tryd.sizeOf111
  v51 := Tryd.zeroValue111
  t59 := Tryd.underlying65
  a59 := Tryd.isAgg65
  z59 := Tryd.sizeOf65
  v59 := Tryd.zeroValue65
  t146 := Tryd.underlying114
  a146 := Tryd.isAgg114
  z146 := Tryd.sizeOf114
  v146 := Tryd.zeroValue114
  g1 := by kernel_rfl }
theorem Tryd.strings_Cut (s sep : ByteArray) (m : Int) (w : World) (hs : s.size < 4294967281) (hm : w.cell? ⟨2, 0, none⟩ = some (.int .i64 m)) :
    Calls Tryd.prog 59 #[.string s, .string sep] w fun e w' => e = .returned (.tuple #[.string ⟨(Lib.cut s.data.toList sep.data.toList).1.toArray⟩, .string ⟨(Lib.cut s.data.toList sep.data.toList).2.1.toArray⟩, .bool (Lib.cut s.data.toList sep.data.toList).2.2]) ∧ ∃ n, w' = w.drewN n := Any.strings_Cut Tryd.lays145 s sep m w hs hm
end Go.Proofs

/- The texts of fractions and what parses them: plain lists of bytes. No condition. -/
namespace Go.Proofs.YtekkphoingjidaaDoor

def isD (c : UInt8) : Prop := 48 ≤ c.toNat ∧ c.toNat ≤ 57
theorem ofNat_toNat {x : Nat} (h : x < 10) : (UInt8.ofNat (48 + x)).toNat = 48 + x := by
  rw [UInt8.toNat_ofNat']; omega
theorem dec_step {u : Nat} (h : ¬ u < 10) : Lib.decDigits u = Lib.decDigits (u / 10) ++ [UInt8.ofNat (48 + u % 10)] := by
  rw [Lib.decDigits, dif_neg h]
theorem dec_small {u : Nat} (h : u < 10) : Lib.decDigits u = [UInt8.ofNat (48 + u)] := by
  rw [Lib.decDigits, dif_pos h]
theorem dec_all (u : Nat) : ∀ c ∈ Lib.decDigits u, isD c := by
  induction u using Nat.strongRecOn with
  | _ u ih =>
    by_cases h : u < 10
    · rw [dec_small h]
      intro c hc
      simp only [List.mem_singleton] at hc
      subst hc
      unfold isD
      rw [ofNat_toNat h]; omega
    · rw [dec_step h]
      intro c hc
      rcases List.mem_append.1 hc with hc | hc
      · exact ih (u / 10) (by omega) c hc
      · simp only [List.mem_singleton] at hc
        subst hc
        unfold isD
        rw [ofNat_toNat (by omega)]; omega
theorem dec_ne (u : Nat) : Lib.decDigits u ≠ [] := by
  by_cases h : u < 10
  · rw [dec_small h]; simp
  · rw [dec_step h]; simp
theorem pu_append : ∀ (l r : List UInt8) (a v : Nat), Lib.parseUint10 a l = .ok v → Lib.parseUint10 a (l ++ r) = Lib.parseUint10 v r
  | [], r, a, v, h => by
    simp only [Lib.parseUint10, Lib.NumEnd.ok.injEq] at h
    subst h; rfl
  | c :: l, r, a, v, h => by
    simp only [Lib.parseUint10, List.cons_append] at h ⊢
    split at h
    · rename_i h1
      rw [if_pos h1]
      split at h
      · cases h
      · rename_i h2
        rw [if_neg h2]
        split at h
        · cases h
        · rename_i h3
          rw [if_neg h3]
          exact pu_append l r _ v h
    · cases h
theorem pu_dec (u : Nat) (hu : u < 18446744073709551616) : Lib.parseUint10 0 (Lib.decDigits u) = .ok u := by
  induction u using Nat.strongRecOn with
  | _ u ih =>
    by_cases h : u < 10
    · rw [dec_small h]
      simp only [Lib.parseUint10]
      rw [ofNat_toNat h, if_pos (by omega), if_neg (by omega), if_neg (by omega)]
      congr 1; omega
    · rw [dec_step h, pu_append _ _ _ _ (ih (u / 10) (by omega) (by omega))]
      simp only [Lib.parseUint10]
      rw [ofNat_toNat (by omega), if_pos (by omega), if_neg (by omega), if_neg (by omega)]
      congr 1; omega
theorem atoi_itoa (n : Int) (h0 : -1152921504606846976 ≤ n) (h1 : n ≤ 1152921504606846976) : Lib.atoiAll (Lib.itoa n) = .ok n := by
  unfold Lib.itoa
  by_cases hn : n < 0
  · rw [if_pos hn]
    have hm : Lib.parseMag (Lib.decDigits n.natAbs) = .ok n.natAbs := by
      unfold Lib.parseMag
      rw [if_neg (dec_ne _), pu_dec _ (by omega)]
    simp only [Lib.atoiAll]
    have e45 : (45 : UInt8).toNat = 45 := rfl
    rw [e45, if_pos (Or.inr rfl), hm]
    simp only [not_true_eq_false, false_and, if_false, true_and, if_true]
    rw [if_neg (by omega)]
    congr 1; omega
  · rw [if_neg hn]
    cases hd : Lib.decDigits n.toNat with
    | nil => exact absurd hd (dec_ne _)
    | cons c r =>
      have hc : isD c := dec_all n.toNat c (by rw [hd]; simp)
      unfold isD at hc
      have hm : Lib.parseMag (c :: r) = .ok n.toNat := by
        unfold Lib.parseMag
        rw [if_neg (by simp), ← hd, pu_dec _ (by omega)]
      simp only [Lib.atoiAll]
      rw [if_neg (by omega), hm]
      have e : ¬ c.toNat = 45 := by omega
      simp only [e, not_false_eq_true, true_and, false_and, if_false]
      rw [if_neg (by omega)]
      congr 1; omega
theorem itoa_no47 (n : Int) : (47 : UInt8) ∉ Lib.itoa n := by
  unfold Lib.itoa
  intro h
  have hd : ∀ u : Nat, (47 : UInt8) ∉ Lib.decDigits u := fun u h => by
    have := dec_all u _ h
    unfold isD at this
    have e : (47 : UInt8).toNat = 47 := rfl
    omega
  split at h
  · rcases List.mem_cons.1 h with h | h
    · exact absurd h (by decide)
    · exact hd _ h
  · exact hd _ h
theorem itoa_ne (n : Int) : Lib.itoa n ≠ [] := by
  unfold Lib.itoa
  split
  · simp
  · exact dec_ne _
theorem pre1 (c : UInt8) : ∀ l : List UInt8, [c].isPrefixOf l = (match l with
    | [] => false
    | x :: _ => c == x)
  | [] => rfl
  | x :: l => by simp [List.isPrefixOf]
theorem index_no : ∀ l : List UInt8, (47 : UInt8) ∉ l → Lib.index l [47] = -1
  | [], _ => rfl
  | c :: l, h => by
    unfold Lib.index
    rw [pre1]
    have hc : ((47 : UInt8) == c) = false := by
      simp only [beq_eq_false_iff_ne, ne_eq]
      intro e
      exact h (by rw [e]; simp)
    simp only [hc, index_no l (fun hm => h (List.mem_cons_of_mem _ hm))]
    rfl
theorem index_at : ∀ l r : List UInt8, (47 : UInt8) ∉ l → Lib.index (l ++ 47 :: r) [47] = l.length
  | [], r, _ => by
    simp only [List.nil_append]
    unfold Lib.index
    rw [pre1]
    rfl
  | c :: l, r, h => by
    simp only [List.cons_append]
    unfold Lib.index
    rw [pre1]
    have hc : ((47 : UInt8) == c) = false := by
      simp only [beq_eq_false_iff_ne, ne_eq]
      intro e
      exact h (by rw [e]; simp)
    have ih := index_at l r (fun hm => h (List.mem_cons_of_mem _ hm))
    have e2 : ((l.length : Int) == -1) = false := by
      simp only [beq_eq_false_iff_ne, ne_eq]; omega
    simp only [hc, ih, e2, if_false, Bool.false_eq_true, List.length_cons]
    omega
theorem cut_no {l : List UInt8} (h : (47 : UInt8) ∉ l) : Lib.cut l [47] = (l, [], false) := by
  unfold Lib.cut
  rw [index_no l h, if_neg (by decide)]
theorem cut_at {l r : List UInt8} (h : (47 : UInt8) ∉ l) : Lib.cut (l ++ 47 :: r) [47] = (l, r, true) := by
  unfold Lib.cut
  rw [index_at l r h, if_pos (by omega)]
  simp

/-- what Atoi reads -/
def atK (l : List UInt8) : Bool := match Lib.atoiAll l with
  | .ok _ => true
  | _ => false
def atV (l : List UInt8) : Int := match Lib.atoiAll l with
  | .ok v => v
  | .range => Lib.atoiSat l
  | _ => 0
/-- the fraction that a text can only be -/
def cA (l : List UInt8) : Int := atV (Lib.cut l [47]).1
def cB (l : List UInt8) : Int := if (Lib.cut l [47]).2.2 then atV (Lib.cut l [47]).2.1 else 1
def cK (l : List UInt8) : Bool := atK (Lib.cut l [47]).1 && (!(Lib.cut l [47]).2.2 || atK (Lib.cut l [47]).2.1)
def fL (a b : Int) : List UInt8 := if b = 1 then Lib.itoa a else Lib.itoa a ++ 47 :: Lib.itoa b
theorem cand_fL {a b : Int} (h0 : -1152921504606846976 ≤ a) (h1 : a ≤ 1152921504606846976) (h2 : 1 ≤ b) (h3 : b ≤ 1152921504606846976) :
    cA (fL a b) = a ∧ cB (fL a b) = b ∧ cK (fL a b) = true := by
  unfold cA cB cK fL atV atK
  by_cases hb : b = 1
  · rw [if_pos hb, cut_no (itoa_no47 a)]
    simp [atoi_itoa a h0 h1, hb]
  · rw [if_neg hb, cut_at (itoa_no47 a)]
    simp [atoi_itoa a h0 h1, atoi_itoa b (by omega) h3]
/-! the reference's reading -/
def stp (n : Int) (c : Int) : Bool := decide (c < 48) || decide (c > 57) || decide (n > 115292150460684697)
def numR (n : Int) : List UInt8 → Option Int
  | [] => some n
  | c :: r => if stp n c.toNat then none else numR (10 * n + ((c.toNat : Int) - 48)) r
theorem numR_append : ∀ (l r : List UInt8) (n : Int), numR n (l ++ r) = (numR n l).bind fun m => numR m r
  | [], r, n => rfl
  | c :: l, r, n => by
    simp only [List.cons_append, numR]
    split
    · rfl
    · exact numR_append l r _
theorem stp_no {n c : Int} (h0 : 48 ≤ c) (h1 : c ≤ 57) (h2 : n ≤ 115292150460684697) : stp n c = false := by
  simp only [stp, Bool.or_eq_false_iff, decide_eq_false_iff_not]; omega
theorem numR_dec (u : Nat) (hu : u ≤ 1152921504606846976) : numR 0 (Lib.decDigits u) = some (u : Int) := by
  induction u using Nat.strongRecOn with
  | _ u ih =>
    by_cases h : u < 10
    · rw [dec_small h]
      simp only [numR, ofNat_toNat h]
      rw [stp_no (by omega) (by omega) (by omega), if_neg (by simp)]
      congr 1; omega
    · rw [dec_step h, numR_append, ih (u / 10) (by omega) (by omega)]
      simp only [Option.bind_some, numR]
      rw [ofNat_toNat (by omega), stp_no (by omega) (by omega) (by omega), if_neg (by simp)]
      congr 1; omega
/-- the number that a text of digits is, and whether it is one -/
def nuV (l : List UInt8) : Int := match numR 0 l with
  | some n => n
  | none => 0
def nuK (l : List UInt8) : Bool := match numR 0 l with
  | some n => !l.isEmpty && decide (n ≤ 1152921504606846976)
  | none => false
theorem nu_dec (u : Nat) (hu : u ≤ 1152921504606846976) : nuV (Lib.decDigits u) = u ∧ nuK (Lib.decDigits u) = true := by
  unfold nuV nuK
  rw [numR_dec u hu]
  refine ⟨rfl, ?_⟩
  have := dec_ne u
  cases hd : Lib.decDigits u with
  | nil => exact absurd hd this
  | cons c r => simp; omega
end Go.Proofs.YtekkphoingjidaaDoor

/- Contracts of strings.Cut and strconv.Atoi for the evaluator, and the invariant they need. Conditions: the variables that they read stand in the world. -/
namespace Go.Proofs.YtekkphoingjidaaDoor
open Go.Evl Go.RowKit

def ifV (v : Value) : Prop := v = .nilIface ∨ ∃ te pe, v = .iface te pe
structure InvP (w : World) : Prop where
  d : InvD w
  m : ∃ m, w.cell? ⟨2, 0, none⟩ = some (.int .i64 m)
  s : ∃ v, w.cell? ⟨3, 0, none⟩ = some v ∧ ifV v
  r : ∃ v, w.cell? ⟨4, 0, none⟩ = some v ∧ ifV v
theorem below_cell {w w' : World} (hb : Below w.heap.size w w') {b : Nat} {v : Value} (h : w.cell? ⟨b, 0, none⟩ = some v) : w'.cell? ⟨b, 0, none⟩ = some v := by
  have hl : b < w.heap.size := Lib.lt_of_cell h
  exact (cell_eq (hb.block b hl)).trans h
theorem stableP : Stable InvP := fun w w' h hb =>
  ⟨stableD w w' h.d hb, h.m.imp fun _ e => below_cell hb e, h.s.imp fun _ e => ⟨below_cell hb e.1, e.2⟩, h.r.imp fun _ e => ⟨below_cell hb e.1, e.2⟩⟩
theorem spec_inv {P : Program} {I J : World → Prop} {f : FuncId} {s : List AV → Option Res} (h : SpecHolds P I f s) (hi : ∀ w, J w → I w) : SpecHolds P J f s :=
  fun args r hs ρ A w vs hA hj hv => h args r hs ρ A w vs hA (hi w hj) hv
theorem spec_P {f : FuncId} {s : List AV → Option Res} (h : SpecHolds Tryd.prog InvD f s) : SpecHolds Tryd.prog InvP f s := spec_inv h fun _ => InvP.d

abbrev bL (s : ByteArray) : List UInt8 := s.data.toList
def cutL (s p : ByteArray) : ByteArray := ⟨(Lib.cut (bL s) (bL p)).1.toArray⟩
def cutR (s p : ByteArray) : ByteArray := ⟨(Lib.cut (bL s) (bL p)).2.1.toArray⟩
def cutK (s p : ByteArray) : Bool := (Lib.cut (bL s) (bL p)).2.2
def e59 : Ent := ⟨59, fun
  | [.str s, .str p] => .chk (Nat.ble s.size 4294967280) (.leaf (.ret (.tup [.str (cutL s p), .str (cutR s p), .bool (cutK s p)])))
  | _ => .non⟩
theorem below_drewN (B : Nat) (w : World) (n : Nat) : Below B w (w.drewN n) := ⟨rfl, rfl, rfl, Nat.le_refl _, fun _ _ => rfl⟩
theorem rvs_str1 {ρ : Nat → Nat} {A : Nat → Prop} {w : World} {n : Nat → Prop} {x : ByteArray} {vs : List Value} (h : Rvs ρ A w n [.str x] vs) : vs = [.string x] := by
  obtain ⟨hl, hv⟩ := h
  match vs, hl with
  | [u], _ => have := hv 0 (by simp) (by simp); simp only [List.getElem_cons_zero] at this; rw [this.of_str]
theorem rvs_str2 {ρ : Nat → Nat} {A : Nat → Prop} {w : World} {n : Nat → Prop} {x y : ByteArray} {vs : List Value} (h : Rvs ρ A w n [.str x, .str y] vs) : vs = [.string x, .string y] := by
  obtain ⟨hl, hv⟩ := h
  match vs, hl with
  | [u, v], _ =>
    have h0 := hv 0 (by simp) (by simp)
    have h1 := hv 1 (by simp) (by simp)
    simp only [List.getElem_cons_zero, List.getElem_cons_succ] at h0 h1
    rw [h0.of_str, h1.of_str]
theorem e59_ok : SpecHolds Tryd.prog InvP 59 fun a => (e59.2 a).run := by
  intro args r h ρ A w vs hA hi hv
  simp only [e59] at h
  split at h
  · rename_i s p
    obtain ⟨hc, h⟩ := chk_run0 h
    simp only [Tr.run, Option.some.injEq] at h
    subst h
    rw [rvs_str2 hv]
    obtain ⟨m, hm⟩ := hi.m
    have hs : s.size ≤ 4294967280 := Nat.le_of_ble_eq_true hc
    refine (Tryd.strings_Cut s p m w (by omega) hm).mono ?_
    rintro e w' ⟨rfl, n, rfl⟩
    refine ⟨below_drewN _ _ _, _, rfl, ?_⟩
    refine .tup (vs := [_, _, _]) rfl fun i h1 h2 => ?_
    match i, h1 with
    | 0, _ => exact .str
    | 1, _ => exact .str
    | 2, _ => exact .bool
  · simp [Tr.run] at h

def atW (l : List UInt8) : Int := atV l
def e60 : Ent := ⟨60, fun
  | [.str s] => .chk (Nat.ble s.size 281474976710656) (.node (atK (bL s)) (.leaf (.ret (.tup [.int .i64 (atV (bL s)), .raw .nilIface]))) (.leaf (.ret (.tup [.int .i64 (atV (bL s)), .iface 94 .junk]))))
  | _ => .non⟩
theorem rv_pairE {ρ : Nat → Nat} {A : Nat → Prop} {w : World} {n : Nat → Prop} {k : IntKind} {x : Int} {a : AV} {v : Value} (h : Rv ρ A w n a v) : Rv ρ A w n (.tup [.int k x, a]) (.tuple #[.int k x, v]) :=
  .tup (vs := [.int k x, v]) rfl fun i h1 h2 => by
    match i, h1 with
    | 0, _ => exact .int
    | 1, _ => exact h
theorem e60_ok : SpecHolds Tryd.prog InvP 60 fun a => (e60.2 a).run := by
  intro args r h ρ A w vs hA hi hv
  simp only [e60] at h
  split at h
  · rename_i s
    obtain ⟨hc, h⟩ := chk_run0 h
    rw [rvs_str1 hv]
    have hs : s.size ≤ 281474976710656 := Nat.le_of_ble_eq_true hc
    simp only [Tr.run] at h
    cases ha : Lib.atoiAll s.data.toList
    case ok v =>
      have hk : atK (bL s) = true := by unfold atK; rw [ha]
      have hv' : atV (bL s) = v := by unfold atV; rw [ha]
      rw [hk, hv'] at h
      simp only [cond_true, Option.some.injEq] at h
      subst h
      refine (Any.strconv_Atoi_ok Tryd.laysC172 s (by omega) v ha w).mono ?_
      rintro e w' ⟨rfl, hw⟩
      refine ⟨?_, _, rfl, rv_pairE .raw⟩
      rcases hw with rfl | ⟨t, rfl⟩
      · exact Below.refl _ _
      · exact Joins.below_bytesWorld _ _ _ _ (Nat.le_refl _)
    case range =>
      have hk : atK (bL s) = false := by unfold atK; rw [ha]
      have hv' : atV (bL s) = Lib.atoiSat (bL s) := by unfold atV; rw [ha]
      rw [hk, hv'] at h
      simp only [cond_false, Option.some.injEq] at h
      subst h
      obtain ⟨ev, he, hev⟩ := hi.r
      refine (Any.strconv_Atoi_range Tryd.laysC172 s hs ha ev w he hev).mono ?_
      rintro e w' ⟨N, rfl, _, _, hb⟩
      exact ⟨hb, _, rfl, rv_pairE (.iface .junk)⟩
    have hk : atK (bL s) = false := by unfold atK; rw [ha]
    have hv' : atV (bL s) = 0 := by unfold atV; rw [ha]
    rw [hk, hv'] at h
    simp only [cond_false, Option.some.injEq] at h
    subst h
    obtain ⟨ev, he, hev⟩ := hi.s
    refine (Any.strconv_Atoi_syntax Tryd.laysC172 s hs ha ev w he hev).mono ?_
    rintro e w' ⟨N, rfl, _, _, hb⟩
    exact ⟨hb, _, rfl, rv_pairE (.iface .junk)⟩
  · simp [Tr.run] at h
end Go.Proofs.YtekkphoingjidaaDoor

/- The reference's number: its contract. Condition: as for FP1. -/
namespace Go.Proofs.YtekkphoingjidaaDoor
open Go.Evl Go.RowKit
def bt (s : ByteArray) (i : Int) : Int := ((s[i.toNat]?).getD 0).toNat
def bt8 (s : ByteArray) (i : Nat) : UInt8 := (s[i]?).getD 0
/-- the loop of number: whether it comes to the end, its number, where it is -/
def numS (s : ByteArray) : Nat → Int → Int → Bool × Int × Int
  | 0, i, n => (true, n, i)
  | k + 1, i, n => if stp n (bt s i) then (false, n, i) else numS s k (i + 1) (10 * n + (bt s i - 48))
abbrev keep61 : List Nat := [0, 2, 3, 4, 5]
abbrev vs61 (s : ByteArray) (a : Int) (b : Bool) (n i : Int) : List AV := [.str s, .int .i64 a, .bool b, .int .i64 n, .int .i64 i]
def num61 (s : ByteArray) (i n : Int) : Bool × Int × Int := numS s (s.size - i.toNat) i n
def f61s : List AV → List Ob → Tr (Ex × List AV × List Ob)
  | [.str s, .int .i64 a, .bool b, .int .i64 n, .int .i64 i], [] =>
    .chk (decide (0 ≤ i) && (decide (i ≤ (s.size : Int)) && (decide (0 ≤ n) && Nat.ble s.size 4294967280)))
      (.node (num61 s i n).1 (.leaf (.exit 0, vs61 s a b (num61 s i n).2.1 (num61 s i n).2.2, [])) (.leaf (.ret, vs61 s 0 false (num61 s i n).2.1 (num61 s i n).2.2, [])))
  | _, _ => .non
abbrev lp61 (_ : Nat) : LT := .sum keep61 f61s
theorem bt_range (s : ByteArray) (i : Int) : 0 ≤ bt s i ∧ bt s i < 256 := by
  unfold bt
  have := UInt8.toNat_lt ((s[i.toNat]?).getD 0)
  omega
theorem loop61 (s : ByteArray) (a : Int) (b : Bool) (n i : Int) : evC (β := Ex × List AV × List Ob) Tryd.prog (spOf []) (inlOf []) extD (cKD [] []) lp61 (bodyOf Tryd.prog 61 0) ⟨mkF Tryd.f61.ntmps keep61 (vs61 s a b n i), []⟩
      (fun e st => (cutBack keep61 0 st).map fun q => (e, q.1, q.2)) =
    bif decide (i < (s.size : Int)) then bif decide (0 ≤ i) && decide (i < (s.size : Int)) then
      bif decide (bt s i < 48) then some (.ret, vs61 s 0 false n i, []) else bif decide (0 ≤ i) && decide (i < (s.size : Int)) then bif decide (bt s i > 57) then some (.ret, vs61 s 0 false n i, [])
      else bif decide (n > 115292150460684697) then some (.ret, vs61 s 0 false n i, []) else bif decide (0 ≤ i) && decide (i < (s.size : Int)) then
        some (.normal, vs61 s a b (IntKind.i64.wrap (IntKind.i64.wrap (10 * n) + IntKind.i64.wrap (IntKind.u8.wrap (bt s i - 48)))) (IntKind.i64.wrap (i + 1)), []) else none
      else none else none else some (.exit 0, vs61 s a b n i, []) := by kernel_rfl
theorem wrap8 {x : Int} (h0 : 0 ≤ x) (h1 : x < 256) : IntKind.u8.wrap x = x := by
  have : IntKind.u8.wrap x = x % 256 := rfl
  rw [this]; omega
def nuI (s : ByteArray) : Int := if (num61 s 0 0).1 then (num61 s 0 0).2.1 else 0
def nuB (s : ByteArray) : Bool := (num61 s 0 0).1 && (decide ((s.size : Int) > 0) && decide ((num61 s 0 0).2.1 ≤ 1152921504606846976))
def i61 : Ent := ⟨61, fun
  | [.str s] => .chk (Nat.ble s.size 4294967280) (.leaf (.ret (.tup [.int .i64 (nuI s), .bool (nuB s)])))
  | _ => .non⟩
abbrev R61 (n : Int) (b : Bool) : Option Res := some (.ret (.tup [.int .i64 n, .bool b]))
theorem t61 (s : ByteArray) : evFn Tryd.prog (spOf []) (inlOf []) extD (cKD [] []) lp61 Tryd.f61 [.str s] [] (fun r _ => some r) =
    (bif true && (true && (true && Nat.ble s.size 4294967280)) then bif (num61 s 0 0).1 then bif decide ((s.size : Int) > 0) then bif decide ((num61 s 0 0).2.1 ≤ 1152921504606846976) then R61 (num61 s 0 0).2.1 true else R61 (num61 s 0 0).2.1 false
      else R61 (num61 s 0 0).2.1 false else R61 0 false else none) := by kernel_rfl
theorem i61_ok : SpecHolds Tryd.prog InvD 61 fun a => (i61.2 a).run := by
  refine specD sx0 Tryd.func61 (c := codeOf Tryd.prog 61) (by kernel_rfl) lp61 (fun p hp => ?_) fun args r h => ?_
  · have hl : loops (codeOf Tryd.prog 61) = [(0, bodyOf Tryd.prog 61 0)] := by kernel_rfl
    rw [hl, List.mem_singleton] at hp
    subst hp
    dsimp only [LoopOkT]
    refine ⟨by decide, by decide, fun vs _ => match vs with | [.str s, _, _, _, .int _ i] => s.size - i.toNat | _ => 0, fun vs H R hv hR => ?_⟩
    unfold f61s at hR
    split at hR
    · rename_i s a b n i
      obtain ⟨hc, hR⟩ := chk_run0 hR
      simp only [Bool.and_eq_true, decide_eq_true_eq] at hc
      obtain ⟨h0, h1, h2, h3⟩ := hc
      have hsz : s.size ≤ 4294967280 := Nat.le_of_ble_eq_true h3
      have ht := loop61 s a b n i
      have hb := bt_range s i
      by_cases hi : i < (s.size : Int)
      · have hk : s.size - i.toNat = (s.size - (i + 1).toNat) + 1 := by omega
        have hin : (decide (0 ≤ i) && decide (i < (s.size : Int))) = true := by simp [h0, hi]
        rw [hin, decide_eq_true hi] at ht
        simp only [cond_true] at ht
        unfold num61 at hR
        rw [hk] at hR
        simp only [numS] at hR
        by_cases hs : stp n (bt s i) = true
        · simp only [hs, if_true, Tr.run, cond_false, Option.some.injEq] at hR
          subst hR
          refine ⟨.ret, vs61 s 0 false n i, [], ht.trans ?_, rfl⟩
          simp only [stp, Bool.or_eq_true, decide_eq_true_eq] at hs
          by_cases c1 : bt s i < 48
          · simp [c1]
          · by_cases c2 : bt s i > 57
            · simp [c1, c2]
            · simp [c1, c2, show n > 115292150460684697 by omega]
        · simp only [stp, Bool.or_eq_true, decide_eq_true_eq, not_or] at hs
          obtain ⟨⟨c1, c2⟩, c3⟩ := hs
          have hst : stp n (bt s i) = false := by simp [stp, c1, c2, c3]
          simp only [hst, Bool.false_eq_true, if_false] at hR
          rw [decide_eq_false c1, decide_eq_false c2, decide_eq_false c3] at ht
          simp only [cond_false] at ht
          rw [wrap8 (x := bt s i - 48) (by omega) (by omega), wrapI (x := bt s i - 48) (by omega) (by omega), wrapI (x := 10 * n) (by omega) (by omega), wrapI (x := 10 * n + (bt s i - 48)) (by omega) (by omega), wrapI (x := i + 1) (by omega) (by omega)] at ht
          refine ⟨.normal, _, _, ht, ?_, ?_⟩
          · simp only [f61s, num61, Tr.run]
            rw [show (decide (0 ≤ i + 1) && (decide (i + 1 ≤ (s.size : Int)) && (decide (0 ≤ 10 * n + (bt s i - 48)) && Nat.ble s.size 4294967280))) = true by
              simp only [Bool.and_eq_true, decide_eq_true_eq]; exact ⟨by omega, by omega, by omega, h3⟩]
            exact hR
          · dsimp only; omega
      · have hk : s.size - i.toNat = 0 := by omega
        rw [decide_eq_false hi] at ht
        simp only [cond_false] at ht
        unfold num61 at hR
        rw [hk] at hR
        simp only [numS, Tr.run, cond_true, Option.some.injEq] at hR
        subst hR
        exact ⟨.exit 0, _, _, ht, rfl⟩
    · simp [Tr.run] at hR
  · simp only [i61] at h
    split at h
    · rename_i s
      obtain ⟨hc, h⟩ := chk_run0 h
      simp only [Tr.run, Option.some.injEq] at h
      subst h
      refine ⟨rfl, rfl, ?_⟩
      rw [t61, hc]
      simp only [Bool.and_self, cond_true, nuI, nuB]
      cases (num61 s 0 0).1 with
      | false => simp
      | true =>
        cases decide ((s.size : Int) > 0) <;> cases decide ((num61 s 0 0).2.1 ≤ 1152921504606846976) <;> rfl
    · simp [Tr.run] at h
/-! what it gives at digits -/
theorem bt_get {s : ByteArray} {i : Nat} (h : i < s.size) : bt s (i : Int) = (((bL s)[i]'(by simpa using h)).toNat : Int) := by
  unfold bt
  simp only [Int.toNat_natCast]
  rw [getElem?_pos s i h]
  rfl
theorem numS_of (s : ByteArray) : ∀ (k i : Nat) (n m : Int), k + i = s.size → numR n ((bL s).drop i) = some m → numS s k i n = (true, m, (s.size : Int))
  | 0, i, n, m, hk, h => by
    have : (bL s).drop i = [] := List.drop_eq_nil_of_le (by simp; omega)
    rw [this] at h
    simp only [numR, Option.some.injEq] at h
    subst h
    simp only [numS]
    congr 2
    omega
  | k + 1, i, n, m, hk, h => by
    have hi : i < s.size := by omega
    have hl : i < (bL s).length := by simpa using hi
    rw [List.drop_eq_getElem_cons hl] at h
    simp only [numR] at h
    simp only [numS]
    rw [bt_get hi]
    split at h
    · simp at h
    · rename_i hs
      rw [if_neg hs]
      exact numS_of s k (i + 1) _ m (by omega) h
theorem nu_of {s : ByteArray} {u : Nat} (hs : bL s = Lib.decDigits u) (hu : u ≤ 1152921504606846976) : nuI s = u ∧ nuB s = true := by
  have h := numS_of s s.size 0 0 u (by omega) (by rw [List.drop_zero, hs]; exact numR_dec u hu)
  have h61 : num61 s 0 0 = (true, (u : Int), (s.size : Int)) := by simpa [num61] using h
  have hne : 0 < s.size := by
    have : (bL s).length = s.size := by simp
    have h2 := dec_ne u
    rw [← hs] at h2
    have := List.length_pos_iff.2 h2
    omega
  unfold nuI nuB
  rw [h61]
  refine ⟨rfl, ?_⟩
  simp only [Bool.true_and, Bool.and_eq_true, decide_eq_true_eq]
  omega
end Go.Proofs.YtekkphoingjidaaDoor

/- The reference's Parse: its loop and its tree. Condition: as for FP1. -/
namespace Go.Proofs.YtekkphoingjidaaDoor
open Go.Evl Go.RowKit
/-- the parts of a text at its first slash -/
def rcut (s : ByteArray) : Nat → ByteArray → ByteArray → ByteArray × ByteArray
  | 0, p, q => (p, q)
  | k + 1, p, q => if bt s k = 47 then rcut s k (s.extract 0 k) (s.extract (k + 1) s.size) else rcut s k p q
abbrev keep33 : List Nat := [0, 2, 3, 4, 5, 6, 7]
abbrev vs33 (s : ByteArray) (z : Int) (p q : ByteArray) (i : Int) : List AV := [.str s, .ptr 0 0, .int .i64 z, .ptr 1 0, .str p, .str q, .int .i64 i]
abbrev hp33 (a b c d : Int) : List Ob := [.cells [.int .i64 a, .int .i64 b] 23, .cells [.int .i64 c, .int .i64 d] 23]
def f33s : List AV → List Ob → Tr (Ex × List AV × List Ob)
  | [.str s, .ptr 0 0, .int .i64 z, .ptr 1 0, .str p, .str q, .int .i64 i], [.cells [.int .i64 a, .int .i64 b] 23, .cells [.int .i64 c, .int .i64 d] 23] =>
    .chk (decide (-1 ≤ i) && (decide (i < (s.size : Int)) && Nat.ble s.size 4294967280))
      (.leaf (.exit 0, vs33 s z (rcut s (i + 1).toNat p q).1 (rcut s (i + 1).toNat p q).2 (-1), hp33 a b c d))
  | _, _ => .non
abbrev lp33 (_ : Nat) : LT := .sum keep33 f33s
theorem loop33 (s : ByteArray) (z : Int) (p q : ByteArray) (i a b c d : Int) : evC (β := Ex × List AV × List Ob) Tryd.prog (spOf [i61, i18]) (inlOf []) extD (cKD [i61, i18] []) lp33 (bodyOf Tryd.prog 33 0) ⟨mkF Tryd.f33.ntmps keep33 (vs33 s z p q i), hp33 a b c d⟩
      (fun e st => (cutBack keep33 2 st).map fun q => (e, q.1, q.2)) =
    bif decide (i ≥ 0) then bif decide (0 ≤ i) && decide (i < (s.size : Int)) then
      bif bt s i == 47 then bif decide (0 ≤ i ∧ i ≤ (s.size : Int)) then bif decide (0 ≤ IntKind.i64.wrap (i + 1) ∧ IntKind.i64.wrap (i + 1) ≤ (s.size : Int)) then
        some (.normal, vs33 s z (s.extract 0 i.toNat) (s.extract (IntKind.i64.wrap (i + 1)).toNat s.size) (IntKind.i64.wrap (i - 1)), hp33 a b c d) else none else none
      else some (.normal, vs33 s z p q (IntKind.i64.wrap (i - 1)), hp33 a b c d) else none
    else some (.exit 0, vs33 s z p q i, hp33 a b c d) := by kernel_rfl
abbrev ER : Option Res := some (.ret (.tup [.agg [.int .i64 0, .int .i64 0], .int .i64 3]))
abbrev OK33 (x d : Int) : Option Res := some (.ret (.tup [.agg [.int .i64 x, .int .i64 d], .int .i64 0]))
def B33 (s : ByteArray) (x d : Int) (ok : Bool) : Option Res := bif !ok then ER else bif !((fmS x d).toList == s.toList) then ER else OK33 x d
def A33 (s p q : ByteArray) (sg : Int) (b : Bool) : Option Res := bif !(q.toList == ByteArray.toList ⟨#[]⟩) then bif Nat.ble q.size 4294967280 then
    bif nuB q then B33 s (IntKind.i64.wrap (sg * nuI p)) (nuI q) (bif b then true else false) else B33 s (IntKind.i64.wrap (sg * nuI p)) (nuI q) (bif b then false else false) else none
  else B33 s (IntKind.i64.wrap (sg * nuI p)) 1 b
def N33 (s p q : ByteArray) (sg : Int) : Option Res := bif Nat.ble p.size 4294967280 then bif nuB p then A33 s p q sg true else A33 s p q sg false else none
def T33 (s p q : ByteArray) : Option Res := bif decide ((p.size : Int) > 0) then bif true && decide ((0 : Int) < (p.size : Int)) then bif bt p 0 == 45 then
    bif decide (0 ≤ (1 : Int) ∧ (1 : Int) ≤ (p.size : Int)) then N33 s (p.extract 1 p.size) q (-1) else none else N33 s p q 1 else none else N33 s p q 1
abbrev ix (s : ByteArray) : Int := IntKind.i64.wrap ((s.size : Int) - 1)
theorem t33 (s : ByteArray) : evFn Tryd.prog (spOf [i61, i18]) (inlOf []) extD (cKD [i61, i18] []) lp33 Tryd.f33 [.str s] [] (fun r _ => some r) =
    bif decide (-1 ≤ ix s) && (decide (ix s < (s.size : Int)) && Nat.ble s.size 4294967280) then T33 s (rcut s (ix s + 1).toNat s ⟨#[]⟩).1 (rcut s (ix s + 1).toNat s ⟨#[]⟩).2 else none := by kernel_rfl
end Go.Proofs.YtekkphoingjidaaDoor

/- Contracts of Parse and of its reference: the fraction that has the text, if there is one. Condition: as for FP1. -/
namespace Go.Proofs.YtekkphoingjidaaDoor
open Go.Evl Go.RowKit
/-- is a text that of a fraction? -/
def psK (s : ByteArray) : Bool := okB (cA (bL s)) (cB (bL s)) && ((fmS (cA (bL s)) (cB (bL s))).toList == s.toList)
def psN (s : ByteArray) : Int := if psK s then cA (bL s) else 0
def psD (s : ByteArray) : Int := if psK s then cB (bL s) else 0
def psE (s : ByteArray) : Int := if psK s then 0 else 3
theorem ba_eq {x y : ByteArray} (h : (x.toList == y.toList) = true) : x = y := by
  have h := eq_of_beq h
  rw [ByteArray.toList_eq, ByteArray.toList_eq] at h
  cases x; cases y
  simp only [ByteArray.mk.injEq]
  exact Array.ext' h
theorem ba_eqL {x y : ByteArray} (h : bL x = bL y) : x = y := by
  cases x; cases y
  simp only [ByteArray.mk.injEq]
  exact Array.ext' h
theorem ba_neL {x y : ByteArray} (h : x ≠ y) : (x.toList == y.toList) = false := by
  cases hb : (x.toList == y.toList) with
  | false => rfl
  | true => exact absurd (ba_eq hb) h
theorem ba_refl (x : ByteArray) : (x.toList == x.toList) = true := by simp
theorem bL_size (s : ByteArray) : (bL s).length = s.size := by simp
theorem bL_append (x y : ByteArray) : bL (x ++ y) = bL x ++ bL y := by simp
theorem okB_range {a b : Int} (h : okB a b = true) : -1152921504606846976 ≤ a ∧ a ≤ 1152921504606846976 ∧ 1 ≤ b ∧ b ≤ 1152921504606846976 := by
  simp only [okB, decide_eq_true_eq] at h; omega
theorem inI_of {a : Int} (h0 : -1152921504606846976 ≤ a) (h1 : a ≤ 1152921504606846976) : inI a = true := by simp only [inI, decide_eq_true_eq]; omega
theorem bL_itS {a : Int} (h0 : -1152921504606846976 ≤ a) (h1 : a ≤ 1152921504606846976) : bL (itS a) = Lib.itoa a := by
  unfold itS; rw [if_pos (inI_of h0 h1)]
theorem bL_fmS {a b : Int} (h : okB a b = true) : bL (fmS a b) = fL a b := by
  obtain ⟨h0, h1, h2, h3⟩ := okB_range h
  unfold fmS fL
  rw [if_pos h]
  split
  · exact bL_itS h0 h1
  · rw [bL_append, bL_append, bL_itS h0 h1, bL_itS (by omega) h3]
    rfl
theorem cand_fmS {a b : Int} (h : okB a b = true) : cA (bL (fmS a b)) = a ∧ cB (bL (fmS a b)) = b ∧ cK (bL (fmS a b)) = true := by
  obtain ⟨h0, h1, h2, h3⟩ := okB_range h
  rw [bL_fmS h]
  exact cand_fL h0 h1 h2 h3
theorem ps_fmS {a b : Int} (h : okB a b = true) : psK (fmS a b) = true ∧ psN (fmS a b) = a ∧ psD (fmS a b) = b ∧ psE (fmS a b) = 0 := by
  obtain ⟨h1, h2, h3⟩ := cand_fmS h
  have hk : psK (fmS a b) = true := by unfold psK; rw [h1, h2, h, ba_refl]; rfl
  unfold psN psD psE
  rw [hk, h1, h2]
  exact ⟨rfl, rfl, rfl, rfl⟩
theorem ps_of {s : ByteArray} (h : psK s = true) : ∃ a b, okB a b = true ∧ s = fmS a b := by
  unfold psK at h
  rw [Bool.and_eq_true] at h
  exact ⟨_, _, h.1, (ba_eq h.2).symm⟩
theorem fmS_pos {a b : Int} (h : okB a b = true) : 0 < (fmS a b).size := by
  obtain ⟨h0, h1, h2, h3⟩ := okB_range h
  rw [← bL_size, bL_fmS h]
  unfold fL
  have := List.length_pos_iff.2 (itoa_ne a)
  split
  · exact this
  · rw [List.length_append]; omega
theorem fmS_size {a b : Int} : (fmS a b).size ≤ 41 := by
  unfold fmS
  split
  · rename_i h
    obtain ⟨h0, h1, h2, h3⟩ := okB_range h
    split
    · have := itS_size h0 h1; omega
    · have e1 := itS_size h0 h1
      have e2 := itS_size (n := b) (by omega) h3
      rw [ba_size, ba_size]
      have : (bS 47).size = 1 := rfl
      omega
  · exact Nat.zero_le _
theorem fm_not {s : ByteArray} (h : psK s = false) (h0 : 0 < s.size) (x d : Int) : ((fmS x d).toList == s.toList) = false := by
  refine ba_neL fun e => ?_
  by_cases ho : okB x d = true
  · have := (ps_fmS ho).1
    rw [e, h] at this
    exact absurd this (by decide)
  · unfold fmS at e
    rw [if_neg ho] at e
    rw [← e] at h0
    exact absurd h0 (by decide)
theorem B33_no {s : ByteArray} (h : psK s = false) {x d : Int} {ok : Bool} (hk : ok = true → 0 < s.size) : B33 s x d ok = ER := by
  unfold B33
  cases ok with
  | false => rfl
  | true => simp [fm_not h (hk rfl) x d]
theorem B33_yes {x d : Int} (_h : okB x d = true) : B33 (fmS x d) x d true = OK33 x d := by
  unfold B33
  rw [ba_refl]
  rfl
/-! the reference's cut -/
theorem rcut_size {s : ByteArray} : ∀ (k : Nat) (p q : ByteArray), k ≤ s.size → p.size ≤ s.size → q.size ≤ s.size → (rcut s k p q).1.size ≤ s.size ∧ (rcut s k p q).2.size ≤ s.size
  | 0, p, q, _, hp, hq => ⟨hp, hq⟩
  | k + 1, p, q, hk, hp, hq => by
    simp only [rcut]
    split
    · refine rcut_size k _ _ (by omega) ?_ ?_ <;> rw [ByteArray.size_extract] <;> omega
    · exact rcut_size k p q (by omega) hp hq
theorem rcut_no {s : ByteArray} : ∀ (k : Nat) (p q : ByteArray), (∀ i, i < k → bt s (i : Int) ≠ 47) → rcut s k p q = (p, q)
  | 0, p, q, _ => rfl
  | k + 1, p, q, h => by
    simp only [rcut]
    rw [if_neg (h k (by omega))]
    exact rcut_no k p q (fun i hi => h i (by omega))
theorem rcut_at {s : ByteArray} {j : Nat} (h0 : ∀ i, i < j → bt s (i : Int) ≠ 47) (h1 : bt s (j : Int) = 47) : ∀ (k : Nat) (p q : ByteArray), j < k → rcut s k p q = (s.extract 0 j, s.extract (j + 1) s.size)
  | 0, p, q, h => by omega
  | k + 1, p, q, h => by
    simp only [rcut]
    by_cases hj : k = j
    · subst hj
      rw [if_pos h1]
      exact rcut_no k _ _ h0
    · split
      · exact rcut_at h0 h1 k _ _ (by omega)
      · exact rcut_at h0 h1 k _ _ (by omega)
theorem bt_list {s : ByteArray} {l r : List UInt8} (hs : bL s = l ++ r) : ∀ i, i < l.length → bt s (i : Int) ≠ 47 ∨ (47 : UInt8) ∈ l := by
  intro i hi
  have hl : i < s.size := by rw [← bL_size, hs, List.length_append]; omega
  by_cases h : (47 : UInt8) ∈ l
  · exact .inr h
  · refine .inl fun e => h ?_
    rw [bt_get hl] at e
    have e2 : (bL s)[i]'(by rw [bL_size]; exact hl) = l[i] := by
      simp only [hs]
      exact List.getElem_append_left hi
    rw [e2] at e
    have e3 : l[i] = 47 := UInt8.toNat_inj.1 (by have : ((47 : UInt8).toNat : Int) = 47 := rfl; omega)
    rw [← e3]
    exact List.getElem_mem hi
theorem extract_bL (s : ByteArray) (a b : Nat) : bL (s.extract a b) = ((bL s).take b).drop a := by
  show (s.extract a b).data.toList = _
  rw [ByteArray.data_extract, Array.toList_extract]
  simp [List.drop_take]
/-- the parts of a fraction's text -/
theorem rcut_fm {a b : Int} (h : okB a b = true) : rcut (fmS a b) (fmS a b).size (fmS a b) ⟨#[]⟩ = (itS a, if b = 1 then ⟨#[]⟩ else itS b) := by
  obtain ⟨h0, h1, h2, h3⟩ := okB_range h
  have hL := bL_fmS h
  unfold fL at hL
  by_cases hb : b = 1
  · rw [if_pos hb] at hL
    rw [if_pos hb, rcut_no]
    · have : fmS a b = itS a := ba_eqL (by rw [hL, bL_itS h0 h1])
      rw [this]
    · intro i hi
      rcases bt_list (l := Lib.itoa a) (r := []) (by rw [hL, List.append_nil]) i (by rw [← hL, bL_size]; exact hi) with e | e
      · exact e
      · exact absurd e (itoa_no47 a)
  · rw [if_neg hb] at hL
    rw [if_neg hb]
    have hlen : (Lib.itoa a).length < (fmS a b).size := by rw [← bL_size, hL, List.length_append, List.length_cons]; omega
    have hno : ∀ i, i < (Lib.itoa a).length → bt (fmS a b) (i : Int) ≠ 47 := fun i hi => by
      rcases bt_list hL i hi with e | e
      · exact e
      · exact absurd e (itoa_no47 a)
    have hat : bt (fmS a b) ((Lib.itoa a).length : Int) = 47 := by
      rw [bt_get hlen]
      simp only [hL]
      rw [List.getElem_append_right (Nat.le_refl _)]
      simp
    rw [rcut_at hno hat _ _ _ hlen]
    congr 1
    · refine ba_eqL ?_
      rw [extract_bL, hL, bL_itS h0 h1]
      simp
    · refine ba_eqL ?_
      rw [extract_bL, hL, bL_itS (by omega) h3, ← bL_size, hL, List.take_length]
      rw [show Lib.itoa a ++ 47 :: Lib.itoa b = (Lib.itoa a ++ [47]) ++ Lib.itoa b by simp, show (Lib.itoa a).length + 1 = (Lib.itoa a ++ [47]).length by simp, List.drop_left]
theorem nu_itS {n : Int} (h0 : 0 ≤ n) (h1 : n ≤ 1152921504606846976) : nuI (itS n) = n ∧ nuB (itS n) = true := by
  have hs : bL (itS n) = Lib.decDigits n.toNat := by
    rw [bL_itS (by omega) h1]
    unfold Lib.itoa
    rw [if_neg (by omega)]
  have := nu_of hs (by omega)
  rw [this.1]
  exact ⟨by omega, this.2⟩
theorem bt_neg {a : Int} (h0 : -1152921504606846976 ≤ a) (hn : a < 0) : bt (itS a) 0 = 45 ∧ 1 ≤ (itS a).size ∧ bL ((itS a).extract 1 (itS a).size) = Lib.decDigits a.natAbs := by
  have hs : bL (itS a) = 45 :: Lib.decDigits a.natAbs := by
    rw [bL_itS h0 (by omega)]
    unfold Lib.itoa
    rw [if_pos hn]
  have hsz : 0 < (itS a).size := by rw [← bL_size, hs]; simp
  refine ⟨?_, hsz, ?_⟩
  · have := bt_get hsz
    simp only [hs] at this
    exact this
  · rw [extract_bL, ← bL_size, List.take_length, hs]
    rfl
theorem bt_pos {a : Int} (h0 : 0 ≤ a) (h1 : a ≤ 1152921504606846976) : bt (itS a) 0 ≠ 45 ∧ 1 ≤ (itS a).size := by
  have hs : bL (itS a) = Lib.decDigits a.toNat := by
    rw [bL_itS (by omega) h1]
    unfold Lib.itoa
    rw [if_neg (by omega)]
  have hne := dec_ne a.toNat
  have hsz : 0 < (itS a).size := by
    rw [← bL_size, hs]
    exact List.length_pos_iff.2 hne
  refine ⟨fun e => ?_, hsz⟩
  have h2 := bt_get hsz
  rw [show ((0 : Nat) : Int) = 0 from rfl, e] at h2
  have h3 := dec_all a.toNat ((bL (itS a))[0]'(by rw [bL_size]; exact hsz)) (by rw [← hs]; exact List.getElem_mem _)
  unfold isD at h3
  omega
theorem A33_fm {a b : Int} (h : okB a b = true) {p : ByteArray} {sg : Int} (hx : IntKind.i64.wrap (sg * nuI p) = a) : A33 (fmS a b) p (if b = 1 then ⟨#[]⟩ else itS b) sg true = OK33 a b := by
  obtain ⟨h0, h1, h2, h3⟩ := okB_range h
  unfold A33
  rw [hx]
  by_cases hb : b = 1
  · subst hb
    rw [if_pos rfl, ba_refl]
    exact B33_yes h
  · rw [if_neg hb]
    have hq : itS b ≠ ⟨#[]⟩ := fun e => by
      have hl := bL_itS (a := b) (by omega) h3
      rw [e] at hl
      exact itoa_ne b hl.symm
    have hz : Nat.ble (itS b).size 4294967280 = true := Nat.ble_eq_true_of_le (by have := itS_size (n := b) (by omega) h3; omega)
    obtain ⟨n1, n2⟩ := nu_itS (n := b) (by omega) h3
    rw [ba_neL hq, hz, n2, n1]
    exact B33_yes h
theorem T33_fm {a b : Int} (h : okB a b = true) : T33 (fmS a b) (itS a) (if b = 1 then ⟨#[]⟩ else itS b) = OK33 a b := by
  obtain ⟨h0, h1, h2, h3⟩ := okB_range h
  have hz := itS_size h0 h1
  by_cases hn : a < 0
  · obtain ⟨e1, e2, e3⟩ := bt_neg h0 hn
    obtain ⟨n1, n2⟩ := nu_of e3 (by omega)
    unfold T33
    rw [decide_eq_true (show ((itS a).size : Int) > 0 by omega), e1, decide_eq_true (show (0 : Int) ≤ 1 ∧ (1 : Int) ≤ (itS a).size by omega)]
    simp only [Bool.and_self, cond_true, beq_self_eq_true]
    unfold N33
    rw [show Nat.ble ((itS a).extract 1 (itS a).size).size 4294967280 = true from Nat.ble_eq_true_of_le (by rw [ByteArray.size_extract]; omega), n2]
    simp only [cond_true]
    refine A33_fm h ?_
    rw [n1, wrapI (by omega) (by omega)]
    omega
  · obtain ⟨e1, e2⟩ := bt_pos (by omega) h1
    obtain ⟨n1, n2⟩ := nu_itS (n := a) (by omega) h1
    unfold T33
    rw [decide_eq_true (show ((itS a).size : Int) > 0 by omega), show (bt (itS a) 0 == 45) = false from beq_false_of_ne e1]
    simp only [Bool.and_self, cond_true, cond_false]
    unfold N33
    rw [show Nat.ble (itS a).size 4294967280 = true from Nat.ble_eq_true_of_le (by omega), n2]
    simp only [cond_true]
    refine A33_fm h ?_
    rw [n1, wrapI (by omega) (by omega)]
    omega
theorem nuB_pos {p : ByteArray} (h : nuB p = true) : 0 < p.size := by
  simp only [nuB, Bool.and_eq_true, decide_eq_true_eq] at h
  omega
theorem A33_no {s p q : ByteArray} (h : psK s = false) {sg : Int} {b : Bool} (hb : b = true → 0 < s.size) (hq : Nat.ble q.size 4294967280 = true) : A33 s p q sg b = ER := by
  unfold A33
  rw [hq]
  cases (q.toList == ByteArray.toList ⟨#[]⟩) with
  | true => exact B33_no h hb
  | false =>
    simp only [Bool.not_false, cond_true]
    cases nuB q with
    | true => exact B33_no h (fun e => hb (by cases b <;> simp_all))
    | false => exact B33_no h (fun e => by cases b <;> simp at e)
theorem N33_no {s p q : ByteArray} (h : psK s = false) {sg : Int} (hp : p.size ≤ s.size) (hs : s.size ≤ 1000) (hq : q.size ≤ s.size) : N33 s p q sg = ER := by
  unfold N33
  rw [show Nat.ble p.size 4294967280 = true from Nat.ble_eq_true_of_le (by omega)]
  have hq' : Nat.ble q.size 4294967280 = true := Nat.ble_eq_true_of_le (by omega)
  cases hb : nuB p with
  | true => exact A33_no h (fun _ => Nat.lt_of_lt_of_le (nuB_pos hb) hp) hq'
  | false => exact A33_no h (fun e => by cases e) hq'
theorem T33_no {s p q : ByteArray} (h : psK s = false) (hp : p.size ≤ s.size) (hs : s.size ≤ 1000) (hq : q.size ≤ s.size) : T33 s p q = ER := by
  unfold T33
  by_cases h0 : (p.size : Int) > 0
  · rw [decide_eq_true h0, decide_eq_true (show (0 : Int) ≤ 1 ∧ (1 : Int) ≤ p.size by omega)]
    simp only [Bool.and_self, cond_true]
    cases (bt p 0 == 45) with
    | true => exact N33_no h (by rw [ByteArray.size_extract]; omega) hs hq
    | false => exact N33_no h hp hs hq
  · rw [decide_eq_false h0]
    exact N33_no h hp hs hq
abbrev RP (s : ByteArray) : Option Res := some (.ret (.tup [.agg [.int .i64 (psN s), .int .i64 (psD s)], .int .i64 (psE s)]))
theorem RP_yes {a b : Int} (h : okB a b = true) : RP (fmS a b) = OK33 a b := by
  obtain ⟨_, h1, h2, h3⟩ := ps_fmS h
  rw [RP, h1, h2, h3]
theorem RP_no {s : ByteArray} (h : psK s = false) : RP s = ER := by
  unfold RP psN psD psE
  rw [h]
  rfl
theorem T33_eq {s : ByteArray} (hs : s.size ≤ 1000) : T33 s (rcut s s.size s ⟨#[]⟩).1 (rcut s s.size s ⟨#[]⟩).2 = RP s := by
  cases hk : psK s with
  | true =>
    obtain ⟨a, b, ho, rfl⟩ := ps_of hk
    rw [rcut_fm ho, RP_yes ho]
    exact T33_fm ho
  | false =>
    obtain ⟨h1, h2⟩ := rcut_size (s := s) s.size s ⟨#[]⟩ (Nat.le_refl _) (Nat.le_refl _) (Nat.zero_le _)
    rw [RP_no hk]
    exact T33_no hk h1 hs h2
def i33 : Ent := ⟨33, fun
  | [.str s] => .chk (Nat.ble s.size 1000) (.leaf (.ret (.tup [.agg [.int .i64 (psN s), .int .i64 (psD s)], .int .i64 (psE s)])))
  | _ => .non⟩
theorem sx33 : (mkCx Tryd.prog (spOf [i61, i18]) (inlOf []) extD).Ok InvD := cx_of [] (by kernel_rfl) (by
  intro p hp
  simp only [List.mem_cons, List.not_mem_nil, or_false] at hp
  rcases hp with rfl | rfl
  · exact i61_ok
  · exact i18_ok)
theorem i33_ok : SpecHolds Tryd.prog InvD 33 fun a => (i33.2 a).run := by
  refine specD sx33 Tryd.func33 (c := codeOf Tryd.prog 33) (by kernel_rfl) lp33 (fun p hp => ?_) fun args r h => ?_
  · have hl : loops (codeOf Tryd.prog 33) = [(0, bodyOf Tryd.prog 33 0)] := by kernel_rfl
    rw [hl, List.mem_singleton] at hp
    subst hp
    dsimp only [LoopOkT]
    refine ⟨by decide, by decide, fun vs _ => match vs with | [_, _, _, _, _, _, .int _ i] => (i + 1).toNat | _ => 0, fun vs H R hv hR => ?_⟩
    unfold f33s at hR
    split at hR
    · rename_i s z p q i a b c d
      obtain ⟨hc, hR⟩ := chk_run0 hR
      simp only [Tr.run, Option.some.injEq] at hR
      subst hR
      simp only [Bool.and_eq_true, decide_eq_true_eq] at hc
      obtain ⟨h0, h1, h2⟩ := hc
      have hsz : s.size ≤ 4294967280 := Nat.le_of_ble_eq_true h2
      have ht := loop33 s z p q i a b c d
      by_cases hi : i ≥ 0
      · rw [decide_eq_true hi, decide_eq_true h1, Bool.and_self, decide_eq_true (show 0 ≤ i ∧ i ≤ (s.size : Int) by omega), wrapI (x := i + 1) (by omega) (by omega), wrapI (x := i - 1) (by omega) (by omega),
          decide_eq_true (show 0 ≤ i + 1 ∧ i + 1 ≤ (s.size : Int) by omega)] at ht
        simp only [cond_true] at ht
        have hk : (i + 1).toNat = i.toNat + 1 := by omega
        have hki : ((i.toNat : Nat) : Int) = i := by omega
        have hk1 : (i - 1 + 1).toNat = i.toNat := by omega
        have hcond : (decide (-1 ≤ i - 1) && (decide (i - 1 < (s.size : Int)) && Nat.ble s.size 4294967280)) = true := by
          simp only [Bool.and_eq_true, decide_eq_true_eq]; exact ⟨by omega, by omega, h2⟩
        cases h47 : (bt s i == 47) with
        | true =>
          rw [h47] at ht
          simp only [cond_true] at ht
          refine ⟨.normal, _, _, ht, ?_, ?_⟩
          · simp only [f33s, hcond, Tr.run, cond_true, hk1, hk, rcut, hki]
            rw [if_pos (eq_of_beq h47)]
          · dsimp only; omega
        | false =>
          rw [h47] at ht
          simp only [cond_false] at ht
          refine ⟨.normal, _, _, ht, ?_, ?_⟩
          · simp only [f33s, hcond, Tr.run, cond_true, hk1, hk, rcut, hki]
            rw [if_neg (ne_of_beq_false h47)]
          · dsimp only; omega
      · have hi1 : i = -1 := by omega
        subst hi1
        refine ⟨.exit 0, _, _, ht, ?_⟩
        simp [rcut]
    · simp [Tr.run] at hR
  · simp only [i33] at h
    split at h
    · rename_i s
      obtain ⟨hc, h⟩ := chk_run0 h
      have hs : s.size ≤ 1000 := Nat.le_of_ble_eq_true hc
      simp only [Tr.run] at h
      refine ⟨rfl, by rw [← Option.some.inj h]; rfl, ?_⟩
      rw [t33, ← h]
      have e1 : ix s = (s.size : Int) - 1 := wrapI (by omega) (by omega)
      rw [e1, show (decide (-1 ≤ (s.size : Int) - 1) && (decide ((s.size : Int) - 1 < (s.size : Int)) && Nat.ble s.size 4294967280)) = true by
        simp only [Bool.and_eq_true, decide_eq_true_eq]; exact ⟨by omega, by omega, Nat.ble_eq_true_of_le (by omega)⟩]
      rw [show ((s.size : Int) - 1 + 1).toNat = s.size by omega]
      exact T33_eq hs
    · simp [Tr.run] at h
/-! Parse -/
def T32 (s : ByteArray) (n : Int) (d : Int) : Option Res := bif !((fmS n d).toList == s.toList) then ER else OK33 n d
abbrev sl : ByteArray := ⟨#[47]⟩
theorem t32 (s : ByteArray) : evFn Tryd.prog (spOf [e59, e60, i17]) (inlOf []) extD (cKD [e59, e60, i17] []) (fun _ => .unroll 0) Tryd.f32 [.str s] [] (fun r _ => some r) =
    bif Nat.ble s.size 4294967280 then bif cutK s sl then bif Nat.ble (cutL s sl).size 281474976710656 then bif atK (bL (cutL s sl)) then bif Nat.ble (cutR s sl).size 281474976710656 then bif atK (bL (cutR s sl)) then
        T32 s (atV (bL (cutL s sl))) (atV (bL (cutR s sl))) else ER else none else ER else none
      else bif Nat.ble (cutL s sl).size 281474976710656 then bif atK (bL (cutL s sl)) then T32 s (atV (bL (cutL s sl))) 1 else ER else none else none := by kernel_rfl
theorem cutL_size (s : ByteArray) : (cutL s sl).size ≤ s.size := by
  have : (bL (cutL s sl)).length ≤ (bL s).length := by
    show (Lib.cut (bL s) (bL sl)).1.length ≤ _
    unfold Lib.cut
    split
    · rw [List.length_take]; omega
    · exact Nat.le_refl _
  rw [bL_size, bL_size] at this
  exact this
theorem cutR_size (s : ByteArray) : (cutR s sl).size ≤ s.size := by
  have : (bL (cutR s sl)).length ≤ (bL s).length := by
    show (Lib.cut (bL s) (bL sl)).2.1.length ≤ _
    unfold Lib.cut
    split
    · simp
    · simp
  rw [bL_size, bL_size] at this
  exact this
theorem T32_no {s : ByteArray} (h : psK s = false) (h0 : 0 < s.size) (n d : Int) : T32 s n d = ER := by
  unfold T32
  rw [fm_not h h0]
  rfl
theorem atK_pos {l : List UInt8} (h : atK l = true) : 0 < l.length := by
  cases l with
  | nil => simp [atK, Lib.atoiAll] at h
  | cons c r => simp
def i32 : Ent := ⟨32, fun
  | [.str s] => .chk (Nat.ble s.size 1000) (.leaf (.ret (.tup [.agg [.int .i64 (psN s), .int .i64 (psD s)], .int .i64 (psE s)])))
  | _ => .non⟩
theorem cx_ofP {l : List Ent} (il : List FuncId) (hb : (l.map (fun p => keyN p.1) ++ il).all (bodyB Tryd.prog) = true) (hs : ∀ p ∈ l, EntHolds Tryd.prog InvP p) : (mkCx Tryd.prog (spOf l) (inlOf il) extD).Ok InvP :=
  cx_ok hb extD_ok hs
theorem specP {l : List Ent} {il : List FuncId} (hl : (mkCx Tryd.prog (spOf l) (inlOf il) extD).Ok InvP) {f : FuncId} {fn : Func} (hfn : Tryd.prog.funcs[f]? = some fn) {c : Code} (hb : fn.body = some c) (lp : Nat → LT)
    (hlp : ∀ p ∈ loops c, LoopOkT Tryd.prog (spOf l) (inlOf il) extD (cKD l il) lp fn.ntmps p.2 (lp p.1)) {s : List AV → Tr Res}
    (h : ∀ args r, (s args).run = some r → Nat.ble args.length fn.ntmps = true ∧ okRes r = true ∧ evFn Tryd.prog (spOf l) (inlOf il) extD (cKD l il) lp fn args [] (fun r _ => some r) = some r) :
    SpecHolds Tryd.prog InvP f fun a => (s a).run :=
  spec_of_ev Tryd.prog (spOf l) (inlOf il) extD (cKD l il) (fun {β} => callK_eq (β := β) Tryd.prog (spOf l) (inlOf il) extD attD uD 20) hl stableP mixedD (callN_sound attD_ok hl stableP mixedD 20) hfn hb lp hlp h
theorem sx32 : (mkCx Tryd.prog (spOf [e59, e60, i17]) (inlOf []) extD).Ok InvP := cx_ofP [] (by kernel_rfl) (by
  intro p hp
  simp only [List.mem_cons, List.not_mem_nil, or_false] at hp
  rcases hp with rfl | rfl | rfl
  · exact e59_ok
  · exact e60_ok
  · exact spec_P i17_ok)
theorem i32_ok : SpecHolds Tryd.prog InvP 32 fun a => (i32.2 a).run := by
  refine specP sx32 Tryd.func32 (c := codeOf Tryd.prog 32) (by kernel_rfl) (fun _ => .unroll 0) (fun p hp => by
    have hl : loops (codeOf Tryd.prog 32) = [] := by kernel_rfl
    rw [hl] at hp
    cases hp) fun args r h => ?_
  simp only [i32] at h
  split at h
  · rename_i s
    obtain ⟨hc, h⟩ := chk_run0 h
    have hs : s.size ≤ 1000 := Nat.le_of_ble_eq_true hc
    simp only [Tr.run] at h
    refine ⟨rfl, by rw [← Option.some.inj h]; rfl, ?_⟩
    rw [t32, ← h]
    have z1 := cutL_size s
    have z2 := cutR_size s
    rw [show Nat.ble s.size 4294967280 = true from Nat.ble_eq_true_of_le (by omega), show Nat.ble (cutL s sl).size 281474976710656 = true from Nat.ble_eq_true_of_le (by omega), show Nat.ble (cutR s sl).size 281474976710656 = true from Nat.ble_eq_true_of_le (by omega)]
    simp only [cond_true]
    show _ = RP s
    cases hk : psK s with
    | true =>
      obtain ⟨a, b, ho, rfl⟩ := ps_of hk
      rw [RP_yes ho]
      obtain ⟨c1, c2, c3⟩ := cand_fmS ho
      have k1 : atV (bL (cutL (fmS a b) sl)) = a := c1
      have hT : T32 (fmS a b) a b = OK33 a b := by unfold T32; rw [ba_refl]; rfl
      unfold cK at c3
      rw [Bool.and_eq_true] at c3
      have k3 : atK (bL (cutL (fmS a b) sl)) = true := c3.1
      rw [k1, k3]
      simp only [cond_true]
      unfold cB at c2
      cases hf : cutK (fmS a b) sl with
      | true =>
        have hf' : (Lib.cut (bL (fmS a b)) [47]).2.2 = true := hf
        rw [hf'] at c2 c3
        have k2 : atV (bL (cutR (fmS a b) sl)) = b := c2
        have k4 : atK (bL (cutR (fmS a b) sl)) = true := by
          have := c3.2
          rw [Bool.not_true, Bool.false_or] at this
          exact this
        rw [k2, k4]
        exact hT
      | false =>
        have hf' : (Lib.cut (bL (fmS a b)) [47]).2.2 = false := hf
        rw [hf'] at c2
        simp only [Bool.false_eq_true, if_false] at c2
        subst c2
        exact hT
    | false =>
      rw [RP_no hk]
      have hpos : atK (bL (cutL s sl)) = true → 0 < s.size := fun e => by
        have := atK_pos e
        rw [bL_size] at this
        omega
      cases hf : cutK s sl with
      | true =>
        cases h1 : atK (bL (cutL s sl)) with
        | false => rfl
        | true =>
          simp only [cond_true]
          cases h2 : atK (bL (cutR s sl)) with
          | false => rfl
          | true => exact T32_no hk (hpos h1) _ _
      | false =>
        cases h1 : atK (bL (cutL s sl)) with
        | false => rfl
        | true => exact T32_no hk (hpos h1) _ _
  · simp [Tr.run] at h
end Go.Proofs.YtekkphoingjidaaDoor

/- RatioParse's and RatioText's laws: true for all arguments. Condition: as for FP1. -/
namespace Go.Proofs.YtekkphoingjidaaDoor
open Go.Evl Go.RowKit
abbrev RB9 (b : Bool) : Option Res := some (.ret (.bool b))
def l9 : Ent := ⟨9, fun
  | [.str _] => .leaf (.ret (.bool true))
  | _ => .non⟩
theorem lx9 : (mkCx Tryd.prog (spOf [i32, i33, e19]) (inlOf []) extD).Ok InvP := cx_ofP [] (by kernel_rfl) (by
  intro p hp
  simp only [List.mem_cons, List.not_mem_nil, or_false] at hp
  rcases hp with rfl | rfl | rfl
  · exact i32_ok
  · exact spec_P i33_ok
  · exact spec_P e19_ok)
theorem lt9 (s : ByteArray) : evFn Tryd.prog (spOf [i32, i33, e19]) (inlOf []) extD (cKD [i32, i33, e19] []) (fun _ => .unroll 0) Tryd.f9 [.str s] [] (fun r _ => some r) =
  (bif decide ((s.size : Int) > 100) then RB9 true else bif Nat.ble s.size 1000 then bif Nat.ble s.size 1000 then
    bif psN s == psN s && (psD s == psD s && true) then bif psE s == psE s then RB9 true else RB9 false else RB9 false else none else none : Option Res) := by kernel_rfl
theorem l9_ok : SpecHolds Tryd.prog InvP 9 fun a => (l9.2 a).run := by
  refine specP lx9 Tryd.func9 (c := codeOf Tryd.prog 9) (by kernel_rfl) (fun _ => .unroll 0) (fun p hp => by
    have hl : loops (codeOf Tryd.prog 9) = [] := by kernel_rfl
    rw [hl] at hp
    cases hp) fun args r h => ?_
  simp only [l9] at h
  split at h
  · rename_i s
    simp only [Tr.run] at h
    refine ⟨rfl, by rw [← Option.some.inj h]; rfl, ?_⟩
    rw [lt9, ← h]
    by_cases h1 : (s.size : Int) > 100
    · rw [decide_eq_true h1]; rfl
    · rw [decide_eq_false h1, show Nat.ble s.size 1000 = true from Nat.ble_eq_true_of_le (by omega)]
      simp
  · simp [Tr.run] at h
def l10 : Ent := ⟨10, fun
  | [.agg [.int .i64 _, .int .i64 _], .str _] => .leaf (.ret (.bool true))
  | _ => .non⟩
theorem lx10 : (mkCx Tryd.prog (spOf [i14, i13, i17, i32, e19]) (inlOf []) extD).Ok InvP := cx_ofP [] (by kernel_rfl) (by
  intro p hp
  simp only [List.mem_cons, List.not_mem_nil, or_false] at hp
  rcases hp with rfl | rfl | rfl | rfl | rfl
  · exact spec_P i14_ok
  · exact spec_P i13_ok
  · exact spec_P i17_ok
  · exact i32_ok
  · exact spec_P e19_ok)
def E10 (s : ByteArray) : Option Res := bif Nat.ble s.size 1000 then bif psE s != 0 then bif psE s == 3 then bif psN s == 0 && (psD s == 0 && true) then RB9 true else RB9 false else RB9 false
  else bif ckJ (psN s) (psD s) == 0 then bif (fmS (psN s) (psD s)).toList == s.toList then RB9 true else RB9 false else RB9 false else none
theorem lt10 (a b : Int) (s : ByteArray) : evFn Tryd.prog (spOf [i14, i13, i17, i32, e19]) (inlOf []) extD (cKD [i14, i13, i17, i32, e19] []) (fun _ => .unroll 0) Tryd.f10 [.agg [.int .i64 a, .int .i64 b], .str s] [] (fun r _ => some r) =
  (bif decide ((s.size : Int) > 100) then RB9 true else bif ckJ a b == 0 then bif Nat.ble (fmS a b).size 1000 then bif psE (fmS a b) != 0 then RB9 false else
      bif !(psN (fmS a b) == a && (psD (fmS a b) == b && true)) then RB9 false else bif (fmS a b).toList == ByteArray.toList ⟨#[]⟩ then RB9 false else E10 s else none
    else E10 s : Option Res) := by kernel_rfl
theorem E10_eq {s : ByteArray} (hs : s.size ≤ 1000) : E10 s = RB9 true := by
  unfold E10
  rw [Nat.ble_eq_true_of_le hs]
  cases hk : psK s with
  | true =>
    obtain ⟨a, b, ho, rfl⟩ := ps_of hk
    obtain ⟨_, h1, h2, h3⟩ := ps_fmS ho
    rw [h1, h2, h3, ba_refl]
    have : ckJ a b = 0 := by unfold ckJ; rw [if_pos ho]
    rw [this]
    rfl
  | false =>
    unfold psE psN psD
    rw [hk]
    rfl
theorem l10_ok : SpecHolds Tryd.prog InvP 10 fun a => (l10.2 a).run := by
  refine specP lx10 Tryd.func10 (c := codeOf Tryd.prog 10) (by kernel_rfl) (fun _ => .unroll 0) (fun p hp => by
    have hl : loops (codeOf Tryd.prog 10) = [] := by kernel_rfl
    rw [hl] at hp
    cases hp) fun args r h => ?_
  simp only [l10] at h
  split at h
  · rename_i a b s
    simp only [Tr.run] at h
    refine ⟨rfl, by rw [← Option.some.inj h]; rfl, ?_⟩
    rw [lt10, ← h]
    by_cases h1 : (s.size : Int) > 100
    · rw [decide_eq_true h1]; rfl
    · rw [decide_eq_false h1, E10_eq (s := s) (by omega)]
      by_cases ho : okB a b = true
      · obtain ⟨_, h2, h3, h4⟩ := ps_fmS ho
        have hz := fmS_size (a := a) (b := b)
        have hp := fmS_pos ho
        have hne : ((fmS a b).toList == ByteArray.toList ⟨#[]⟩) = false := ba_neL fun e => by rw [e] at hp; exact absurd hp (by decide)
        rw [h2, h3, h4, hne, Nat.ble_eq_true_of_le (show (fmS a b).size ≤ 1000 by omega)]
        cases (ckJ a b == 0) <;> simp
      · have : ckJ a b = 1 := by unfold ckJ; rw [if_neg ho]
        rw [this]
        rfl
  · simp [Tr.run] at h
end Go.Proofs.YtekkphoingjidaaDoor

/- What the ratio rows' condition gives: the table of powers of ten stands in the world. Conditions: the rows' own. -/
namespace Go.Proofs.YtekkphoingjidaaDoor
open Go.ChangeShapes Go.WideShapes Go.ChangeAt Go.RowKit Go.Joins Go.Evl

theorem own : ownKnob Tryd.prog.godebug = none := by kernel_rfl
def laidD : List (String × DataW Unit) := [("math/bits.deBruijn32tab", Rows.laid_math_bits_deBruijn32tab), ("math/bits.deBruijn64tab", Rows.laid_math_bits_deBruijn64tab), ("internal/strconv.uint64pow10", Rows.laid_internal_strconv_uint64pow10)]
theorem door_met (os : Os) (args : Array Value) : laidMetH Tryd.prog laidD ((World.doorLaid Tryd.prog 400 os).forCall (fun _ _ => 0) ⟨#[], args, []⟩).memory :=
  laidMetH_of_parts3 (fuel := 8) (laidMet_of_run' 8 (by kernel_rfl) (by kernel_rfl)) (by kernel_rfl) (by kernel_rfl)
theorem gPow : Tryd.prog.globalNamed "internal/strconv.uint64pow10" = some 5 := by kernel_rfl
theorem tPow : (Tryd.prog.globals[5]?).map (·.type) = some 110 := by kernel_rfl
theorem inv_of_laid {W : World} (h : laidMetH Tryd.prog laidD W) : InvD W := by
  rw [MakeChecks.laidMetH_plain _ _ _ (by kernel_rfl)] at h
  obtain ⟨ps, ⟨g0, t0, cs0, f0, p0, q0, hg0, ht0, hv0, hd0, ⟨g1, t1, cs1, f1, p1, q1, hg1, ht1, hv1, hd1, ⟨g2, t2, cs2, f2, p2, q2, hg2, ht2, hv2, hd2, _, _⟩, _⟩, _⟩, _, _⟩ := h
  obtain rfl := Option.some.inj (gPow.symm.trans hg2)
  obtain rfl := Option.some.inj (tPow.symm.trans ht2)
  have hdat : (Rows.laid_internal_strconv_uint64pow10 : DataW Unit) = Lib.tabData .u64 Lib.pow10Tab := by kernel_rfl
  rw [hdat] at hd2
  unfold InvD Lib.TabIs
  rw [hv2, ← Lib.cells_of_tab Tryd.underlying110 Tryd.underlying44 (by kernel_rfl) (by kernel_rfl) hd2]

end Go.Proofs.YtekkphoingjidaaDoor

/- What the rows of Parse give: the invariant. Conditions: the rows' own, and the world's shape. -/
namespace Go.Proofs.YtekkphoingjidaaDoor
open Go.ChangeShapes Go.WideShapes Go.ChangeAt Go.RowKit Go.Joins Go.Evl
theorem returns_open {H : Type} {enc : TypeId × Value → H} {a : Assume} {C : Checked} {os : Os} {f : FuncId} {fn : Func} {s : ChangeSpec} {conds : List PathCond} {apart fresh handsOn again : Bool} {X : World → Array Value → Prop}
    (hX : ∀ (w w' : World) (args : Array Value), w.heap = w'.heap → X w args → X w' args)
    (own : ownKnob C.prog.godebug = none) (started : os.Started) (noInit : C.prog.inits.idxOf? f = none) (hfn : C.prog.funcs[f]? = some fn)
    (witness : ∃ (w : World) (tape : Tape) (i : Input), w.os = os ∧ (w.forCall tape i).Shaped C.prog ∧ i.vars = [] ∧ Input.okWide C.prog (w.forCall tape i) .any w.heap.size f i ∧
      ((s.pre enc C.prog fn conds apart (w.forCall tape i).memory i.args ∧ X (w.forCall tape i).memory i.args) ∧ sizedMet enc C.prog fn (OpenSpec.ofChange s) apart (w.forCall tape i).memory i.args) ∧ a.holds C.prog (lone (Frame.enter C.prog f i.args .normal) [] (w.forCall tape i)))
    (contract : ∀ (W : World) (base : Nat) (args : Array Value) (ds gs : List (DataW H)) (before : List MemPlace), W.ShapedOpen C.prog →
      (∀ (j : Nat) t v, fn.params[j]? = some t → args[j]? = some v → Value.okWide C.prog W .any base t v) →
      DataW.Whole enc C.prog fn.params.toList s.vars apart W args.toList ds gs before →
      conds.all (PathCond.test C.prog ⟨fn.params.toList, ds, s.plain.varTypes C.prog, gs⟩) = true →
      (DataW.weightsEach C.prog (fn.params.toList ++ s.plain.varTypes C.prog) (ds ++ gs)).all (· ≤ reachBytes) = true → X W args →
      a.holds C.prog (lone (Frame.enter C.prog f args .normal) [] W) →
      Calls C.prog f args W fun e W' => ∃ v, e = .returned v ∧ s.post enc C.prog fn apart fresh handsOn again W args v W') :
    ReturnsInHanded a C os f .any (fun w args => (s.pre enc C.prog fn conds apart w args ∧ X w args) ∧ sizedMet enc C.prog fn (OpenSpec.ofChange s) apart w args) (s.post enc C.prog fn apart fresh handsOn again) := by
  refine returnsInHanded_of_calls own started noInit witness ?_
  intro w tape i _ hsh _ hok hpre hholds
  obtain ⟨_, _, _, fn', hfn', _, _, _, _, hval⟩ := hok
  have e : fn' = fn := Option.some.inj (hfn'.symm.trans hfn)
  subst e
  obtain ⟨⟨⟨ds, gs, before, hw, hc⟩, hx⟩, hz⟩ := hpre
  have hw' := DataW.Whole.of_heap (w' := w.forCall tape i) (by rfl) hw
  refine (contract (w.forCall tape i) w.heap.size i.args ds gs before hsh hval hw' hc (hz.weights hw) (hX _ _ _ (by rfl) hx) hholds).mono fun e W' ⟨v, he, hp⟩ => ?_
  subst he
  exact ChangeSpec.post_blind hp
theorem int_of_shape {P : Program} {w : World} {g : Nat} {t : TypeId} {k : IntKind} {zero : Array Value} (h : w.ShapedOpen P) (hg : g < P.globals.size)
    (h0 : ((begin P (fun _ _ => 0) default).world.heap[g]?).bind Obj.row? = some (zero, t)) (hz : zero.size = 1)
    (hb : P.buildable t = true) (hc : P.cellTypes P.depth t = some [t]) (hu : P.underlying t = some (.int k)) : ∃ m, w.cell? ⟨g, 0, none⟩ = some (.int k m) := by
  obtain ⟨cs, hh, hs, hr⟩ := h.1 g zero t hg h0
  obtain ⟨ts, hts, _, hall⟩ := hr hb
  rw [hc] at hts
  cases hts
  have h1 : 0 < cs.size := by omega
  obtain ⟨u, hu', hok⟩ := hall 0 cs[0] (by simp [h1])
  have : u = t := by simpa using hu'.symm
  subst this
  have hcell : w.cell? ⟨g, 0, none⟩ = some cs[0] := by simp [World.cell?, hh, h1]
  rw [hcell]
  unfold Cell.ok at hok
  rw [hu] at hok
  cases hv : cs[0] <;> rw [hv] at hok <;> first | (simp at hok; exact ⟨_, by rw [hok.1]⟩) | simp at hok
theorem trod_iface {H : Type} {enc : TypeId × Value → H} {P : Program} {w : World} {base : Nat} {sp : Nat → Bool} {fuel : Nat} {t : TypeId} {ms : Array (String × TypeId)} {cs : List Value} {nm : String} {d : DataW H} {p : List MemPlace} (hu : P.underlying t = some (.interface ms))
    (h : DataW.trod enc P w base sp false fuel t cs = some (.iface nm d, p)) : ∃ u v, cs = [.iface u v] := by
  cases fuel with
  | zero => simp [DataW.trod] at h
  | succ fuel =>
    unfold DataW.trod at h
    rw [hu] at h
    split at h <;> first | (rename_i h1; cases h1; done) | (simp at h; done) | skip
    all_goals first | exact ⟨_, _, rfl⟩ | (simp at h)
def laidP : List (String × DataW Unit) := [("math/bits.deBruijn32tab", Rows.laid_math_bits_deBruijn32tab), ("math/bits.deBruijn64tab", Rows.laid_math_bits_deBruijn64tab), ("internal/strconv.uint64pow10", Rows.laid_internal_strconv_uint64pow10), ("strconv.ErrRange", Rows.laid_strconv_ErrRange), ("strconv.ErrSyntax", Rows.laid_strconv_ErrSyntax)]
theorem door_metP (os : Os) (args : Array Value) : laidMetH Tryd.prog laidP ((World.doorLaid Tryd.prog 400 os).forCall (fun _ _ => 0) ⟨#[], args, []⟩).memory :=
  laidMetH_of_parts3 (fuel := 8) (laidMet_of_run' 8 (by kernel_rfl) (by kernel_rfl)) (by kernel_rfl) (by kernel_rfl)
theorem gRange : Tryd.prog.globalNamed "strconv.ErrRange" = some 4 := by kernel_rfl
theorem gSyn : Tryd.prog.globalNamed "strconv.ErrSyntax" = some 3 := by kernel_rfl
theorem tErr4 : (Tryd.prog.globals[4]?).map (·.type) = some 68 := by kernel_rfl
theorem tErr3 : (Tryd.prog.globals[3]?).map (·.type) = some 68 := by kernel_rfl
theorem var_cell {P : Program} {w : World} {n : String} {g : Nat} {cs : Array Value} {u : TypeId} {v : Value} (hg : P.globalNamed n = some g) (hv : w.var? P n = some cs) (hc : cs.toList = [.iface u v]) : w.cell? ⟨g, 0, none⟩ = some (.iface u v) := by
  have hcs : cs = #[.iface u v] := by apply Array.ext'; simpa using hc
  subst hcs
  unfold World.var? at hv
  rw [hg] at hv
  simp only [Option.bind_some] at hv
  unfold World.cell?
  split at hv
  · rename_i c t f hh
    simp only [Option.some.injEq] at hv
    subst hv
    simp [hh]
  · simp at hv
theorem invP_of {W : World} (hs : W.ShapedOpen Tryd.prog) (h : laidMetH Tryd.prog laidP W) : InvP W := by
  rw [MakeChecks.laidMetH_plain _ _ _ (by kernel_rfl)] at h
  obtain ⟨ps, ⟨g0, t0, cs0, f0, p0, q0, hg0, ht0, hv0, hd0, ⟨g1, t1, cs1, f1, p1, q1, hg1, ht1, hv1, hd1, ⟨g2, t2, cs2, f2, p2, q2, hg2, ht2, hv2, hd2, ⟨g3, t3, cs3, f3, p3, q3, hg3, ht3, hv3, hd3, ⟨g4, t4, cs4, f4, p4, q4, hg4, ht4, hv4, hd4, _, _⟩, _⟩, _⟩, _⟩, _⟩, _, _⟩ := h
  refine ⟨?_, ?_, ?_, ?_⟩
  · obtain rfl := Option.some.inj (gPow.symm.trans hg2)
    obtain rfl := Option.some.inj (tPow.symm.trans ht2)
    have hdat : (Rows.laid_internal_strconv_uint64pow10 : DataW Unit) = Lib.tabData .u64 Lib.pow10Tab := by kernel_rfl
    rw [hdat] at hd2
    unfold InvD Lib.TabIs
    rw [hv2, ← Lib.cells_of_tab Tryd.underlying110 Tryd.underlying44 (by kernel_rfl) (by kernel_rfl) hd2]
  · exact int_of_shape (g := 2) (t := 3) (zero := #[.int .i64 0]) hs (by decide +kernel) (by kernel_rfl) rfl (by kernel_rfl) (by kernel_rfl) Tryd.underlying3
  · obtain rfl := Option.some.inj (gSyn.symm.trans hg4)
    obtain rfl := Option.some.inj (tErr3.symm.trans ht4)
    obtain ⟨u, v, hc⟩ := trod_iface Tryd.underlying68 hd4
    exact ⟨_, var_cell hg4 hv4 hc, .inr ⟨u, v, rfl⟩⟩
  · obtain rfl := Option.some.inj (gRange.symm.trans hg3)
    obtain rfl := Option.some.inj (tErr4.symm.trans ht3)
    obtain ⟨u, v, hc⟩ := trod_iface Tryd.underlying68 hd3
    exact ⟨_, var_cell hg3 hv3 hc, .inr ⟨u, v, rfl⟩⟩
end Go.Proofs.YtekkphoingjidaaDoor
