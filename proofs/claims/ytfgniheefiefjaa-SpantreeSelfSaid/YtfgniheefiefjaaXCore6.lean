/- The reference's sorting and the program's: they leave the same rows. Plain laws; no condition. -/
import Derived.Test.YtfgniheefiefjaaXCore5
/- math/bits.Len of small numbers: a contract. Conditions: none beyond the context's. -/
namespace Go.Proofs.Ytfgniheefiefjaa
open Go.Evl Go.RowKit

def lnI (a : Int) : Int := if a < 1 then 0 else if a < 2 then 1 else if a < 4 then 2 else if a < 8 then 3 else 4
def t74 : Ent := ⟨74, fun
  | [.int .u64 a] => .chk (decide (0 ≤ a) && decide (a < 13)) (.leaf (.ret (.int .i64 (lnI a))))
  | _ => .non⟩
theorem sx74 : (mkCx Try.prog (spOf []) (inlOf [89]) extD).Ok InvD := cx_of [89] (by kernel_rfl) (by
  intro p hp
  cases hp)
theorem vt74 : ∀ k : Nat, k < 13 → evFn Try.prog (spOf []) (inlOf [89]) extD (cKD [] [89]) (fun _ => .unroll 0) Try.f74 [.int .u64 (k : Int)] [] (fun r _ => some r) = RI (lnI k)
  | 0, _ => by kernel_rfl
  | 1, _ => by kernel_rfl
  | 2, _ => by kernel_rfl
  | 3, _ => by kernel_rfl
  | 4, _ => by kernel_rfl
  | 5, _ => by kernel_rfl
  | 6, _ => by kernel_rfl
  | 7, _ => by kernel_rfl
  | 8, _ => by kernel_rfl
  | 9, _ => by kernel_rfl
  | 10, _ => by kernel_rfl
  | 11, _ => by kernel_rfl
  | 12, _ => by kernel_rfl
  | n + 13, h => by omega
theorem t74_ok : SpecHolds Try.prog InvD 74 fun a => (t74.2 a).run := by
  refine specD sx74 Try.func74 (c := codeOf Try.prog 74) (by kernel_rfl) (fun _ => .unroll 0) (fun _ _ => trivial) fun args r hh => ?_
  simp only [t74] at hh
  split at hh
  · rename_i a
    obtain ⟨hg, hh⟩ := chk_run hh
    simp only [Bool.and_eq_true, decide_eq_true_eq] at hg
    refine ⟨by kernel_rfl, tr_ok (by rfl) hh, ?_⟩
    obtain ⟨k, rfl⟩ : ∃ k : Nat, a = (k : Int) := ⟨a.toNat, by omega⟩
    exact (vt74 k (by omega)).trans hh
  · simp [Tr.run] at hh
end Go.Proofs.Ytfgniheefiefjaa

/- Insertion sort of spans: its loops. Conditions: none beyond the context's. -/
namespace Go.Proofs.Ytfgniheefiefjaa
open Go.Evl Go.RowKit
abbrev spS : Sp := spOf [t14, t74]
abbrev inS : FuncId → Bool := inlOf [33, 57, 73, 80]
noncomputable abbrev cS0 {β : Type} : CallK β := callK Try.prog spS inS extD attD uD 20
def nmE (e : Nat → Dt) : List Dt := [.int (e 0).n, .int (e 1).n, .int (e 2).n, .str (e 3).s, .str (e 4).s, .int (e 5).n, .int (e 6).n, .int (e 7).n, .row (e 8).len (e 8).el, .row (e 9).len (e 9).el]
/-- two elements exchanged -/
def swE (el : Nat → Nat → Dt) (a b : Nat) : Nat → Nat → Dt := setEl (setEl el a 0 (nmE (el b))) b 0 (nmE (el a))
def ltE (el : Nat → Nat → Dt) (a b : Nat) : Bool := decide (cpI (el a 0).n (el a 1).n (el b 0).n (el b 1).n < 0)
/-- an element sinks to its place -/
def sinkF : Nat → (Nat → Nat → Dt) → (Nat → Nat → Dt) × Nat
  | 0, el => (el, 0)
  | j + 1, el => if ltE el (j + 1) j then sinkF j (swE el (j + 1) j) else (el, j + 1)
abbrev keepJ : List Nat := [0, 1, 2, 3, 8, 9]
abbrev vsJ (n : Nat) (a b i j : Int) : List AV := [.own 0 k0 n, .int .i64 a, .int .i64 b, .fn (.func 14) [], .int .i64 i, .int .i64 j]
abbrev hpJ (n : Nat) (el : Nat → Nat → Dt) : List Ob := [.own 25 SS n el]
def fJ : List AV → List Ob → Tr (Ex × List AV × List Ob)
  | [.own 0 kk m, .int .i64 a, .int .i64 b, .fn (.func 14) [], .int .i64 i, .int .i64 j], [.own 25 [.int .i64, .int .i64, .int .i64, .str, .str, .int .i64, .int .i64, .int .i64, .row [.str, .str], .row [.int .i64, .int .i64]] n el] =>
    .chk (isK0 kk && (decide (a = 0) && (Nat.beq m n && (decide (0 ≤ j) && (decide (j < (n : Int)) && Nat.ble n 1000))))) (.leaf (.exit 2, vsJ n 0 b i ((sinkF j.toNat el).2 : Int), hpJ n (sinkF j.toNat el).1))
  | _, _ => .non
/-- insertion sort from the i-th element on -/
def isF : Nat → Nat → (Nat → Nat → Dt) → (Nat → Nat → Dt)
  | 0, _, el => el
  | k + 1, i, el => isF k (i + 1) (sinkF i el).1
abbrev keepO : List Nat := [0, 1, 2, 3, 8]
abbrev vsO (n : Nat) (a b i : Int) : List AV := [.own 0 k0 n, .int .i64 a, .int .i64 b, .fn (.func 14) [], .int .i64 i]
def fO : List AV → List Ob → Tr (Ex × List AV × List Ob)
  | [.own 0 kk m, .int .i64 a, .int .i64 b, .fn (.func 14) [], .int .i64 i], [.own 25 [.int .i64, .int .i64, .int .i64, .str, .str, .int .i64, .int .i64, .int .i64, .row [.str, .str], .row [.int .i64, .int .i64]] n el] =>
    .chk (isK0 kk && (decide (a = 0) && (Nat.beq m n && (decide (b = (n : Int)) && (decide (0 ≤ i) && (decide (i ≤ (n : Int) + 1) && Nat.ble n 1000)))))) (.leaf (.exit 0, vsO n 0 b ((max i.toNat n : Nat) : Int), hpJ n (isF (n - i.toNat) i.toNat el)))
  | _, _ => .non
abbrev lpJ (i : Nat) : LT := bif Nat.beq i 2 then .sum keepJ fJ else .sum keepO fO
def bxJ {α : Type} (b : Bool) (n m : Nat) (j : Int) (x : Option α) : Option α := bif b then bif Nat.beq n m then bif Nat.beq n m && Nat.blt j.toNat n then x else none else none else none
def rndJ (n : Nat) (el : Nat → Nat → Dt) (a b i j : Int) : Option (Ex × List AV × List Ob) :=
  bif decide (j > a) then
    bxJ (decide (0 ≤ j) && decide (j < (n : Int))) n n j (bxJ (decide (0 ≤ IntKind.i64.wrap (j - 1)) && decide (IntKind.i64.wrap (j - 1) < (n : Int))) n n (IntKind.i64.wrap (j - 1))
      (bif ltE el j.toNat (IntKind.i64.wrap (j - 1)).toNat then
        bxJ (decide (0 ≤ IntKind.i64.wrap (j - 1)) && decide (IntKind.i64.wrap (j - 1) < (n : Int))) n n (IntKind.i64.wrap (j - 1)) (bxJ (decide (0 ≤ j) && decide (j < (n : Int))) n n j (bxJ (decide (0 ≤ j) && decide (j < (n : Int))) n n j
          (bxJ (decide (0 ≤ IntKind.i64.wrap (j - 1)) && decide (IntKind.i64.wrap (j - 1) < (n : Int))) n n (IntKind.i64.wrap (j - 1))
            (some (.normal, vsJ n a b i (IntKind.i64.wrap (j - 1)), hpJ n (swE el j.toNat (IntKind.i64.wrap (j - 1)).toNat))))))
      else some (.exit 2, vsJ n a b i j, hpJ n el)))
  else some (.exit 2, vsJ n a b i j, hpJ n el)
theorem loopJ (n : Nat) (el : Nat → Nat → Dt) (a b i j : Int) : evC (β := Ex × List AV × List Ob) Try.prog spS inS extD cS0 lpJ (bodyOf Try.prog 80 2) ⟨mkF Try.f80.ntmps keepJ (vsJ n a b i j), hpJ n el⟩ (fun e st => (cutBack keepJ 1 st).map fun q => (e, q.1, q.2)) = rndJ n el a b i j := by kernel_rfl
theorem bxJ_ok {α : Type} {b : Bool} {n : Nat} {j : Int} {x : Option α} (hb : b = true) (hj : j.toNat < n) : bxJ b n n j x = x := by
  unfold bxJ
  rw [hb, Nat.beq_refl, show Nat.blt j.toNat n = true by rw [Nat.blt_eq]; exact hj]
  rfl
theorem sumJ : LoopOkT Try.prog spS inS extD cS0 lpJ Try.f80.ntmps (bodyOf Try.prog 80 2) (.sum keepJ fJ) := by
  dsimp only [LoopOkT]
  refine ⟨by decide, by decide, fun vs _ => match vs with | [_, _, _, _, _, .int _ j] => j.toNat | _ => 0, fun vs H R hv hR => ?_⟩
  unfold fJ at hR
  split at hR
  · rename_i kk m a b i j n el
    obtain ⟨hc, hR'⟩ := chk_run hR
    clear hR
    have hR := hR'
    clear hR'
    simp only [Bool.and_eq_true, decide_eq_true_eq, Nat.beq_eq, Nat.ble_eq] at hc
    obtain ⟨hkk, rfl, rfl, h0, h1, h2⟩ := hc
    obtain rfl := isK0_eq hkk
    obtain ⟨k, rfl⟩ : ∃ k : Nat, j = (k : Int) := ⟨j.toNat, by omega⟩
    simp only [Tr.run, Option.some.injEq, Int.toNat_natCast] at hR
    subst hR
    have ht := loopJ m el 0 b i (k : Int)
    cases k with
    | zero =>
      refine ⟨_, _, _, ht.trans (show rndJ m el 0 b i ((0 : Nat) : Int) = some (.exit 2, vsJ m 0 b i ((0 : Nat) : Int), hpJ m el) from rfl), ?_⟩
      rfl
    | succ k =>
      have hw : IntKind.i64.wrap (((k + 1 : Nat) : Int) - 1) = (k : Int) := by rw [wrapI (by omega) (by omega)]; omega
      unfold rndJ at ht
      rw [hw, decide_eq_true (show ((k + 1 : Nat) : Int) > 0 by omega), Int.toNat_natCast, Int.toNat_natCast] at ht
      simp only [cond_true] at ht
      have b1 : (decide ((0 : Int) ≤ ((k + 1 : Nat) : Int)) && decide (((k + 1 : Nat) : Int) < (m : Int))) = true := by simp only [Bool.and_eq_true, decide_eq_true_eq]; omega
      have b2 : (decide ((0 : Int) ≤ (k : Int)) && decide ((k : Int) < (m : Int))) = true := by simp only [Bool.and_eq_true, decide_eq_true_eq]; omega
      have c1 : (((k + 1 : Nat) : Int)).toNat < m := by omega
      have c2 : ((k : Int)).toNat < m := by omega
      rw [bxJ_ok b1 c1, bxJ_ok b2 c2, bxJ_ok b2 c2, bxJ_ok b1 c1, bxJ_ok b1 c1, bxJ_ok b2 c2] at ht
      by_cases hl : ltE el (k + 1) k = true
      · rw [hl] at ht
        refine ⟨_, _, _, ht, ?_, ?_⟩
        · simp only [sinkF, hl, if_true]
          simp only [fJ, Tr.run, Int.toNat_natCast]
          rw [decide_eq_true (show (0 : Int) ≤ (k : Int) by omega), decide_eq_true (show (k : Int) < (m : Int) by omega), Nat.ble_eq_true_of_le h2, Nat.beq_refl]
          rfl
        · show ((k : Int)).toNat < ((k + 1 : Nat) : Int).toNat
          omega
      · rw [bnx hl] at ht
        refine ⟨_, _, _, ht, ?_⟩
        simp only [sinkF, hl]
        rfl
  · simp [Tr.run] at hR
def rndO (n : Nat) (el : Nat → Nat → Dt) (a b i : Int) : Option (Ex × List AV × List Ob) :=
  bif decide (i < b) then bif isK0 k0 && (decide (a = 0) && (Nat.beq n n && (decide (0 ≤ i) && (decide (i < (n : Int)) && Nat.ble n 1000)))) then some (.normal, vsO n 0 b (IntKind.i64.wrap (i + 1)), hpJ n (sinkF i.toNat el).1) else none
  else some (.exit 0, vsO n a b i, hpJ n el)
theorem loopO (n : Nat) (el : Nat → Nat → Dt) (a b i : Int) : evC (β := Ex × List AV × List Ob) Try.prog spS inS extD cS0 lpJ (bodyOf Try.prog 80 0) ⟨mkF Try.f80.ntmps keepO (vsO n a b i), hpJ n el⟩ (fun e st => (cutBack keepO 1 st).map fun q => (e, q.1, q.2)) = rndO n el a b i := by kernel_rfl
theorem sumO : LoopOkT Try.prog spS inS extD cS0 lpJ Try.f80.ntmps (bodyOf Try.prog 80 0) (.sum keepO fO) := by
  dsimp only [LoopOkT]
  refine ⟨by decide, by decide, fun vs _ => match vs with | [.own _ _ n, _, _, _, .int _ i] => n + 1 - i.toNat | _ => 0, fun vs H R hv hR => ?_⟩
  unfold fO at hR
  split at hR
  · rename_i kk m a b i n el
    obtain ⟨hc, hR'⟩ := chk_run hR
    clear hR
    have hR := hR'
    clear hR'
    simp only [Bool.and_eq_true, decide_eq_true_eq, Nat.beq_eq, Nat.ble_eq] at hc
    obtain ⟨hkk, rfl, rfl, rfl, h0, h1, h2⟩ := hc
    obtain rfl := isK0_eq hkk
    obtain ⟨k, rfl⟩ : ∃ k : Nat, i = (k : Int) := ⟨i.toNat, by omega⟩
    simp only [Tr.run, Option.some.injEq, Int.toNat_natCast] at hR
    subst hR
    have ht := loopO m el 0 (m : Int) (k : Int)
    unfold rndO at ht
    by_cases hk : k < m
    · rw [decide_eq_true (show (k : Int) < (m : Int) by omega), decide_eq_true (show (0 : Int) ≤ (k : Int) by omega), Nat.ble_eq_true_of_le h2, Nat.beq_refl, wrapI (by omega) (by omega), Int.toNat_natCast] at ht
      refine ⟨_, _, _, ht, ?_, ?_⟩
      · have e1 : ((k : Int) + 1).toNat = k + 1 := by omega
        simp only [fO, Tr.run, e1]
        rw [decide_eq_true (show (0 : Int) ≤ (k : Int) + 1 by omega), decide_eq_true (show (k : Int) + 1 ≤ (m : Int) + 1 by omega), Nat.ble_eq_true_of_le h2, Nat.beq_refl, decide_true]
        obtain ⟨q, hq⟩ : ∃ q, m - k = q + 1 := ⟨m - k - 1, by omega⟩
        rw [hq, show m - (k + 1) = q by omega, show max (k + 1) m = m by omega, show max k m = m by omega]
        rfl
      · show m + 1 - ((k : Int) + 1).toNat < m + 1 - ((k : Int)).toNat
        omega
    · rw [decide_eq_false (show ¬ (k : Int) < (m : Int) by omega)] at ht
      refine ⟨_, _, _, ht, ?_⟩
      rw [show m - k = 0 by omega, show max k m = k by omega]
      rfl
  · simp [Tr.run] at hR
end Go.Proofs.Ytfgniheefiefjaa

/- Sorting at most twelve spans in place: what the calls leave. Conditions: none beyond the context's. -/
namespace Go.Proofs.Ytfgniheefiefjaa
open Go.Evl Go.RowKit
noncomputable abbrev cS1 {β : Type} : CallK β := callLK Try.prog spS inS extD cS0 [(80, lpJ)]
noncomputable abbrev cS2 {β : Type} : CallK β := callLK Try.prog spS inS extD cS1 [(73, fun _ => .unroll 3)]
noncomputable abbrev cS3 {β : Type} : CallK β := callLK Try.prog spS inS extD cS2 [(57, fun _ => .unroll 3)]
theorem vt57 (n : Nat) (el : Nat → Nat → Dt) (hn : n ≤ 12) : evFn (β := Res × List Ob) Try.prog spS inS extD cS2 (fun _ => .unroll 3) Try.f57 [.own 0 k0 n, .fn (.func 14) []] [.own 25 SS n el] (fun r H => some (r, H)) =
    some (.ret (.tup []), [.own 25 SS n (isF (n - 1) 1 el)]) := by
  have h : evFn (β := Res × List Ob) Try.prog spS inS extD cS2 (fun _ => .unroll 3) Try.f57 [.own 0 k0 n, .fn (.func 14) []] [.own 25 SS n el] (fun r H => some (r, H)) =
      (bif Nat.beq n n then bif true && decide (IntKind.u64.wrap (n : Int) < 13) then bif decide (IntKind.i64.wrap ((n : Int) - 0) ≤ 12) then
        bif true && (true && (Nat.beq n n && (decide ((n : Int) = (n : Int)) && (true && (decide (IntKind.i64.wrap (0 + 1) ≤ (n : Int) + 1) && Nat.ble n 1000))))) then some (.ret (.tup []), [.own 25 SS n (isF (n - (IntKind.i64.wrap (0 + 1)).toNat) (IntKind.i64.wrap (0 + 1)).toNat el)]) else none
      else bif lnI (IntKind.u64.wrap (n : Int)) == 0 then none else none else none else none : Option (Res × List Ob)) := by kernel_rfl
  rw [h]
  have w1 : IntKind.i64.wrap (0 + 1) = 1 := by rw [wrapI (by omega) (by omega)]; rfl
  have w2 : IntKind.i64.wrap ((n : Int) - 0) = (n : Int) := by rw [wrapI (by omega) (by omega)]; omega
  have w3 : IntKind.u64.wrap (n : Int) = (n : Int) := by show (n : Int) % 18446744073709551616 = (n : Int); omega
  rw [w1, w2, w3, Nat.beq_refl, decide_eq_true (show (n : Int) < 13 by omega), decide_eq_true (show (n : Int) ≤ 12 by omega), decide_eq_true rfl, decide_eq_true (show (1 : Int) ≤ (n : Int) + 1 by omega), Nat.ble_eq_true_of_le (show n ≤ 1000 by omega)]
  rfl
theorem sxS : (mkCx Try.prog spS inS extD).Ok InvD := cx_of [33, 57, 73, 80] (by kernel_rfl) (by
  intro p hp
  simp only [List.mem_cons, List.not_mem_nil, or_false] at hp
  rcases hp with rfl | rfl
  · exact t14_ok
  · exact t74_ok)
set_option maxRecDepth 10000 in
theorem lpsS1 : LpsOk (mkCx Try.prog spS inS extD) (callN (mkCx Try.prog spS inS extD) attD uD 20) [(80, lpJ)] := by
  intro f lp hf fn c hfn hc
  simp only [List.mem_singleton, Prod.mk.injEq] at hf
  obtain ⟨rfl, rfl⟩ := hf
  have e1 : fn = Try.f80 := Option.some.inj (hfn.symm.trans Try.func80)
  subst e1
  have e2 : c = codeOf Try.prog 80 := Option.some.inj (hc.symm.trans (by kernel_rfl))
  subst e2
  refine loopsOk_of Try.prog spS inS extD cS0 (fun {β} => callK_eq (β := β) Try.prog spS inS extD attD uD 20) fun p hp => ?_
  have hl : loops (codeOf Try.prog 80) = [(0, bodyOf Try.prog 80 0), (2, bodyOf Try.prog 80 2)] := by kernel_rfl
  rw [hl] at hp
  simp only [List.mem_cons, List.not_mem_nil, or_false] at hp
  rcases hp with rfl | rfl
  · exact sumO
  · exact sumJ
theorem lps_unroll {cf : CallF} {f : FuncId} {k : Nat} : LpsOk (mkCx Try.prog spS inS extD) cf [(f, fun _ => .unroll k)] := by
  intro g lp hf fn c _ _
  simp only [List.mem_singleton, Prod.mk.injEq] at hf
  obtain ⟨rfl, rfl⟩ := hf
  intro p _ keep f' h
  cases h
theorem sndS1 : CallSound Try.prog InvD (callLN (mkCx Try.prog spS inS extD) (callN (mkCx Try.prog spS inS extD) attD uD 20) [(80, lpJ)]) :=
  callLN_sound sxS stableD mixedD (callN_sound attD_ok sxS stableD mixedD 20) lpsS1
theorem sndS2 : CallSound Try.prog InvD (callLN (mkCx Try.prog spS inS extD) (callLN (mkCx Try.prog spS inS extD) (callN (mkCx Try.prog spS inS extD) attD uD 20) [(80, lpJ)]) [(73, fun _ => .unroll 3)]) :=
  callLN_sound sxS stableD mixedD sndS1 lps_unroll
end Go.Proofs.Ytfgniheefiefjaa

/- Rows of spans put in order: what sorting in place leaves, and sorted rows compared. Plain laws; no condition. -/
namespace Go.Proofs.Ytfgniheefiefjaa
open Go.Evl Go.RowKit

theorem cp_lt {a b c d : Int} : cpI a b c d < 0 ↔ a < c ∨ (a = c ∧ b < d) := by
  have := @cp_ge a b c d
  omega
theorem cp_zero {a b c d : Int} : cpI a b c d = 0 ↔ a = c ∧ b = d := by
  unfold cpI orI cmI
  repeat' split
  all_goals omega
/-- a span's cells as they read -/
def vE (el : Nat → Nat → Dt) (i : Nat) : List Dt := nmE (el i)
theorem vE_cell {x y : Nat → Nat → Dt} {i k : Nat} (h : vE x i = vE y k) : (x i 0).n = (y k 0).n ∧ (x i 1).n = (y k 1).n ∧ (x i 2).n = (y k 2).n ∧ (x i 3).s = (y k 3).s ∧ (x i 4).s = (y k 4).s ∧ (x i 5).n = (y k 5).n ∧ (x i 6).n = (y k 6).n ∧ (x i 7).n = (y k 7).n ∧
    (x i 8).len = (y k 8).len ∧ (x i 8).el = (y k 8).el ∧ (x i 9).len = (y k 9).len ∧ (x i 9).el = (y k 9).el := by
  simp only [vE, nmE, List.cons.injEq, Dt.int.injEq, Dt.str.injEq, Dt.row.injEq, and_true] at h
  obtain ⟨h0, h1, h2, h3, h4, h5, h6, h7, ⟨h8, h9⟩, h10, h11⟩ := h
  exact ⟨h0, h1, h2, h3, h4, h5, h6, h7, h8, h9, h10, h11⟩
theorem vE_swap (el : Nat → Nat → Dt) {a b : Nat} (hab : a ≠ b) (i : Nat) : vE (swE el a b) i = if i = b then vE el a else if i = a then vE el b else vE el i := by
  have hb : ∀ {p q : Nat}, p ≠ q → Nat.beq p q = false := fun h => by rw [Bool.eq_false_iff]; simp only [ne_eq, Nat.beq_eq]; exact h
  by_cases e1 : i = b
  · subst e1
    rw [if_pos rfl]
    simp only [vE, nmE, swE, setEl, Nat.beq_refl, Bool.true_and]
    rfl
  · rw [if_neg e1]
    by_cases e2 : i = a
    · subst e2
      rw [if_pos rfl]
      simp only [vE, nmE, swE, setEl, Nat.beq_refl, hb e1, Bool.true_and, Bool.false_and, cond_false]
      rfl
    · rw [if_neg e2]
      simp only [vE, nmE, swE, setEl, hb e1, hb e2, Bool.false_and, cond_false]
def toL (n : Nat) (el : Nat → Nat → Dt) : List (List Dt) := (List.range n).map (vE el)
theorem toL_len (n : Nat) (el : Nat → Nat → Dt) : (toL n el).length = n := by simp [toL]
theorem toL_get {n : Nat} {el : Nat → Nat → Dt} {i : Nat} (h : i < n) : (toL n el)[i]? = some (vE el i) := by simp [toL, h]
theorem toL_mem {n : Nat} {el : Nat → Nat → Dt} {v : List Dt} : v ∈ toL n el ↔ ∃ i, i < n ∧ v = vE el i := by
  simp only [toL, List.mem_map, List.mem_range]
  exact ⟨fun ⟨i, h, e⟩ => ⟨i, h, e.symm⟩, fun ⟨i, h, e⟩ => ⟨i, h, e.symm⟩⟩
theorem toL_congr {n : Nat} {x y : Nat → Nat → Dt} (h : ∀ i, i < n → vE x i = vE y i) : toL n x = toL n y := List.map_congr_left fun i hi => h i (List.mem_range.1 hi)
theorem toL_eq {n : Nat} {x y : Nat → Nat → Dt} (h : toL n x = toL n y) : ∀ i, i < n → vE x i = vE y i := fun i hi => by
  have := toL_get (el := x) hi
  rw [h, toL_get hi] at this
  exact (Option.some.inj this).symm
theorem toL_succ (n : Nat) (x : Nat → Nat → Dt) : toL (n + 1) x = toL n x ++ [vE x n] := by simp [toL, List.range_succ]
/-- two neighbours exchanged -/
theorem toL_swap (el : Nat → Nat → Dt) {j n : Nat} (h : j + 1 < n) : (toL n (swE el (j + 1) j)).Perm (toL n el) := by
  obtain ⟨d, rfl⟩ : ∃ d, n = j + 2 + d := ⟨n - j - 2, by omega⟩
  induction d with
  | zero =>
    show (toL (j + 1 + 1) _).Perm (toL (j + 1 + 1) _)
    rw [toL_succ, toL_succ, toL_succ, toL_succ]
    have e1 : toL j (swE el (j + 1) j) = toL j el := toL_congr fun i hi => by rw [vE_swap _ (by omega), if_neg (by omega), if_neg (by omega)]
    have e2 : vE (swE el (j + 1) j) j = vE el (j + 1) := by rw [vE_swap _ (by omega), if_pos rfl]
    have e3 : vE (swE el (j + 1) j) (j + 1) = vE el j := by rw [vE_swap _ (by omega), if_neg (by omega), if_pos rfl]
    rw [e1, e2, e3, List.append_assoc, List.append_assoc]
    exact (List.Perm.swap _ _ _).append_left _
  | succ d ih =>
    rw [show j + 2 + (d + 1) = j + 2 + d + 1 by omega, toL_succ, toL_succ]
    have e : vE (swE el (j + 1) j) (j + 2 + d) = vE el (j + 2 + d) := by rw [vE_swap _ (by omega), if_neg (by omega), if_neg (by omega)]
    rw [e]
    exact (ih (by omega)).append_right _
def lxE (x : Nat → Nat → Dt) (i k : Nat) : Prop := (x i 0).n < (x k 0).n ∨ ((x i 0).n = (x k 0).n ∧ (x i 1).n < (x k 1).n)
theorem ltE_iff {el : Nat → Nat → Dt} {a b : Nat} : ltE el a b = true ↔ lxE el a b := by simp only [ltE, decide_eq_true_eq, cp_lt, lxE]
theorem lx_swap {el : Nat → Nat → Dt} {a b : Nat} (hab : a ≠ b) (i k : Nat) : lxE (swE el a b) i k ↔ lxE el (if i = b then a else if i = a then b else i) (if k = b then a else if k = a then b else k) := by
  have hc : ∀ i, ((swE el a b) i 0).n = (el (if i = b then a else if i = a then b else i) 0).n ∧ ((swE el a b) i 1).n = (el (if i = b then a else if i = a then b else i) 1).n := fun i => by
    have : vE (swE el a b) i = vE el (if i = b then a else if i = a then b else i) := by
      rw [vE_swap el hab]
      by_cases e1 : i = b
      · rw [if_pos e1, if_pos e1]
      · rw [if_neg e1, if_neg e1]
        by_cases e2 : i = a
        · rw [if_pos e2, if_pos e2]
        · rw [if_neg e2, if_neg e2]
    have h := vE_cell this
    exact ⟨h.1, h.2.1⟩
  unfold lxE
  rw [(hc i).1, (hc i).2, (hc k).1, (hc k).2]
/-- sinking: the rows are those of before in another order, and in order up to the place begun at -/
theorem sinkF_ok {m : Nat} : ∀ (j : Nat) (el : Nat → Nat → Dt), j < m → (∀ a b, a < b → b < m → a ≠ j → b ≠ j → ¬ lxE el b a) → (∀ b, j < b → b < m → ¬ lxE el b j) →
    (∀ a b, a < b → b < m → ¬ lxE (sinkF j el).1 b a) ∧ (∀ n, m ≤ n → (toL n (sinkF j el).1).Perm (toL n el)) ∧ ∀ i, m ≤ i → vE (sinkF j el).1 i = vE el i
  | 0, el, hj, h1, h2 => by
    refine ⟨fun a b hab hb => ?_, fun n _ => List.Perm.refl _, fun i _ => rfl⟩
    simp only [sinkF]
    by_cases e : a = 0
    · subst e; exact h2 b hab hb
    · exact h1 a b hab hb e (by omega)
  | j + 1, el, hj, h1, h2 => by
    simp only [sinkF]
    by_cases hl : ltE el (j + 1) j = true
    · rw [if_pos hl]
      have hlx := ltE_iff.1 hl
      have hsw := fun i k => lx_swap (el := el) (show j + 1 ≠ j by omega) i k
      obtain ⟨g1, g2, g3⟩ := sinkF_ok (m := m) j (swE el (j + 1) j) (by omega) (fun a b hab hb na nb => by
        rw [hsw, if_neg nb, if_neg na]
        by_cases e1 : b = j + 1
        · rw [if_pos e1, if_neg (by omega)]
          exact h1 a j (by omega) (by omega) (by omega) (by omega)
        · rw [if_neg e1]
          by_cases e2 : a = j + 1
          · rw [if_pos e2]
            exact h1 j b (by omega) hb (by omega) (by omega)
          · rw [if_neg e2]
            exact h1 a b hab hb e2 e1) (fun b hjb hb => by
        rw [hsw, if_neg (by omega), if_pos rfl]
        by_cases e1 : b = j + 1
        · rw [if_pos e1]
          unfold lxE at hlx ⊢
          omega
        · rw [if_neg e1]
          exact h2 b (by omega) hb)
      refine ⟨g1, fun n hn => (g2 n hn).trans (toL_swap el (by omega)), fun i hi => ?_⟩
      rw [g3 i hi, vE_swap _ (by omega), if_neg (by omega), if_neg (by omega)]
    · rw [if_neg hl]
      have hlx : ¬ lxE el (j + 1) j := fun h => hl (ltE_iff.2 h)
      refine ⟨fun a b hab hb => ?_, fun n _ => List.Perm.refl _, fun i _ => rfl⟩
      by_cases e1 : a = j + 1
      · subst e1; exact h2 b hab hb
      · by_cases e2 : b = j + 1
        · subst e2
          by_cases e3 : a = j
          · subst e3; exact hlx
          · have := h1 a j (by omega) (by omega) (by omega) (by omega)
            show ¬ lxE el (j + 1) a
            unfold lxE at hlx this ⊢
            omega
        · exact h1 a b hab hb e1 e2
theorem isF_ok {n : Nat} : ∀ (k i : Nat) (el : Nat → Nat → Dt), 0 < i → i + k = n → (∀ a b, a < b → b < i → ¬ lxE el b a) →
    (∀ a b, a < b → b < n → ¬ lxE (isF k i el) b a) ∧ (toL n (isF k i el)).Perm (toL n el)
  | 0, i, el, _, hn, h => by
    obtain rfl : i = n := by omega
    exact ⟨h, List.Perm.refl _⟩
  | k + 1, i, el, hi, hn, h => by
    obtain ⟨g1, g2, _⟩ := sinkF_ok (m := i + 1) i el (Nat.lt_succ_self i) (fun a b hab hb _ nb => h a b hab (by omega)) (fun b h1 h2 => by omega)
    obtain ⟨f1, f2⟩ := isF_ok (n := n) k (i + 1) (sinkF i el).1 (Nat.succ_pos i) (by omega) g1
    exact ⟨f1, f2.trans (g2 n (by omega))⟩
/-- sorted: what insertion sort leaves -/
def soF (n : Nat) (el : Nat → Nat → Dt) : Nat → Nat → Dt := isF (n - 1) 1 el
theorem soF_ok (n : Nat) (el : Nat → Nat → Dt) : (∀ a b, a < b → b < n → ¬ lxE (soF n el) b a) ∧ (toL n (soF n el)).Perm (toL n el) := by
  cases n with
  | zero => exact ⟨fun a b _ hb => by omega, List.Perm.refl _⟩
  | succ n => exact isF_ok n 1 el (by omega) (by omega) (fun a b hab hb => by omega)
/-- the identities of a row -/
def kyL (v : List Dt) : Int × Int := ((dtF v 0).n, (dtF v 1).n)
theorem kyL_vE (x : Nat → Nat → Dt) (i : Nat) : kyL (vE x i) = ((x i 0).n, (x i 1).n) := rfl
def dsL (n : Nat) (x : Nat → Nat → Dt) : Prop := ((toL n x).map kyL).Nodup
theorem dsL_perm {n : Nat} {x y : Nat → Nat → Dt} (h : (toL n x).Perm (toL n y)) : dsL n x ↔ dsL n y := (h.map kyL).nodup_iff
theorem dsL_iff {n : Nat} {x : Nat → Nat → Dt} : dsL n x ↔ ∀ a b, a < b → b < n → ¬ ((x a 0).n = (x b 0).n ∧ (x a 1).n = (x b 1).n) := by
  unfold dsL toL
  rw [List.map_map, List.Nodup, List.pairwise_map, List.pairwise_iff_getElem]
  simp only [List.length_range, List.getElem_range, Function.comp, kyL_vE, ne_eq, Prod.mk.injEq]
  exact ⟨fun h a b hab hb => h a b (by omega) hb hab, fun h a b _ hb hab => h a b hab hb⟩
/-- two rows in order, of the same spans, all different, read alike -/
theorem sorted_eq {n : Nat} {x y : Nat → Nat → Dt} (hx : ∀ a b, a < b → b < n → ¬ lxE x b a) (hy : ∀ a b, a < b → b < n → ¬ lxE y b a) (hp : (toL n x).Perm (toL n y)) (hd : dsL n x) : toL n x = toL n y := by
  have hpw : ∀ {x : Nat → Nat → Dt}, (∀ a b, a < b → b < n → ¬ lxE x b a) → (toL n x).Pairwise fun u v => ¬ ((kyL v).1 < (kyL u).1 ∨ ((kyL v).1 = (kyL u).1 ∧ (kyL v).2 < (kyL u).2)) := fun {x} h => by
    unfold toL
    rw [List.pairwise_map, List.pairwise_iff_getElem]
    simp only [List.length_range, List.getElem_range, kyL_vE]
    exact fun a b _ hb hab => h a b hab hb
  refine hp.eq_of_pairwise (fun u v hu hv h1 h2 => ?_) (hpw hx) (hpw hy)
  have hv' := hp.mem_iff.2 hv
  obtain ⟨i, hi, rfl⟩ := toL_mem.1 hu
  obtain ⟨k, hk, rfl⟩ := toL_mem.1 hv'
  simp only [kyL_vE] at h1 h2
  have hd' := dsL_iff.1 hd
  rcases Nat.lt_trichotomy i k with e | e | e
  · exact absurd ⟨by omega, by omega⟩ (hd' i k e hk)
  · rw [e]
  · exact absurd ⟨by omega, by omega⟩ (hd' k i e hi)
/-- in order and no two neighbours alike: all different -/
theorem strict_of {n : Nat} {x : Nat → Nat → Dt} (hx : ∀ a b, a < b → b < n → ¬ lxE x b a) : (∀ i, 1 ≤ i → i < n → cpI (x (i - 1) 0).n (x (i - 1) 1).n (x i 0).n (x i 1).n ≠ 0) ↔ dsL n x := by
  rw [dsL_iff]
  constructor
  · intro h a b hab hb he
    have h1 := h (a + 1) (by omega) (by omega)
    rw [ne_eq, cp_zero, Nat.add_sub_cancel] at h1
    have h2 := hx a (a + 1) (by omega) (by omega)
    by_cases e : b = a + 1
    · subst e; exact h1 he
    · have h3 := hx (a + 1) b (by omega) hb
      unfold lxE at h2 h3
      omega
  · intro h i h1 hi
    rw [ne_eq, cp_zero]
    exact h (i - 1) i (by omega) hi
end Go.Proofs.Ytfgniheefiefjaa

/- slices.Clone of spans: a new row of its own, and a row that is immutable. Conditions: none beyond the context's. -/
namespace Go.Proofs.Ytfgniheefiefjaa
open Go.Evl Go.RowKit

theorem frsD {l : List Ent} {il : List FuncId} (hl : (mkCx Try.prog (spOf l) (inlOf il) extD).Ok InvD) {f : FuncId} {fn : Func} (hfn : Try.prog.funcs[f]? = some fn) {c : Code} (hb : fn.body = some c) (lp : Nat → LT)
    (hlp : ∀ p ∈ loops c, LoopOkT Try.prog (spOf l) (inlOf il) extD (cKD l il) lp fn.ntmps p.2 (lp p.1)) {args : List AV} {v : AV} {obs : List Ob}
    (h1 : Nat.ble args.length fn.ntmps = true) (h3 : evFn (β := Res × List Ob) Try.prog (spOf l) (inlOf il) extD (cKD l il) lp fn args [] (fun r H => some (r, H)) = some (.ret v, obs)) : FrsAt Try.prog InvD f args v obs :=
  frsAt_of_ev Try.prog (spOf l) (inlOf il) extD (cKD l il) (fun {β} => callK_eq (β := β) Try.prog (spOf l) (inlOf il) extD attD uD 20) hl stableD mixedD (callN_sound attD_ok hl stableD mixedD 20) hfn hb lp hlp h1 h3
theorem vt33a (cap : Nat) : evFn (β := Res × List Ob) Try.prog (spOf []) (inlOf []) extD (cKD [] []) (fun _ => .unroll 0) Try.f33 [.raw (.slice none 0 cap)] [] (fun r H => some (r, H)) = some (.ret .nsl, []) := by kernel_rfl
theorem vt33b (a : Addr) (cap : Nat) : evFn (β := Res × List Ob) Try.prog (spOf []) (inlOf []) extD (cKD [] []) (fun _ => .unroll 0) Try.f33 [.raw (.slice (some a) 0 cap)] [] (fun r H => some (r, H)) = some (.ret (.own 0 k0 0), [.own 25 SS 0 (appEl zeroEl 0 fun _ _ => .int 0)]) := by kernel_rfl
theorem vt33c (n : Nat) (x : Nat → Nat → Dt) : evFn (β := Res × List Ob) Try.prog (spOf []) (inlOf []) extD (cKD [] []) (fun _ => .unroll 0) Try.f33 [.isz n SS x] [] (fun r H => some (r, H)) =
    (bif Nat.blt 0 n then bif Nat.ble n 1000000 then some (.ret (.own 0 k0 (0 + n)), [.own 25 SS (0 + n) x]) else none else none) := by kernel_rfl
theorem fr33 (n : Nat) (x : Nat → Nat → Dt) (hn : n ≤ 1000000) : FrsAt Try.prog InvD 33 [.isz n SS x] (.own 0 k0 n) [.own 25 SS n x] := by
  refine frs_clone (fun cap => frsD cx0 Try.func33 (c := codeOf Try.prog 33) (by kernel_rfl) (fun _ => .unroll 0) (fun _ _ => trivial) (by kernel_rfl) (vt33a cap)) (fun a cap => ?_) (fun n x h0 h1 => ?_) n x hn
  · have := frsD cx0 Try.func33 (c := codeOf Try.prog 33) (by kernel_rfl) (fun _ => .unroll 0) (fun _ _ => trivial) (by kernel_rfl) (vt33b a cap)
    intro ρ A w vs hA hi hv
    refine (this ρ A w vs hA hi hv).mono ?_
    rintro e w' ⟨ρ', A', u, h1, h2, h3, rfl, h4⟩
    refine ⟨ρ', A', u, own_zero h1, h2, h3, rfl, h4.mono (fun i ⟨o, ho, _⟩ => ?_) (Nle.refl _ _) (fun _ h => h) (fun _ _ => rfl)⟩
    cases i with
    | zero => exact ⟨.own 25 SS 0 zeroEl, rfl, rfl⟩
    | succ i => simp at ho
  · refine frsD cx0 Try.func33 (c := codeOf Try.prog 33) (by kernel_rfl) (fun _ => .unroll 0) (fun _ _ => trivial) (by kernel_rfl) ((vt33c n x).trans ?_)
    rw [show Nat.blt 0 n = true by rw [Nat.blt_eq]; exact h0, Nat.ble_eq_true_of_le h1, Nat.zero_add]
    rfl
/-- a copy that may be written to -/
def h33 : HEnt := ⟨33, fun
  | [.isz n [.int .i64, .int .i64, .int .i64, .str, .str, .int .i64, .int .i64, .int .i64, .row [.str, .str], .row [.int .i64, .int .i64]] x] => .chk (Nat.ble n 1000000) (.leaf (.own 0 k0 n, [.own 25 SS n x]))
  | _ => .non⟩
theorem h33_ok : FrsHolds Try.prog InvD 33 fun a => (h33.2 a).run := by
  intro args v obs h
  unfold h33 at h
  simp only at h
  split at h
  · rename_i n x
    simp only [Tr.run] at h
    cases hn : Nat.ble n 1000000 with
    | false => rw [hn] at h; cases h
    | true =>
      rw [hn] at h
      obtain ⟨rfl, rfl⟩ := h
      exact fr33 n x (by simpa using hn)
  · cases h
/-- a copy that nothing writes to -/
def t33 : Ent := ⟨33, fun
  | [.isz n [.int .i64, .int .i64, .int .i64, .str, .str, .int .i64, .int .i64, .int .i64, .row [.str, .str], .row [.int .i64, .int .i64]] x] => .chk (Nat.ble n 1000000) (.leaf (.ret (.isz n SS x)))
  | _ => .non⟩
theorem t33_ok : SpecHolds Try.prog InvD 33 fun a => (t33.2 a).run := by
  have := spec_of_frs (P := Try.prog) (Inv := InvD) (f := 33) (t := 25) (sh := SS) (s := fun
    | [.isz n [.int .i64, .int .i64, .int .i64, .str, .str, .int .i64, .int .i64, .int .i64, .row [.str, .str], .row [.int .i64, .int .i64]] x] => if Nat.ble n 1000000 = true then some (n, x) else none
    | _ => none) (fun args n x h => by
      -- the guards of the pattern
      split at h
      · split at h
        · rename_i hn
          simp only [Option.some.injEq, Prod.mk.injEq] at h
          obtain ⟨rfl, rfl⟩ := h
          exact fr33 _ _ (by simpa using hn)
        · cases h
      · cases h)
  intro args r hr
  refine this args r ?_
  unfold t33 at hr
  simp only at hr
  split at hr
  · rename_i n x
    simp only [Tr.run] at hr
    cases hn : Nat.ble n 1000000 with
    | false => rw [hn] at hr; cases hr
    | true =>
      rw [hn] at hr
      simp only [cond_true, Option.some.injEq] at hr
      subst hr
      simp only [hn, if_true, Option.map_some]
  · cases hr
end Go.Proofs.Ytfgniheefiefjaa

/- The layers of calls that put spans in order. Conditions: none beyond the context's. -/
namespace Go.Proofs.Ytfgniheefiefjaa
open Go.Evl Go.RowKit

noncomputable abbrev cS4 {β : Type} : CallK β := callHK cS3 [h33]
noncomputable abbrev cfS0 : CallF := callN (mkCx Try.prog spS inS extD) attD uD 20
noncomputable abbrev cfS1 : CallF := callLN (mkCx Try.prog spS inS extD) cfS0 [(80, lpJ)]
noncomputable abbrev cfS2 : CallF := callLN (mkCx Try.prog spS inS extD) cfS1 [(73, fun _ => .unroll 3)]
noncomputable abbrev cfS3 : CallF := callLN (mkCx Try.prog spS inS extD) cfS2 [(57, fun _ => .unroll 3)]
noncomputable abbrev cfS4 : CallF := callHN cfS3 [h33]
theorem cS4_eq {β : Type} : CallEq (β := β) cS4 cfS4 := callHK_eq (callLK_eq _ _ _ _ (callLK_eq _ _ _ _ (callLK_eq _ _ _ _ (callK_eq Try.prog spS inS extD attD uD 20) _) _) _) _
theorem sndS3 : CallSound Try.prog InvD cfS3 := callLN_sound sxS stableD mixedD sndS2 lps_unroll
theorem sndS4 : CallSound Try.prog InvD cfS4 := callHN_sound sndS3 stableD fun f s hf => by
  simp only [List.mem_singleton] at hf
  obtain ⟨rfl, rfl⟩ := hf
  exact h33_ok
end Go.Proofs.Ytfgniheefiefjaa

/- Spans in order: a contract. Conditions: none beyond the context's. -/
namespace Go.Proofs.Ytfgniheefiefjaa
open Go.Evl Go.RowKit
/-- two neighbours alike -/
def gD (y : Nat → Nat → Dt) (k : Nat) : Option Unit := if cpI (y (k - 1) 0).n (y (k - 1) 1).n (y k 0).n (y k 1).n = 0 then some () else none
structure S53 where
  n : Nat
  el : Nat → Nat → Dt
  m : Nat
  i : Int
abbrev keep53 : List Nat := [0, 2, 3, 4]
abbrev vs53 (s : S53) : List AV := [.own 0 k0 s.m, .nsl, .bool false, .int .i64 s.i]
abbrev hp53 (s : S53) : List Ob := [.own 25 SS s.n s.el]
def dec53 : List AV → List Ob → Option S53
  | [.own 0 (.int 0) m, .nsl, .bool false, .int .i64 i], [.own 25 [.int .i64, .int .i64, .int .i64, .str, .str, .int .i64, .int .i64, .int .i64, .row [.str, .str], .row [.int .i64, .int .i64]] n el] => some ⟨n, el, m, i⟩
  | _, _ => none
def dom53 (s : S53) : Bool := Nat.beq s.m s.n && (decide (1 ≤ s.i) && Nat.ble s.n 1000)
def fin53 (s : S53) : Tr (Ex × List AV × List Ob) := .node (scan (gD s.el) (s.n - s.i.toNat) s.i.toNat).isNone (.leaf (.exit 0, [.own 0 k0 s.n, .nsl, .bool false, .int .i64 ((max s.i.toNat s.n : Nat) : Int)], [.own 25 SS s.n s.el])) (.leaf (.ret, [.own 0 k0 s.n, .nsl, .bool false, .int .i64 (((scan (gD s.el) (s.n - s.i.toNat) s.i.toNat).getD ((), 0)).2 : Int)], [.own 25 SS s.n s.el]))
abbrev lp53 (_ : Nat) : LT := .sum keep53 (stF dec53 dom53 fin53)
def rnd53 (n : Nat) (el : Nat → Nat → Dt) (i : Int) : Option (Ex × List AV × List Ob) := bif n.beq n then bif decide (i < ↑n) then bif decide (0 ≤ IntKind.i64.wrap (i - 1)) && decide (IntKind.i64.wrap (i - 1) < ↑n) then bif n.beq n then bif n.beq n && (IntKind.i64.wrap (i - 1)).toNat.blt n then bif decide (0 ≤ i) && decide (i < ↑n) then bif n.beq n then bif n.beq n && i.toNat.blt n then bif cpI (el (IntKind.i64.wrap (i - 1)).toNat 0).n (el (IntKind.i64.wrap (i - 1)).toNat 1).n (el i.toNat 0).n (el i.toNat 1).n == 0 then some (.ret, [.own 0 k0 n, .nsl, .bool false, .int .i64 i], [.own 25 SS n el]) else some (.normal, [.own 0 k0 n, .nsl, .bool false, .int .i64 (IntKind.i64.wrap (i + 1))], [.own 25 SS n el]) else none else none else none else none else none else none else some (.exit 0, [.own 0 k0 n, .nsl, .bool false, .int .i64 i], [.own 25 SS n el]) else none
theorem loop53 (n : Nat) (el : Nat → Nat → Dt) (i : Int) : evC (β := Ex × List AV × List Ob) Try.prog spS inS extD cS4 lp53 (bodyOf Try.prog 53 0) ⟨mkF Try.f53.ntmps keep53 [.own 0 k0 n, .nsl, .bool false, .int .i64 i], [.own 25 SS n el]⟩ (fun e st => (cutBack keep53 1 st).map fun q => (e, q.1, q.2)) = rnd53 n el i := by kernel_rfl
theorem sum53 : LoopOkT Try.prog spS inS extD cS4 lp53 Try.f53.ntmps (bodyOf Try.prog 53 0) (.sum keep53 (stF dec53 dom53 fin53)) := by
  dsimp only [LoopOkT]
  refine ⟨by decide, by decide, ?_⟩
  refine sum_st dec53 dom53 fin53 vs53 hp53 (fun s => s.n - s.i.toNat) (fun vs H s hs => ?_) (fun s R hd hR => ?_)
  · unfold dec53 at hs
    split at hs
    · obtain rfl := Option.some.inj hs
      exact ⟨rfl, rfl⟩
    · cases hs
  · obtain ⟨n, el, m, i⟩ := s
    simp only [dom53, Bool.and_eq_true, decide_eq_true_eq, Nat.ble_eq, Nat.beq_eq] at hd
    obtain ⟨rfl, h1, h2⟩ := hd
    obtain ⟨i, rfl⟩ : ∃ k : Nat, i = (k : Int) := ⟨i.toNat, by omega⟩
    simp only [fin53, Int.toNat_natCast] at hR
    have ht := loop53 m el (i : Int)
    unfold rnd53 at ht
    by_cases hi : i < m
    · have w1 : IntKind.i64.wrap ((i : Int) - 1) = ((i - 1 : Nat) : Int) := by rw [wrapI (by omega) (by omega)]; omega
      have w2 : IntKind.i64.wrap ((i : Int) + 1) = ((i + 1 : Nat) : Int) := by rw [wrapI (by omega) (by omega)]; omega
      rw [w1, w2, Int.toNat_natCast, Int.toNat_natCast, condT (Nat.beq_refl m), condT (decide_eq_true (by omega)), condT (by simp only [Bool.and_eq_true, decide_eq_true_eq]; omega), condT (Nat.beq_refl m), condT (by simp only [Nat.beq_refl, Bool.true_and, Nat.blt_eq]; omega),
        condT (by simp only [Bool.and_eq_true, decide_eq_true_eq]; omega), condT (Nat.beq_refl m), condT (by simp only [Nat.beq_refl, Bool.true_and, Nat.blt_eq]; omega)] at ht
      obtain ⟨q, hq⟩ : ∃ q, m - i = q + 1 := ⟨m - i - 1, by omega⟩
      by_cases hc : cpI (el (i - 1) 0).n (el (i - 1) 1).n (el i 0).n (el i 1).n = 0
      · rw [condT (by simpa using hc)] at ht
        refine .inr ⟨?_, ht.trans ?_⟩
        · simp only [hq, scan, gD, hc, if_true, Option.isNone_some, Tr.run, cond_false, Option.some.injEq] at hR
          rw [← hR]; simp
        · simp only [hq, scan, gD, hc, if_true, Option.isNone_some, Tr.run, cond_false, Option.getD_some] at hR
          exact hR
      · rw [condF (by simpa using hc)] at ht
        refine .inl ⟨⟨m, el, m, ((i + 1 : Nat) : Int)⟩, ht, rfl, ?_, ?_, ?_⟩
        · simp only [dom53, Bool.and_eq_true, decide_eq_true_eq, Nat.ble_eq, Nat.beq_eq]; exact ⟨trivial, by omega, h2⟩
        · rw [← hR]
          simp only [fin53, Int.toNat_natCast, hq, scan, gD, hc, if_false, show m - (i + 1) = q by omega, show max (i + 1) m = max i m by omega]
        · simp only; omega
    · rw [condT (Nat.beq_refl m), condF (decide_eq_false (by omega))] at ht
      refine .inr ?_
      simp only [show m - i = 0 by omega, scan, Option.isNone_none, Tr.run, cond_true, Option.some.injEq, show max i m = i by omega] at hR
      subst hR
      exact ⟨by simp, ht⟩
end Go.Proofs.Ytfgniheefiefjaa

/- Spans in order: the contract. Conditions: none beyond the context's. -/
namespace Go.Proofs.Ytfgniheefiefjaa
open Go.Evl Go.RowKit
theorem vt53 (n : Nat) (x : Nat → Nat → Dt) : (evFnT Try.prog spS inS extD cS4 lp53 Try.f53 [.isz n SS x] [] (castT (.tup [.row SS, .any]))).run =
    (bif n.ble 1000000 then bif n.beq n then bif true && decide (IntKind.u64.wrap (n : Int) < 13) then bif decide (IntKind.i64.wrap ((n : Int) - 0) ≤ 12) then bif true && (true && (n.beq n && (decide ((n : Int) = (n : Int)) && (true && (decide (IntKind.i64.wrap 1 ≤ (n : Int) + 1) && n.ble 1000))))) then bif n.beq n && (true && n.ble 1000) then
      bif (scan (gD (isF (n - (IntKind.i64.wrap 1).toNat) (IntKind.i64.wrap 1).toNat x)) (n - (1 : Int).toNat) (1 : Int).toNat).isNone then bif n.beq n && true then some (.ret (.tup [.isz n SS (isF (n - (IntKind.i64.wrap 1).toNat) (IntKind.i64.wrap 1).toNat x), .bool true])) else none else some (.ret (.tup [.isz 0 SS fun _ _ => .int 0, .bool false])) else none else none
      else bif lnI (IntKind.u64.wrap (n : Int)) == 0 then none else none else none else none else none : Option Res) := by kernel_rfl
/-- are spans in order all different? -/
def dfB (n : Nat) (y : Nat → Nat → Dt) : Bool := (scan (gD y) (n - 1) 1).isNone
def t53 : Ent := ⟨53, fun
  | [.isz n [.int .i64, .int .i64, .int .i64, .str, .str, .int .i64, .int .i64, .int .i64, .row [.str, .str], .row [.int .i64, .int .i64]] x] => .chk (Nat.ble n 12) (.node (dfB n (soF n x)) (.leaf (.ret (.tup [.isz n SS (soF n x), .bool true]))) (.leaf (.ret (.tup [.isz 0 SS fun _ _ => .int 0, .bool false]))))
  | _ => .non⟩
set_option maxRecDepth 10000 in
theorem t53_ok : SpecHolds Try.prog InvD 53 fun a => (t53.2 a).run := by
  refine spec_of_evC Try.prog spS inS extD cS4 (fun {β} => cS4_eq (β := β)) sxS stableD mixedD sndS4 Try.func53 (c := codeOf Try.prog 53) (by kernel_rfl) lp53 (fun p hp => by
    have hl : loops (codeOf Try.prog 53) = [(0, bodyOf Try.prog 53 0)] := by kernel_rfl
    rw [hl, List.mem_singleton] at hp
    subst hp
    exact sum53) (.tup [.row SS, .any]) fun args r hh => ?_
  simp only [t53] at hh
  split at hh
  · rename_i n x
    obtain ⟨hg, hh⟩ := chk_run hh
    rw [Nat.ble_eq] at hg
    refine ⟨by kernel_rfl, (vt53 n x).trans ?_⟩
    have w1 : IntKind.i64.wrap 1 = 1 := by rw [wrapI (by omega) (by omega)]
    have w2 : IntKind.i64.wrap ((n : Int) - 0) = (n : Int) := by rw [wrapI (by omega) (by omega)]; omega
    have w3 : IntKind.u64.wrap (n : Int) = (n : Int) := by show (n : Int) % 18446744073709551616 = (n : Int); omega
    rw [w1, w2, w3, condT (Nat.ble_eq_true_of_le (by omega)), condT (Nat.beq_refl n), condT (by simp only [Bool.true_and, decide_eq_true_eq]; omega), condT (by simp only [decide_eq_true_eq]; omega),
      condT (by simp only [Bool.true_and, Nat.beq_refl, Bool.and_eq_true, decide_eq_true_eq, Nat.ble_eq, true_and]; omega), condT (by simp only [Bool.true_and, Nat.beq_refl, Nat.ble_eq]; omega), Nat.beq_refl]
    exact hh
  · simp [Tr.run] at hh
/-- all different? -/
theorem dfB_iff (n : Nat) (x : Nat → Nat → Dt) : dfB n (soF n x) = true ↔ dsL n x := by
  rw [← dsL_perm (soF_ok n x).2, ← strict_of (soF_ok n x).1]
  unfold dfB
  constructor
  · intro h i h1 hi
    have := scan_none (g := gD (soF n x)) (k := n - 1) (i := 1) (by simpa using h) i h1 (by omega)
    unfold gD at this
    split at this
    · cases this
    · assumption
  · intro h
    have : scan (gD (soF n x)) (n - 1) 1 = none := by
      have hs : ∀ k i, 1 ≤ i → i + k ≤ n → scan (gD (soF n x)) k i = none := by
        intro k
        induction k with
        | zero => intro i _ _; rfl
        | succ k ih =>
          intro i h1 hi
          simp only [scan, gD]
          rw [if_neg (h i h1 (by omega))]
          exact ih (i + 1) (by omega) (by omega)
      rcases Nat.eq_zero_or_pos n with h0 | h0
      · subst h0; rfl
      · exact hs (n - 1) 1 (by omega) (by omega)
    rw [this]; rfl
end Go.Proofs.Ytfgniheefiefjaa

/- The reference's sorting of spans: its loops, a contract. Conditions: none beyond the context's. -/
namespace Go.Proofs.Ytfgniheefiefjaa
open Go.Evl Go.RowKit
/-- the first place whose span does not come before -/
def skF (y x : Nat → Nat → Dt) (i : Nat) : Nat → Nat → Nat
  | 0, k => k
  | f + 1, k => if cpI (y k 0).n (y k 1).n (x i 0).n (x i 1).n < 0 then skF y x i f (k + 1) else k
/-- a span put in -/
def insR (y : Nat → Nat → Dt) (k : Nat) (e : Nat → Dt) : Nat → Nat → Dt := appEl (appEl (appEl zeroEl 0 fun i => y (i + Int.toNat 0)) (0 + (k - Int.toNat 0)) (dtFs [nmE e])) (0 + (k - Int.toNat 0) + 1) fun i => y (i + k)
def rsF (x : Nat → Nat → Dt) : Nat → Nat → (Nat → Nat → Dt) → Bool × Nat × (Nat → Nat → Dt)
  | 0, i, y => (true, i, y)
  | f + 1, i, y => if skF y x i i 0 < i ∧ cpI (y (skF y x i i 0) 0).n (y (skF y x i i 0) 1).n (x i 0).n (x i 1).n = 0 then (false, i, y) else rsF x f (i + 1) (insR y (skF y x i i 0) (x i))
structure S62i where
  n : Nat
  x : Nat → Nat → Dt
  m : Nat
  y : Nat → Nat → Dt
  i : Int
  k : Int
  e0 : Nat → Nat → Dt
abbrev keep62i : List Nat := [0, 2, 3, 4, 5, 6]
abbrev vs62i (s : S62i) : List AV := [.isz s.n SS s.x, .nsl, .bool false, .isz s.m SS s.y, .int .i64 s.i, .int .i64 s.k]
abbrev hp62i (s : S62i) : List Ob := [.frz 25 SS 0 s.e0]
def dec62i : List AV → List Ob → Option S62i
  | [.isz n [.int .i64, .int .i64, .int .i64, .str, .str, .int .i64, .int .i64, .int .i64, .row [.str, .str], .row [.int .i64, .int .i64]] x, .nsl, .bool false, .isz m [.int .i64, .int .i64, .int .i64, .str, .str, .int .i64, .int .i64, .int .i64, .row [.str, .str], .row [.int .i64, .int .i64]] y, .int .i64 i, .int .i64 k], [.frz 25 [.int .i64, .int .i64, .int .i64, .str, .str, .int .i64, .int .i64, .int .i64, .row [.str, .str], .row [.int .i64, .int .i64]] 0 e0] => some ⟨n, x, m, y, i, k, e0⟩
  | _, _ => none
def dom62i (s : S62i) : Bool := decide (0 ≤ s.i) && (decide (s.i < (s.n : Int)) && (decide (0 ≤ s.k) && (decide (s.k ≤ (s.m : Int)) && Nat.ble s.m 1000)))
def fin62i (s : S62i) : Tr (Ex × List AV × List Ob) := .leaf (.exit 2, [.isz s.n SS s.x, .nsl, .bool false, .isz s.m SS s.y, .int .i64 s.i, .int .i64 ((skF s.y s.x s.i.toNat (s.m - s.k.toNat) s.k.toNat : Nat) : Int)], hp62i s)
structure S62 where
  n : Nat
  x : Nat → Nat → Dt
  m : Nat
  y : Nat → Nat → Dt
  i : Int
  e0 : Nat → Nat → Dt
abbrev keep62 : List Nat := [0, 2, 3, 4, 5]
abbrev vs62 (s : S62) : List AV := [.isz s.n SS s.x, .nsl, .bool false, .isz s.m SS s.y, .int .i64 s.i]
abbrev hp62 (s : S62) : List Ob := [.frz 25 SS 0 s.e0]
def dec62 : List AV → List Ob → Option S62
  | [.isz n [.int .i64, .int .i64, .int .i64, .str, .str, .int .i64, .int .i64, .int .i64, .row [.str, .str], .row [.int .i64, .int .i64]] x, .nsl, .bool false, .isz m [.int .i64, .int .i64, .int .i64, .str, .str, .int .i64, .int .i64, .int .i64, .row [.str, .str], .row [.int .i64, .int .i64]] y, .int .i64 i], [.frz 25 [.int .i64, .int .i64, .int .i64, .str, .str, .int .i64, .int .i64, .int .i64, .row [.str, .str], .row [.int .i64, .int .i64]] 0 e0] => some ⟨n, x, m, y, i, e0⟩
  | _, _ => none
def dom62 (s : S62) : Bool := decide (0 ≤ s.i) && (Nat.beq s.m s.i.toNat && (decide (s.i ≤ (s.n : Int)) && Nat.ble s.n 100))
def fin62 (s : S62) : Tr (Ex × List AV × List Ob) := .node (rsF s.x (s.n - s.i.toNat) s.i.toNat s.y).1
  (.leaf (.exit 0, [.isz s.n SS s.x, .nsl, .bool false, .isz (rsF s.x (s.n - s.i.toNat) s.i.toNat s.y).2.1 SS (rsF s.x (s.n - s.i.toNat) s.i.toNat s.y).2.2, .int .i64 (s.n : Int)], hp62 s))
  (.leaf (.ret, [.isz s.n SS s.x, .isz (rsF s.x (s.n - s.i.toNat) s.i.toNat s.y).2.1 SS (rsF s.x (s.n - s.i.toNat) s.i.toNat s.y).2.2, .bool false, .isz (rsF s.x (s.n - s.i.toNat) s.i.toNat s.y).2.1 SS (rsF s.x (s.n - s.i.toNat) s.i.toNat s.y).2.2, .int .i64 ((rsF s.x (s.n - s.i.toNat) s.i.toNat s.y).2.1 : Int)], hp62 s))
abbrev lp62 (i : Nat) : LT := bif Nat.beq i 2 then .sum keep62i (stF dec62i dom62i fin62i) else bif Nat.beq i 1000002 then .ghost [.frz 4] else bif Nat.beq i 1000004 then .ghost [.frz 4] else .sum keep62 (stF dec62 dom62 fin62)
def rnd62i (n : Nat) (x : Nat → Nat → Dt) (m : Nat) (y : Nat → Nat → Dt) (i k : Int) (e0 : Nat → Nat → Dt) : Option (Ex × List AV × List Ob) := bif decide (k < ↑m) then bif decide (0 ≤ k) && decide (k < ↑m) then bif decide (0 ≤ i) && decide (i < ↑n) then bif decide (cpI (y k.toNat 0).n (y k.toNat 1).n (x i.toNat 0).n (x i.toNat 1).n < 0) then some (.normal, [.isz n SS x, .nsl, .bool false, .isz m SS y, .int .i64 i, .int .i64 (IntKind.i64.wrap (k + 1))], [.frz 25 SS 0 e0]) else some (.exit 2, [.isz n SS x, .nsl, .bool false, .isz m SS y, .int .i64 i, .int .i64 k], [.frz 25 SS 0 e0]) else none else none else some (.exit 2, [.isz n SS x, .nsl, .bool false, .isz m SS y, .int .i64 i, .int .i64 k], [.frz 25 SS 0 e0])
theorem loop62i (n : Nat) (x : Nat → Nat → Dt) (m : Nat) (y : Nat → Nat → Dt) (i k : Int) (e0 : Nat → Nat → Dt) : evC (β := Ex × List AV × List Ob) Try.prog (spOf [t15]) (inlOf []) extD (cKD [t15] []) lp62 (bodyOf Try.prog 62 2) ⟨mkF Try.f62.ntmps keep62i [.isz n SS x, .nsl, .bool false, .isz m SS y, .int .i64 i, .int .i64 k], [.frz 25 SS 0 e0]⟩ (fun e st => (cutBack keep62i 1 st).map fun q => (e, q.1, q.2)) = rnd62i n x m y i k e0 := by kernel_rfl
theorem skF_le (y x : Nat → Nat → Dt) (i : Nat) : ∀ f k, k ≤ skF y x i f k ∧ skF y x i f k ≤ k + f
  | 0, k => ⟨Nat.le_refl _, Nat.le_refl _⟩
  | f + 1, k => by
    simp only [skF]
    have := skF_le y x i f (k + 1)
    split <;> omega
theorem sum62i : LoopOkT Try.prog (spOf [t15]) (inlOf []) extD (cKD [t15] []) lp62 Try.f62.ntmps (bodyOf Try.prog 62 2) (.sum keep62i (stF dec62i dom62i fin62i)) := by
  dsimp only [LoopOkT]
  refine ⟨by decide, by decide, ?_⟩
  refine sum_st dec62i dom62i fin62i vs62i hp62i (fun s => s.m - s.k.toNat) (fun vs H s hs => ?_) (fun s R hd hR => ?_)
  · unfold dec62i at hs
    split at hs
    · obtain rfl := Option.some.inj hs
      exact ⟨rfl, rfl⟩
    · cases hs
  · obtain ⟨n, x, m, y, i, k, e0⟩ := s
    simp only [dom62i, Bool.and_eq_true, decide_eq_true_eq, Nat.ble_eq] at hd
    obtain ⟨h1, h2, h3, h4, h5⟩ := hd
    obtain ⟨i, rfl⟩ : ∃ q : Nat, i = (q : Int) := ⟨i.toNat, by omega⟩
    obtain ⟨k, rfl⟩ : ∃ q : Nat, k = (q : Int) := ⟨k.toNat, by omega⟩
    simp only [fin62i, Int.toNat_natCast, Tr.run, Option.some.injEq] at hR
    subst hR
    have ht := loop62i n x m y (i : Int) (k : Int) e0
    unfold rnd62i at ht
    rw [Int.toNat_natCast, Int.toNat_natCast] at ht
    by_cases hk : k < m
    · obtain ⟨q, hq⟩ : ∃ q, m - k = q + 1 := ⟨m - k - 1, by omega⟩
      rw [condT (decide_eq_true (by omega)), condT (by simp only [Bool.and_eq_true, decide_eq_true_eq]; omega), condT (by simp only [Bool.and_eq_true, decide_eq_true_eq]; omega)] at ht
      by_cases hc : cpI (y k 0).n (y k 1).n (x i 0).n (x i 1).n < 0
      · rw [condT (decide_eq_true hc), wrapI (by omega) (by omega)] at ht
        refine .inl ⟨⟨n, x, m, y, (i : Int), (k : Int) + 1, e0⟩, ht, rfl, ?_, ?_, ?_⟩
        · simp only [dom62i, Bool.and_eq_true, decide_eq_true_eq, Nat.ble_eq]; omega
        · have e1 : ((k : Int) + 1).toNat = k + 1 := by omega
          simp only [fin62i, Int.toNat_natCast, Tr.run, e1, hq, skF, hc, if_true, show m - (k + 1) = q by omega]
        · simp only; omega
      · rw [condF (decide_eq_false hc)] at ht
        refine .inr ⟨by simp, ?_⟩
        rw [hq]
        simp only [skF, hc, if_false]
        exact ht
    · rw [condF (decide_eq_false (by omega))] at ht
      refine .inr ⟨by simp, ?_⟩
      rw [show m - k = 0 by omega]
      exact ht
/-- behind the search for the place -/
def nx62 (n : Nat) (x : Nat → Nat → Dt) (m : Nat) (y : Nat → Nat → Dt) (i : Int) (e0 : Nat → Nat → Dt) (K : Nat) : Option (Ex × List AV × List Ob) :=
  bif true && (true && decide ((K : Int) ≤ (m : Int))) then bif true && (true && (K - 0).ble 1000000) then bif decide (0 ≤ i) && decide (i < (n : Int)) then bif (0 + (K - 0)).beq (0 + (K - 0)) && ((0 + (K - 0)).ble 1000000 && true) then bif true && (decide ((K : Int) ≤ (m : Int)) && decide ((m : Int) ≤ (m : Int))) then
    bif (0 + (K - 0) + 1).beq (0 + (K - 0) + 1) && ((0 + (K - 0) + 1).ble 1000000 && (m - K).ble 1000000) then bif (0 + (K - 0) + 1 + (m - K)).beq (0 + (K - 0) + 1 + (m - K)) && true then
      some (.normal, [.isz n SS x, .nsl, .bool false, .isz (0 + (K - 0) + 1 + (m - K)) SS (insR y K (x i.toNat)), .int .i64 (IntKind.i64.wrap (i + 1))], [.frz 25 SS 0 e0]) else none else none else none else none else none else none else none
def rnd62 (n : Nat) (x : Nat → Nat → Dt) (m : Nat) (y : Nat → Nat → Dt) (i : Int) (e0 : Nat → Nat → Dt) : Option (Ex × List AV × List Ob) :=
  bif decide (i < (n : Int)) then bif decide (0 ≤ i) && (decide (i < (n : Int)) && (true && (true && m.ble 1000))) then bif decide (((skF y x i.toNat (m - 0) 0 : Nat) : Int) < (m : Int)) then bif true && decide (((skF y x i.toNat (m - 0) 0 : Nat) : Int) < (m : Int)) then bif decide (0 ≤ i) && decide (i < (n : Int)) then
    bif cpI (y (skF y x i.toNat (m - 0) 0) 0).n (y (skF y x i.toNat (m - 0) 0) 1).n (x i.toNat 0).n (x i.toNat 1).n == 0 then some (.ret, [.isz n SS x, .isz m SS y, .bool false, .isz m SS y, .int .i64 i], [.frz 25 SS 0 e0])
      else nx62 n x m y i e0 (skF y x i.toNat (m - 0) 0) else none else none else nx62 n x m y i e0 (skF y x i.toNat (m - 0) 0) else none
    else some (.exit 0, [.isz n SS x, .nsl, .bool false, .isz m SS y, .int .i64 i], [.frz 25 SS 0 e0])
theorem loop62 (n : Nat) (x : Nat → Nat → Dt) (m : Nat) (y : Nat → Nat → Dt) (i : Int) (e0 : Nat → Nat → Dt) : evC (β := Ex × List AV × List Ob) Try.prog (spOf [t15]) (inlOf []) extD (cKD [t15] []) lp62 (bodyOf Try.prog 62 0) ⟨mkF Try.f62.ntmps keep62 [.isz n SS x, .nsl, .bool false, .isz m SS y, .int .i64 i], [.frz 25 SS 0 e0]⟩ (fun e st => (cutBack keep62 1 st).map fun q => (e, q.1, q.2)) = rnd62 n x m y i e0 := by kernel_rfl
theorem nx62_run {n : Nat} {x : Nat → Nat → Dt} {m : Nat} {y : Nat → Nat → Dt} {i : Nat} {e0 : Nat → Nat → Dt} {K : Nat} (hK : K ≤ m) (hm : m ≤ 1000) (hi : i < n) (hn : n ≤ 1000) :
    nx62 n x m y (i : Int) e0 K = some (.normal, [.isz n SS x, .nsl, .bool false, .isz (m + 1) SS (insR y K (x i)), .int .i64 ((i : Int) + 1)], [.frz 25 SS 0 e0]) := by
  unfold nx62
  rw [condT (by simp only [Bool.true_and, decide_eq_true_eq] <;> omega), condT (by simp only [Bool.true_and, Nat.ble_eq] <;> omega), condT (by simp only [Bool.and_eq_true, decide_eq_true_eq] <;> omega), condT (by simp only [Bool.true_and, Bool.and_true, Nat.ble_eq, Nat.beq_refl] <;> omega), condT (by simp only [Bool.and_eq_true, Bool.true_and, decide_eq_true_eq] <;> omega), condT (by simp only [Bool.and_eq_true, Bool.true_and, Nat.ble_eq, Nat.beq_refl] <;> omega), condT (by simp only [Bool.and_true, Nat.beq_refl] <;> omega), Int.toNat_natCast, wrapI (by omega) (by omega), show 0 + (K - 0) + 1 + (m - K) = m + 1 by omega]
set_option maxRecDepth 4000 in
theorem sum62 : LoopOkT Try.prog (spOf [t15]) (inlOf []) extD (cKD [t15] []) lp62 Try.f62.ntmps (bodyOf Try.prog 62 0) (.sum keep62 (stF dec62 dom62 fin62)) := by
  dsimp only [LoopOkT]
  refine ⟨by decide, by decide, ?_⟩
  refine sum_st dec62 dom62 fin62 vs62 hp62 (fun s => s.n - s.i.toNat) (fun vs H s hs => ?_) (fun s R hd hR => ?_)
  · unfold dec62 at hs
    split at hs
    · obtain rfl := Option.some.inj hs
      exact ⟨rfl, rfl⟩
    · cases hs
  · obtain ⟨n, x, m, y, i, e0⟩ := s
    simp only [dom62, Bool.and_eq_true, decide_eq_true_eq, Nat.ble_eq, Nat.beq_eq] at hd
    obtain ⟨h1, rfl, h3, h4⟩ := hd
    obtain ⟨i, rfl⟩ : ∃ q : Nat, i = (q : Int) := ⟨i.toNat, by omega⟩
    simp only [Int.toNat_natCast] at hR h3 ⊢
    have ht := loop62 n x i y (i : Int) e0
    unfold rnd62 at ht
    rw [Int.toNat_natCast, Nat.sub_zero] at ht
    by_cases hi : i < n
    · obtain ⟨q, hq⟩ : ∃ q, n - i = q + 1 := ⟨n - i - 1, by omega⟩
      have hK := (skF_le y x i i 0).2
      rw [Nat.zero_add] at hK
      rw [condT (by simp only [decide_eq_true_eq] <;> omega), condT (by simp only [Bool.and_eq_true, Bool.true_and, decide_eq_true_eq, Nat.ble_eq] <;> omega)] at ht
      by_cases hk : skF y x i i 0 < i
      · rw [condT (by simp only [decide_eq_true_eq] <;> omega), condT (by simp only [Bool.true_and, decide_eq_true_eq] <;> omega), condT (by simp only [Bool.and_eq_true, decide_eq_true_eq] <;> omega)] at ht
        by_cases hc : cpI (y (skF y x i i 0) 0).n (y (skF y x i i 0) 1).n (x i 0).n (x i 1).n = 0
        · rw [condT (by simpa using hc)] at ht
          refine .inr ?_
          simp only [fin62, Int.toNat_natCast, hq, rsF] at hR
          rw [if_pos ⟨hk, hc⟩] at hR
          simp only [Tr.run, cond_false, Option.some.injEq] at hR
          subst hR
          exact ⟨by simp, ht⟩
        · rw [condF (by simpa using hc), nx62_run hK (by omega) hi (by omega)] at ht
          refine .inl ⟨⟨n, x, i + 1, insR y (skF y x i i 0) (x i), (i : Int) + 1, e0⟩, ht, rfl, ?_, ?_, ?_⟩
          · simp only [dom62, Bool.and_eq_true, decide_eq_true_eq, Nat.ble_eq, Nat.beq_eq]; omega
          · rw [← hR]
            have e1 : ((i : Int) + 1).toNat = i + 1 := by omega
            simp only [fin62, Int.toNat_natCast, e1, hq, rsF, show n - (i + 1) = q by omega]
            rw [if_neg (fun h => hc h.2)]
          · simp only; omega
      · rw [condF (decide_eq_false (by omega)), nx62_run hK (by omega) hi (by omega)] at ht
        refine .inl ⟨⟨n, x, i + 1, insR y (skF y x i i 0) (x i), (i : Int) + 1, e0⟩, ht, rfl, ?_, ?_, ?_⟩
        · simp only [dom62, Bool.and_eq_true, decide_eq_true_eq, Nat.ble_eq, Nat.beq_eq]; omega
        · rw [← hR]
          have e1 : ((i : Int) + 1).toNat = i + 1 := by omega
          simp only [fin62, Int.toNat_natCast, e1, hq, rsF, show n - (i + 1) = q by omega]
          rw [if_neg (fun h => hk h.1)]
        · simp only; omega
    · rw [condF (decide_eq_false (by omega))] at ht
      obtain rfl : i = n := by omega
      refine .inr ?_
      simp only [fin62, Int.toNat_natCast, Nat.sub_self, rsF, Tr.run, cond_true, Option.some.injEq] at hR
      subst hR
      exact ⟨by simp, ht⟩
theorem vt62 (n : Nat) (x : Nat → Nat → Dt) : evFn Try.prog (spOf [t15]) (inlOf []) extD (cKD [t15] []) lp62 Try.f62 [.isz n SS x] [] (fun r _ => some r) =
    (bif true && (true && (true && n.ble 100)) then bif (rsF x (n - 0) 0 zeroEl).1 then some (.ret (.tup [.isz (rsF x (n - 0) 0 zeroEl).2.1 SS (rsF x (n - 0) 0 zeroEl).2.2, .bool true])) else some (.ret (.tup [.isz (rsF x (n - 0) 0 zeroEl).2.1 SS (rsF x (n - 0) 0 zeroEl).2.2, .bool false])) else none : Option Res) := by kernel_rfl
def t62 : Ent := ⟨62, fun
  | [.isz n [.int .i64, .int .i64, .int .i64, .str, .str, .int .i64, .int .i64, .int .i64, .row [.str, .str], .row [.int .i64, .int .i64]] x] => .chk (Nat.ble n 100) (.node (rsF x n 0 zeroEl).1 (.leaf (.ret (.tup [.isz (rsF x n 0 zeroEl).2.1 SS (rsF x n 0 zeroEl).2.2, .bool true]))) (.leaf (.ret (.tup [.isz (rsF x n 0 zeroEl).2.1 SS (rsF x n 0 zeroEl).2.2, .bool false]))))
  | _ => .non⟩
theorem sx62 : (mkCx Try.prog (spOf [t15]) (inlOf []) extD).Ok InvD := cx_of [] (by kernel_rfl) (by
  intro p hp
  simp only [List.mem_cons, List.not_mem_nil, or_false] at hp
  rcases hp with rfl
  exact t15_ok)
set_option maxRecDepth 10000 in
theorem t62_ok : SpecHolds Try.prog InvD 62 fun a => (t62.2 a).run := by
  refine specD sx62 Try.func62 (c := codeOf Try.prog 62) (by kernel_rfl) lp62 (fun p hp => by
    have hl : loops (codeOf Try.prog 62) = [(0, bodyOf Try.prog 62 0), (2, bodyOf Try.prog 62 2)] := by kernel_rfl
    rw [hl] at hp
    simp only [List.mem_cons, List.not_mem_nil, or_false] at hp
    rcases hp with rfl | rfl
    · exact sum62
    · exact sum62i) fun args r hh => ?_
  simp only [t62] at hh
  split at hh
  · rename_i n x
    obtain ⟨hg, hh⟩ := chk_run hh
    refine ⟨by kernel_rfl, ?_, ?_⟩
    · simp only [Tr.run] at hh
      cases h : (rsF x n 0 zeroEl).1 <;> rw [h] at hh <;> (obtain rfl := Option.some.inj hh) <;> rfl
    · refine (vt62 n x).trans (Eq.trans ?_ hh)
      rw [condT (by simpa using hg), Nat.sub_zero]
      rfl
  · simp [Tr.run] at hh
end Go.Proofs.Ytfgniheefiefjaa

/- The reference's sorting and the program's: they leave the same rows. Plain laws; no condition. -/
namespace Go.Proofs.Ytfgniheefiefjaa
open Go.Evl Go.RowKit

theorem vE_ins (y : Nat → Nat → Dt) (k : Nat) (e : Nat → Dt) (p : Nat) : vE (insR y k e) p = if p < k then vE y p else if p = k then nmE e else vE y (p - 1) := by
  have hb : ∀ {a b : Nat}, a < b → Nat.blt a b = true := fun h => by rw [Nat.blt_eq]; exact h
  have hn : ∀ {a b : Nat}, ¬ a < b → Nat.blt a b = false := fun h => by rw [Bool.eq_false_iff]; simpa using h
  unfold vE insR appEl
  rw [Int.toNat_zero, Nat.sub_zero, Nat.zero_add]
  by_cases h1 : p < k
  · rw [if_pos h1, hb (show p < k + 1 by omega), cond_true, hb h1, cond_true, hn (show ¬ p < 0 by omega)]; rfl
  · rw [if_neg h1]
    by_cases h2 : p = k
    · subst h2
      rw [if_pos rfl, hb (show p < p + 1 by omega), cond_true, hn h1, cond_false, Nat.sub_self]; rfl
    · rw [if_neg h2, hn (show ¬ p < k + 1 by omega), cond_false]
      show nmE (y (p - (k + 1) + k)) = _
      rw [show p - (k + 1) + k = p - 1 by omega]
theorem toL_ins (y : Nat → Nat → Dt) (k : Nat) (e : Nat → Dt) {m : Nat} (hk : k ≤ m) : (toL (m + 1) (insR y k e)).Perm (toL m y ++ [nmE e]) := by
  induction m with
  | zero =>
    obtain rfl : k = 0 := by omega
    show (toL (0 + 1) _).Perm _
    rw [toL_succ, vE_ins, if_neg (by omega), if_pos rfl]
    exact List.Perm.refl _
  | succ m ih =>
    rw [toL_succ (m + 1)]
    by_cases h : k ≤ m
    · rw [vE_ins, if_neg (by omega), if_neg (by omega), show m + 1 - 1 = m by omega, toL_succ m y, List.append_assoc]
      refine ((ih h).append_right _).trans ?_
      rw [List.append_assoc]
      exact (List.Perm.swap _ _ _).append_left _
    · obtain rfl : k = m + 1 := by omega
      rw [vE_ins, if_neg (by omega), if_pos rfl]
      rw [toL_congr (y := y) fun i hi => by rw [vE_ins, if_pos hi]]
theorem lx_vE {x : Nat → Nat → Dt} {i k : Nat} : lxE x i k ↔ (kyL (vE x i)).1 < (kyL (vE x k)).1 ∨ ((kyL (vE x i)).1 = (kyL (vE x k)).1 ∧ (kyL (vE x i)).2 < (kyL (vE x k)).2) := Iff.rfl
/-- the place: all before come before; the one there does not -/
theorem skF_ok (y x : Nat → Nat → Dt) (i : Nat) : ∀ f k, (∀ p, k ≤ p → p < skF y x i f k → cpI (y p 0).n (y p 1).n (x i 0).n (x i 1).n < 0) ∧ (skF y x i f k < k + f → ¬ cpI (y (skF y x i f k) 0).n (y (skF y x i f k) 1).n (x i 0).n (x i 1).n < 0)
  | 0, k => ⟨fun p h1 h2 => by simp only [skF] at h2; omega, fun h => by simp only [skF] at h; omega⟩
  | f + 1, k => by
    simp only [skF]
    by_cases hc : cpI (y k 0).n (y k 1).n (x i 0).n (x i 1).n < 0
    · rw [if_pos hc]
      obtain ⟨h1, h2⟩ := skF_ok y x i f (k + 1)
      refine ⟨fun p hp hq => ?_, fun h => h2 (by omega)⟩
      by_cases e : p = k
      · subst e; exact hc
      · exact h1 p (by omega) hq
    · rw [if_neg hc]
      exact ⟨fun p h1 h2 => by omega, fun _ => hc⟩
theorem rsF_ok {n : Nat} {x : Nat → Nat → Dt} : ∀ (f i : Nat) (y : Nat → Nat → Dt), i + f = n → (∀ a b, a < b → b < i → lxE y a b) → (toL i y).Perm (toL i x) →
    ((rsF x f i y).1 = true → (rsF x f i y).2.1 = n ∧ (∀ a b, a < b → b < n → lxE (rsF x f i y).2.2 a b) ∧ (toL n (rsF x f i y).2.2).Perm (toL n x)) ∧ ((rsF x f i y).1 = false → ¬ dsL n x)
  | 0, i, y, hn, hs, hp => by
    obtain rfl : i = n := by omega
    exact ⟨fun _ => ⟨rfl, hs, hp⟩, fun h => by simp [rsF] at h⟩
  | f + 1, i, y, hn, hs, hp => by
    have hle := (skF_le y x i i 0).2
    rw [Nat.zero_add] at hle
    obtain ⟨p1, p2⟩ := skF_ok y x i i 0
    rw [Nat.zero_add] at p2
    simp only [rsF]
    by_cases hc : skF y x i i 0 < i ∧ cpI (y (skF y x i i 0) 0).n (y (skF y x i i 0) 1).n (x i 0).n (x i 1).n = 0
    · rw [if_pos hc]
      refine ⟨fun h => by simp at h, fun _ hd => ?_⟩
      obtain ⟨q, hq, e⟩ := toL_mem.1 (hp.mem_iff.1 (toL_mem.2 ⟨_, hc.1, rfl⟩))
      have he := cp_zero.1 hc.2
      have hv := vE_cell e
      exact dsL_iff.1 hd q i hq (by omega) ⟨hv.1.symm.trans he.1, hv.2.1.symm.trans he.2⟩
    · rw [if_neg hc]
      generalize hK : skF y x i i 0 = K at hc hle p1 p2
      refine rsF_ok f (i + 1) (insR y K (x i)) (by omega) (fun a b hab hb => ?_) ?_
      · rw [lx_vE, vE_ins, vE_ins]
        have hk1 : ∀ p, p < K → lxE y p p ∨ ((y p 0).n < (x i 0).n ∨ ((y p 0).n = (x i 0).n ∧ (y p 1).n < (x i 1).n)) := fun p hp => .inr (cp_lt.1 (p1 p (Nat.zero_le _) hp))
        have hx0 : (kyL (nmE (x i))) = ((x i 0).n, (x i 1).n) := rfl
        have hxlt : ∀ p, K ≤ p → p < i → (x i 0).n < (y p 0).n ∨ ((x i 0).n = (y p 0).n ∧ (x i 1).n < (y p 1).n) := fun p h1 h2 => by
          have h3 := p2 (by omega)
          have h4 : ¬ cpI (y K 0).n (y K 1).n (x i 0).n (x i 1).n = 0 := fun e => hc ⟨by omega, e⟩
          rw [cp_lt] at h3
          rw [cp_zero] at h4
          by_cases e : p = K
          · subst e; omega
          · have := hs K p (by omega) h2
            unfold lxE at this
            omega
        by_cases b1 : b < K
        · rw [if_pos b1, if_pos (by omega), ← lx_vE]
          exact hs a b hab (by omega)
        · rw [if_neg b1]
          by_cases b2 : b = K
          · rw [if_pos b2, if_pos (by omega), hx0]
            exact cp_lt.1 (p1 a (Nat.zero_le _) (by omega))
          · rw [if_neg b2]
            by_cases a1 : a < K
            · rw [if_pos a1, ← lx_vE]
              exact hs a (b - 1) (by omega) (by omega)
            · rw [if_neg a1]
              by_cases a2 : a = K
              · rw [if_pos a2, hx0]
                exact hxlt (b - 1) (by omega) (by omega)
              · rw [if_neg a2, ← lx_vE]
                exact hs (a - 1) (b - 1) (by omega) (by omega)
      · refine (toL_ins y K (x i) hle).trans ?_
        rw [toL_succ]
        exact hp.append_right _
theorem rs_so (n : Nat) (x : Nat → Nat → Dt) : (rsF x n 0 zeroEl).1 = dfB n (soF n x) ∧ (dfB n (soF n x) = true → (rsF x n 0 zeroEl).2.1 = n ∧ ∀ i, i < n → vE (soF n x) i = vE (rsF x n 0 zeroEl).2.2 i) := by
  obtain ⟨h1, h2⟩ := rsF_ok (n := n) (x := x) n 0 zeroEl (by omega) (fun a b _ hb => by omega) (List.Perm.refl _)
  have hd := dfB_iff n x
  have key : (rsF x n 0 zeroEl).1 = true → (rsF x n 0 zeroEl).2.1 = n ∧ dsL n x ∧ toL n (soF n x) = toL n (rsF x n 0 zeroEl).2.2 := fun h => by
    obtain ⟨e1, e2, e3⟩ := h1 h
    have hds : dsL n x := (dsL_perm e3).1 (dsL_iff.2 fun a b hab hb he => by
      have := e2 a b hab hb
      unfold lxE at this
      omega)
    obtain ⟨s1, s2⟩ := soF_ok n x
    refine ⟨e1, hds, sorted_eq s1 (fun a b hab hb h => ?_) (s2.trans e3.symm) ((dsL_perm s2).2 hds)⟩
    have := e2 a b hab hb
    unfold lxE at this h
    omega
  have heq : (rsF x n 0 zeroEl).1 = dfB n (soF n x) := by
    cases hr : (rsF x n 0 zeroEl).1 with
    | true => exact (hd.2 (key hr).2.1).symm
    | false =>
      cases hdf : dfB n (soF n x) with
      | true => exact absurd (hd.1 hdf) (h2 hr)
      | false => rfl
  exact ⟨heq, fun h => by
    obtain ⟨e1, _, e2⟩ := key (heq.trans h)
    exact ⟨e1, toL_eq e2⟩⟩
end Go.Proofs.Ytfgniheefiefjaa
